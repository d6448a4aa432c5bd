/-
  Sim4, Cmp, SortItems, Sim5, Add, BuildL, Sim1, Sim2, EngP, EngO, G1, put together.
  Conditions: none; each part tells its own.
-/
import Derived.Test.YtnkmpgldbddnkaaDoorK2
import Derived.KernelRfl
import Derived.Lib.Walk
import Derived.StillTailTactics
import Derived.Sort.Grow
import Derived.Test.YtnkmpgldbddnkaaDoorK1
namespace Go.Proofs.YtnkmpgldbddnkaaDoor
open Go Go.Eng
set_option linter.unusedVariables false
set_option maxRecDepth 100000
theorem IH:G6 Tryd.prog 22 22 5 1:=⟨Tryd.underlying22, .inl Tryd.underlying22,⟨Tryd.t5,by kernel_rfl,rfl,⟨_,rfl,rfl⟩,by decide,by decide⟩,by decide⟩
theorem CT:G6 Tryd.prog 30 30 3 1:=⟨Tryd.underlying30, .inl Tryd.underlying30,⟨Tryd.t3,by kernel_rfl,rfl,⟨_,rfl,rfl⟩,by decide,by decide⟩,by decide⟩
noncomputable def Cr (kernel_0:List BI):Option ByteArray:=
 (Fe (σ:=List Int) (0:Int) (((List.length kernel_0):Nat):Int) ([] :List Int) fun i_z2 z2=>
  (idx kernel_0 i_z2).bind fun e28=>
  (Cm z2 e28.1 (10:Int)).bind fun t8=>
  (app t8 ([(46:Int)] :List Int)).bind fun t10=>
  (Cm t10 e28.2 (10:Int)).bind fun t12=>
  (app t12 ([(32:Int)] :List Int)).bind fun t14=>
  some t14).bind fun z1=>
 (Kk z1).bind fun t15=>
 some t15
theorem Hs {h:AF} {kernel_0:Slc} {e:List BI} (gk:FC (BT h)) (j:Ro.SliceIs Bx (BT h) kernel_0 e) (s0:St (BT h) [] h) {r:ByteArray} (hd:Cr e=some r):
 CallsH Tryd.prog 28 [(.slice kernel_0.1 kernel_0.2.1 kernel_0.2.2)] h (BO fun v h'=> ∃ψ:AE,∃y:ByteArray,Sub (BT h) ψ∧v=((.one (.atom .string)):Sh).val y∧y=r∧St ψ [] h'):=by
 refine Aa mixed Tryd.func28 ?_
 rw [H9]
 unfold HB
 unfold Cr at hd
 have k:kernel_0.2.1=List.length e:=j.length
 have a3:=s0.nil 5 (Ro.int .u8)
 obtain ⟨a4,a5,hd⟩:=bS hd
 refine Ad (fun (y:Int×(Option Addr×Nat×Nat)×Unit) w_ g=> ∃ψ:AE,∃l:List Int,Sub (BT h) ψ∧ψ=(BT h)∧l=g∧St ψ (cR 5 (Ro.int .u8) y.2.1 l:: []) w_) (g:=a4) ?_ ?_
 ·refine D4 a5 (fun a6 (y:Int×(Option Addr×Nat×Nat)×Unit) w_ g=> ∃ψ:AE,∃m:List Int,Sub (BT h) ψ∧ψ=(BT h)∧y.1=a6∧m=g∧St ψ (cR 5 (Ro.int .u8) y.2.1 m:: []) w_) ((0:Int),((none,0,0):Slc),()) rfl ⟨(BT h),([] :List Int),(Sub.refl _),rfl,rfl,rfl,a3⟩ ?_ ?_
  ·rintro _ z2 b2 _ _ ⟨b3,b4,n,rfl,rfl,rfl,c⟩ b a7 o p
   try dsimp only at b a7 o p
   have b5:=c.rowLen
   refine Az (by rw [k]; exact decide_eq_true o) ?_
   obtain ⟨d,a8,b⟩:=bS b
   obtain ⟨b6,b7,a9,aa,ab,q⟩:=(j.mono n).get a8
   refine AG _ a9 (AZ aa ?_)
   obtain ⟨_,_,rfl,ac,ad⟩:=ab
   obtain rfl:=ac
   obtain rfl:=ad
   refine AL (x:=d.1) (AB (Sub.trans (Sub.refl _) c.sub) (q 0 _ rfl)) rfl ?_
   refine AL (x:=d.2) (by rw [AV]; exact (AB (Sub.trans (Sub.refl _) c.sub) (q 1 _ rfl))) rfl ?_
   refine Ac (vs:= [.int .i64 (0:Int), .int .i64 (0:Int)]) c fun r6 b8 ae=> ?_
   refine AJ ae rfl rfl fun b9 af=> ?_
   refine AJ af rfl rfl fun ba s=> ?_
   refine AA (x:=d.1) s rfl ?_
   have ag:=s.at1
   obtain ⟨bb,ah,b⟩:=bS b
   refine AK (Gi gk ag ah) ?_
   rintro _ bc ⟨bd,t8,be,ai,rfl,rfl,rfl,t⟩
   refine ⟨t8,rfl,?_⟩
   have bf:=t.rowLen
   refine Ac (vs:= [.int .u8 (46:Int)]) t fun r9 bg u=> ?_
   have aj:=St.cells u
   have ak:=u.tail
   obtain ⟨bh,al,b⟩:=bS b
   refine Aq (r:=(Ro.int .u8)) (ms:=([(46:Int)] :List Int)) IH ak rfl aj (.cons (a:= [_]) rfl .nil) rfl al ?_
   intro t10 bi f
   have bj:=f.rowLen
   refine AA (x:=d.2) f.at1 rfl ?_
   obtain ⟨bk,am,b⟩:=bS b
   refine AK (Gi gk f am) ?_
   rintro _ bl ⟨bm,t12,bn,an,rfl,rfl,rfl,w⟩
   refine ⟨t12,rfl,?_⟩
   have bo:=w.rowLen
   refine Ac (vs:= [.int .u8 (32:Int)]) w fun r13 bp z=> ?_
   have ao:=St.cells z
   have ap:=z.tail
   obtain ⟨aq,ar,b⟩:=bS b
   refine Aq (r:=(Ro.int .u8)) (ms:=([(32:Int)] :List Int)) IH ap rfl ao (.cons (a:= [_]) rfl .nil) rfl ar ?_
   intro t14 bq a0
   have br:=a0.rowLen
   have au:=a0.at1.tail
   obtain rfl:=iS b
   exact Ar ((IntKind.wrap .i64 (z2.1+(1:Int))),t14,()) _ rfl rfl ⟨(BT h),aq,((n.trans ai).trans an),rfl,p,rfl,au⟩
  ·rintro _ z2 bs ⟨bt,av,aw,rfl,rfl,rfl,a1⟩ ax
   have bu:=a1.rowLen
   refine Al (by rw [k]; exact decide_eq_false (Int.not_lt.2 ax)) ?_
   exact AO (AS (z2.1,z2.2.1,()) rfl ⟨(BT h),av,aw,rfl,rfl,a1⟩)
 rintro z1 bv ⟨bw,bx,ay,rfl,rfl,i⟩
 try dsimp only at hd
 have bz:=i.rowLen
 have az:=St.bytes i
 obtain ⟨a2,b0,hd⟩:=bS hd
 refine KL (x:=a2) Tryd.underlying22 Tryd.underlying5 Tryd.underlying9 az b0 ?_
 obtain rfl:=iS hd
 have b1:=i.tail
 exact AC ⟨(BT h),a2,ay,(by first | with_reducible rfl | (show Value.string _=Value.string _; with_reducible rfl) | rfl),(by first | with_reducible rfl | rfl),b1⟩
theorem GG {φ:AE} {h:AF} {F:List Chk} {kernel_0:Slc} {a:List BI} (gk:FC φ) (b:Ro.SliceIs Bx φ kernel_0 a) (s0:St φ (F) h) {r:ByteArray} (hd:Cr a=some r):
 CallsH Tryd.prog 28 [(.slice kernel_0.1 kernel_0.2.1 kernel_0.2.2)] h (BO fun v h'=> ∃ψ:AE,∃y:ByteArray,Sub φ ψ∧v=((.one (.atom .string)):Sh).val y∧y=r∧St ψ (F) h'):=by
 refine CallsH.mono (Hs (gk.mono s0.sub) (b.mono s0.sub) (Sub.refl _) hd) ?_
 rintro e h' ⟨v,rfl,ψ,y,hs,rfl,rfl,s1⟩
 exact ⟨_,rfl,φ,y,Sub.refl _,rfl,rfl,s0.keep (hs.trans s1.sub)⟩
noncomputable def BF (a_0:Gg) (items_1:List BI):Option (List Int):=
 (Fe (σ:=List Int) (0:Int) (((List.length items_1):Nat):Int) ([] :List Int) fun i_z2 z2=>
  (idx items_1 i_z2).bind fun e31=>
  (BM a_0 (e31.1,e31.2)).bind fun t9=>
  (cond (decide (t9≥ (0:Int)))
  ((app z2 ([t9] :List Int)).bind fun t12=>
   some t12)
  (some z2)).bind fun z10=>
  some z10).bind fun z1=>
 (Km z1).bind fun t13=>
 (HH t13).bind fun t14=>
 some t14
theorem FD {φ:AE} {h:AF} {F:List Chk} {a_0:Option Addr} {e:Gg} {items_1:Slc} {i:List BI} (l:Ro.SliceIs Bx φ items_1 i) (s0:St φ (cO 70 (Rep.ro CL) a_0 e::F) h) {r:(List Int)} (hd:BF e i=some r):
 CallsH Tryd.prog 31 [(.pointer a_0),(.slice items_1.1 items_1.2.1 items_1.2.2)] h (BO fun v h'=> ∃ψ:AE,∃y:Option Addr×Nat×Nat,∃m:List Int,Sub φ ψ∧v=((.one (.atom .slice)):Sh).val y∧m=r∧Ro.SliceIs (Ro.int .i64) ψ y m∧St ψ (cO 70 (Rep.ro CL) a_0 e::F) h'):=by
 refine Aa mixed Tryd.func31 ?_
 rw [E6]
 unfold DZ
 unfold BF at hd
 have n:items_1.2.1=List.length i:=l.length
 have a8:=s0.nil 3 (Ro.int .i64)
 have a9:=a8.at1
 have aa:=a9.at1
 obtain ⟨ab,ac,hd⟩:=bS hd
 refine Ad (fun (y:Int×(Option Addr×Nat×Nat)×Unit) w_ g=> ∃ψ:AE,∃o:List Int,Sub φ ψ∧o=g∧St ψ (cR 3 (Ro.int .i64) y.2.1 o::cO 70 (Rep.ro CL) a_0 e::F) w_) (g:=ab) ?_ ?_
 ·refine D4 ac (fun ad (y:Int×(Option Addr×Nat×Nat)×Unit) w_ g=> ∃ψ:AE,∃p:List Int,Sub φ ψ∧y.1=ad∧p=g∧St ψ (cR 3 (Ro.int .i64) y.2.1 p::cO 70 (Rep.ro CL) a_0 e::F) w_) ((0:Int),((none,0,0):Slc),()) rfl ⟨φ,([] :List Int),(Sub.refl _),rfl,rfl,aa⟩ ?_ ?_
  ·rintro _ z2 bs _ _ ⟨bt,ae,q,rfl,rfl,f⟩ b af s u
   try dsimp only at b af s u
   have bu:=f.rowLen
   refine Az (by rw [n]; exact decide_eq_true s) ?_
   obtain ⟨c,ag,b⟩:=bS b
   obtain ⟨bv,bw,ah,ai,aj,w⟩:=(l.mono q).get ag
   refine AG _ ah (AZ ai ?_)
   obtain ⟨_,_,rfl,ak,al⟩:=aj
   obtain rfl:=ak
   obtain rfl:=al
   refine AL (x:=c.1) (AB (Sub.trans (Sub.refl _) f.sub) (w 0 _ rfl)) rfl ?_
   refine AL (x:=c.2) (by rw [AV]; exact (AB (Sub.trans (Sub.refl _) f.sub) (w 1 _ rfl))) rfl ?_
   refine Ac (vs:= [.int .i64 (0:Int), .int .i64 (0:Int)]) f fun r6 bx am=> ?_
   refine AJ am rfl rfl fun bz an=> ?_
   refine AJ an rfl rfl fun c0 j=> ?_
   refine AA (x:=c.1) j rfl ?_
   refine AA (x:=c.2) j rfl ?_
   have ao:=j.at2
   obtain ⟨c1,ap,b⟩:=bS b
   refine AK (CS (x_1:=(c.1,c.2,())) ao ap) ?_
   rintro _ c2 ⟨k,t9,aq,rfl,rfl,z⟩
   refine ⟨t9,rfl,?_⟩
   obtain ⟨ar,d,b⟩:=bS b
   refine Ak (fun (y:(Option Addr×Nat×Nat)×Unit) w_ g=> ∃ψ:AE,∃a0:List Int,Sub k ψ∧a0=g∧St ψ (cR 3 (Ro.int .i64) y.1 a0::cO 70 (Rep.ro CL) a_0 e::cW 44 r6 [.int .i64 c.1, .int .i64 c.2] ::F) w_) (g:=ar) ?_ ?_
   ·refine AH d rfl (fun _ d=> ?_) (fun _ d=> ?_)
    ·refine Ac (vs:= [.int .i64 t9]) z fun r11 c3 a1=> ?_
     have au:=St.cells a1
     have av:=a1.tail
     have aw:=av.at2
     obtain ⟨ax,ay,d⟩:=bS d
     refine Aq (r:=(Ro.int .i64)) (ms:=([t9] :List Int)) CT aw rfl au (.cons (a:= [_]) rfl .nil) rfl ay ?_
     intro t12 c4 a2
     have c5:=a2.rowLen
     have az:=a2.at2
     have b0:=az.at2
     have b1:=b0.at2
     obtain rfl:=iS d
     exact AN (t12,()) rfl ⟨k,ax,(Sub.refl _),rfl,b1⟩
    have b2:=z.at2
    have b3:=b2.at2
    have b4:=b3.at2
    have b5:=b4.at2
    obtain rfl:=iS d
    exact AN (z2.2.1,()) rfl ⟨k,ae,(Sub.refl _),rfl,b5⟩
   rintro z10 c6 ⟨b6,b7,b8,rfl,a3⟩
   try dsimp only at b
   have c7:=a3.rowLen
   have b9:=a3.at2.tail
   have ba:=b9.at1
   have bb:=ba.at1
   obtain rfl:=iS b
   exact Ar ((IntKind.wrap .i64 (z2.1+(1:Int))),z10.1,()) _ rfl rfl ⟨b6,b7,((q.trans aq).trans b8),u,rfl,bb⟩
  ·rintro _ z2 c8 ⟨bc,bd,be,rfl,rfl,a4⟩ bf
   have c9:=a4.rowLen
   refine Al (by rw [n]; exact decide_eq_false (Int.not_lt.2 bf)) ?_
   have bg:=a4.at1
   have bh:=bg.at1
   exact AO (AS (z2.1,z2.2.1,()) rfl ⟨bc,bd,be,rfl,bh⟩)
 rintro z1 ca ⟨cb,cc,bi,rfl,a5⟩
 try dsimp only at hd
 have cd:=a5.rowLen
 obtain ⟨ce,bj,hd⟩:=bS hd
 refine AK (LL a5 bj) ?_
 rintro _ cf ⟨cg,t13,ch,bk,rfl,rfl,a6⟩
 refine ⟨t13,rfl,?_⟩
 have ci:=a6.rowLen
 obtain ⟨cj,bl,hd⟩:=bS hd
 refine AK (Jm a6 bl) ?_
 rintro _ ck ⟨cl,t14,bm,bn,rfl,rfl,a7⟩
 refine ⟨t14,rfl,?_⟩
 have cm:=a7.rowLen
 obtain ⟨bo,bp,bq,br⟩:=St.freezeRow (t:=t14) a7
 obtain rfl:=iS hd
 exact AC ⟨bo,t14,bm,(((bi.trans bk).trans bn).trans bp),rfl,rfl,bq,br⟩
noncomputable def BR (a_0:EP) (n_1:Int):Option (List BI):=
 (BA a_0 n_1).bind fun t1=>
 (D9 t1.2.1).bind fun t2=>
 some t2
theorem CX {φ:AE} {h:AF} {F:List Chk} {a_0:Option Addr} {a:EP} {n_1:Int} (e:Pt H8 φ a_0 a) (s0:St φ (F) h) {r:(List BI)} (hd:BR a n_1=some r):
 CallsH Tryd.prog 14 [(.pointer a_0),(.int .i64 n_1)] h (BO fun v h'=> ∃ψ:AE,∃y:Option Addr×Nat×Nat,∃b:List BI,Sub φ ψ∧v=((.one (.atom .slice)):Sh).val y∧b=r∧Ro.SliceIs Bx ψ y b∧St ψ (F) h'):=by
 refine Aa mixed Tryd.func14 ?_
 rw [Fh]
 unfold EF
 unfold BR at hd
 obtain ⟨u,f,hd⟩:=bS hd
 refine AK (Bp e s0 f) ?_
 rintro _ w ⟨x,t1,z,a0,a1,g,rfl,rfl,i,c,j,k⟩
 refine ⟨t1,rfl,?_⟩
 try dsimp only at hd
 have a2:=i.length
 have a3:=c.length
 have a4:=j.length
 obtain ⟨a5,l,hd⟩:=bS hd
 refine AK (GB c k l) ?_
 rintro _ a6 ⟨a7,t2,m,n,rfl,rfl,d⟩
 refine ⟨t2,rfl,?_⟩
 have a8:=d.rowLen
 obtain ⟨o,p,q,s⟩:=St.freezeRow (t:=t2) d
 obtain rfl:=iS hd
 exact AC ⟨o,t2,m,((g.trans n).trans p),rfl,rfl,q,s⟩
noncomputable def A3 (a_0:EP) (n_1:Int):Option (List BI):=
 (BA a_0 n_1).bind fun t1=>
 (D9 t1.1).bind fun t2=>
 some t2
theorem B4 {φ:AE} {h:AF} {F:List Chk} {a_0:Option Addr} {a:EP} {n_1:Int} (e:Pt H8 φ a_0 a) (s0:St φ (F) h) {r:(List BI)} (hd:A3 a n_1=some r):
 CallsH Tryd.prog 15 [(.pointer a_0),(.int .i64 n_1)] h (BO fun v h'=> ∃ψ:AE,∃y:Option Addr×Nat×Nat,∃b:List BI,Sub φ ψ∧v=((.one (.atom .slice)):Sh).val y∧b=r∧Ro.SliceIs Bx ψ y b∧St ψ (F) h'):=by
 refine Aa mixed Tryd.func15 ?_
 rw [FR]
 unfold Dr
 unfold A3 at hd
 obtain ⟨u,f,hd⟩:=bS hd
 refine AK (Bp e s0 f) ?_
 rintro _ w ⟨x,t1,z,a0,a1,g,rfl,rfl,c,i,j,k⟩
 refine ⟨t1,rfl,?_⟩
 try dsimp only at hd
 have a2:=c.length
 have a3:=i.length
 have a4:=j.length
 obtain ⟨a5,l,hd⟩:=bS hd
 refine AK (GB c k l) ?_
 rintro _ a6 ⟨a7,t2,m,n,rfl,rfl,d⟩
 refine ⟨t2,rfl,?_⟩
 have a8:=d.rowLen
 obtain ⟨o,p,q,s⟩:=St.freezeRow (t:=t2) d
 obtain rfl:=iS hd
 exact AC ⟨o,t2,m,((g.trans n).trans p),rfl,rfl,q,s⟩
noncomputable def B1 (a_0:EP) (n_1:Int):Option (List Hr):=
 (BA a_0 n_1).bind fun t1=>
 (D9 t1.2.2.1).bind fun t2=>
 some t2
theorem Fo {φ:AE} {h:AF} {F:List Chk} {a_0:Option Addr} {a:EP} {n_1:Int} (e:Pt H8 φ a_0 a) (s0:St φ (F) h) {r:(List Hr)} (hd:B1 a n_1=some r):
 CallsH Tryd.prog 22 [(.pointer a_0),(.int .i64 n_1)] h (BO fun v h'=> ∃ψ:AE,∃y:Option Addr×Nat×Nat,∃b:List Hr,Sub φ ψ∧v=((.one (.atom .slice)):Sh).val y∧b=r∧Ro.SliceIs Gt ψ y b∧St ψ (F) h'):=by
 refine Aa mixed Tryd.func22 ?_
 rw [Fi]
 unfold EG
 unfold B1 at hd
 obtain ⟨u,f,hd⟩:=bS hd
 refine AK (Bp e s0 f) ?_
 rintro _ w ⟨x,t1,z,a0,a1,g,rfl,rfl,i,j,c,k⟩
 refine ⟨t1,rfl,?_⟩
 try dsimp only at hd
 have a2:=i.length
 have a3:=j.length
 have a4:=c.length
 obtain ⟨a5,l,hd⟩:=bS hd
 refine AK (Jh c k l) ?_
 rintro _ a6 ⟨a7,t2,m,n,rfl,rfl,d⟩
 refine ⟨t2,rfl,?_⟩
 have a8:=d.rowLen
 obtain ⟨o,p,q,s⟩:=St.freezeRow (t:=t2) d
 obtain rfl:=iS hd
 exact AC ⟨o,t2,m,((g.trans n).trans p),rfl,rfl,q,s⟩
end Go.Proofs.YtnkmpgldbddnkaaDoor
namespace Go.Proofs.YtnkmpgldbddnkaaDoor
open Go Go.Eng Go.RowKit Go.Shelf Go.Sort
set_option linter.unusedVariables false
set_option maxRecDepth 100000
def orI (x y:Int):Int:=if x=0 then y else x
set_option maxHeartbeats 1000000 in
theorem or2 {b:Nat} {x y:Int} (w:World) (h0:w.cell? ⟨b,0,none⟩=some (.int .i64 x)) (h1:w.cell? ⟨b,1,none⟩=some (.int .i64 y)):
 Calls Tryd.prog 60 #[.slice (some ⟨b,0,none⟩) 2 2] w fun e w'=>e= .returned (.int .i64 (orI x y))∧w'=w:=by
 have hmx:Tryd.prog.follows .mixedOrders=true:=mixed
 go_enter Tryd.func60,Tryd.ntmps60
 go_wp2
 go_loop [5,8] (fun _ i=> ∃k:Nat,k≤2∧i= .int .i64 k∧(1≤k→x=0)∧(2≤k→y=0)) (fun _ i=>match i with | .int _ m=>2 - m.toNat | _=>0)
 case atStart=>exact ⟨0,by omega,rfl,by omega,by omega⟩
 case round=>
  obtain ⟨k,hk,rfl,g1,g2⟩:=hrel
  have hk3:k=0∨k=1∨k=2:=by omega
  rcases hk3 with rfl | rfl | rfl
  ·go_wp2
   ·have hne:(x !=0)=true:=by assumption
    go_ret
    exact ⟨by unfold orI; rw [if_neg (by simpa using hne)]; rfl,rfl⟩
   ·have hne:(x !=0)=false:=by assumption
    exact ⟨⟨1,by omega,rfl,fun _=>by simpa using hne,fun h=>by omega⟩,by decide⟩
  ·go_wp2
   ·have hne:(y !=0)=true:=by assumption
    go_ret
    have hx:=g1 (by omega); subst hx; exact ⟨rfl,rfl⟩
   ·have hne:(y !=0)=false:=by assumption
    exact ⟨⟨2,by omega,rfl,fun _=>g1 (by omega),fun _=>by simpa using hne⟩,by decide⟩
  ·go_wp2
   go_ret
   have hx:=g1 (by omega); have hy:=g2 (by omega); subst hx; subst hy; exact ⟨rfl,rfl⟩
theorem GU {w:World} {b i:Nat} {c:Array Value} {t:TypeId} {v:Value} (hb:w.heap[b]? =some (.cells c t (0,0))) (hv:c[i]? =some v):w.cell? ⟨b,i,none⟩=some v:=by
 rw [J2,Dm (c:=c) (t:=t) (f:=(0,0)) hb rfl]
 exact hv
theorem Iw (w:World) (x y:Int):(w.alloc (.cells #[.int .i64 x, .int .i64 y] 3)).cell? ⟨w.heap.size,0,none⟩=some (.int .i64 x)∧(w.alloc (.cells #[.int .i64 x, .int .i64 y] 3)).cell? ⟨w.heap.size,1,none⟩=some (.int .i64 y):=by
 have hb:(w.alloc (.cells #[.int .i64 x, .int .i64 y] 3)).heap[w.heap.size]? =some (.cells #[.int .i64 x, .int .i64 y] 3 (0,0)):=by
  show (w.heap.push _)[w.heap.size]? =_
  rw [Array.getElem?_push,if_pos rfl]
 exact ⟨GU hb rfl,GU hb rfl⟩
theorem II (w:World) (o:Obj):w.alloc o=grow w #[o] :=by
 show ({w with heap:=w.heap.push o} :World)= {w with heap:=w.heap++ #[o] }
 rw [Array.push_eq_append]
set_option maxHeartbeats 4000000 in
theorem Nr {a b:Int×Int} (w:World):
 Calls Tryd.prog 48 #[.agg #[.int .i64 a.1, .int .i64 a.2], .agg #[.int .i64 b.1, .int .i64 b.2]] w fun e w'=>e= .returned (.int .i64 (orI (Lib.compareInt a.1 b.1) (Lib.compareInt a.2 b.2)))∧ ∃q os',w'=grow (w.drewN q) os':=by
 have hmx:Tryd.prog.follows .mixedOrders=true:=mixed
 have e61: ∀args w,(callFunc 61 args).run Tryd.prog w= .ok (.enter 61 args) w:=enters_of Tryd.func61 (by kernel_rfl) rfl
 have e60: ∀args w,(callFunc 60 args).run Tryd.prog w= .ok (.enter 60 args) w:=enters_of Tryd.func60 (by kernel_rfl) rfl
 go_enter Tryd.func48,Tryd.ntmps48
 go_wp2
 obtain ⟨A,hA⟩: ∃A,A=Obj.cells #[Value.int .i64 a.1,Value.int .i64 a.2] 44 (0,0):=⟨_,rfl⟩
 obtain ⟨B,hB⟩: ∃B,B=Obj.cells #[Value.int .i64 b.1,Value.int .i64 b.2] 44 (0,0):=⟨_,rfl⟩
 obtain ⟨W,hW⟩: ∃W,W=(w.alloc A).alloc B:=⟨_,rfl⟩
 have hh:W.heap=(w.heap.push A).push B:=by rw [hW]; rfl
 have ha:W.heap[w.heap.size]? =some A:=by rw [hh,Array.getElem?_push,if_neg (by simp),Array.getElem?_push,if_pos rfl]
 have hb:W.heap[w.heap.size+1]? =some B:=by rw [hh,Array.getElem?_push,if_pos (by simp)]
 rw [← hA,← hB,← hW]
 rw [hA] at ha
 rw [hB] at hb
 have f1:W.drew.cell? ⟨w.heap.size,0,none⟩=some (.int .i64 a.1):=GU (w:=W.drew) ha rfl
 have f2:W.drew.cell? ⟨w.heap.size,1,none⟩=some (.int .i64 a.2):=GU (w:=W.drew) ha rfl
 have f3:W.drew.cell? ⟨w.heap.size+1,0,none⟩=some (.int .i64 b.1):=GU (w:=W.drew) hb rfl
 have f4:W.drew.cell? ⟨w.heap.size+1,1,none⟩=some (.int .i64 b.2):=GU (w:=W.drew) hb rfl
 have hWg:grow w #[A,B] =W:=by rw [hW,II,II,grow_grow]; rfl
 clear hh ha hb hW hA hB
 refine wp_region_still_tail 10 (by kernel_rfl) (by kernel_rfl) ?_
 simp only [List.take_succ_cons,List.take_zero,List.drop_succ_cons,List.drop_zero]
 still_step
 still_step
 still_step
 still_step
 still_call (Any.cmp_Compare_int HG _ _ _)
 still_step
 still_step
 still_step
 still_step
 still_call (Any.cmp_Compare_int HG _ _ _)
 refine wpStill_nil ?_
 clear f1 f2 f3 f4
 change wpList _ _ _ _ _ W.drew
 generalize hV:W.drew=V
 go_wp2_with (go_at_call 60; refine (or2 (x:=Lib.compareInt a.1 b.1) (y:=Lib.compareInt a.2 b.2) _ (Iw _ _ _).1 (Iw _ _ _).2).mono ?_; rintro e w' ⟨rfl,rfl⟩)
 go_ret
 refine ⟨rfl,1,#[A,B] ++ #[.cells #[.int .i64 (Lib.compareInt a.1 b.1), .int .i64 (Lib.compareInt a.2 b.2)] 3 (0,0)],?_⟩
 rw [II,← hV,← hWg,← grow_grow]
 rfl
abbrev Item:=Int×Int
def Dy (x:Item):List Value:= [.int .i64 x.1, .int .i64 x.2]
def cfI (x y:Item):Int:=orI (Lib.compareInt x.1 y.1) (Lib.compareInt x.2 y.2)
def Cn (x y:Item):Bool:=decide (x.1<y.1∨x.1=y.1∧x.2<y.2)
def Ef (l:List Item):List Item:=Iv (fun x y=> !Cn y x) l
theorem HI (a b c:Item) (h1:(!Cn b a)=true) (h2:(!Cn c b)=true):(!Cn c a)=true:=by
 simp only [Cn,Bool.not_eq_true',decide_eq_false_iff_not] at *
 omega
theorem HJ (a b:Item):(!Cn b a || !Cn a b)=true:=by
 simp only [Cn,Bool.or_eq_true,Bool.not_eq_true',decide_eq_false_iff_not]
 omega
theorem LM (l:List Item):Ef l=l.mergeSort fun x y=> !Cn y x:=
 Jl HI HJ (fun a b h1 h2=>by
  simp only [Cn,Bool.not_eq_true',decide_eq_false_iff_not] at *
  exact Prod.ext (by omega) (by omega)) l
def FY (l:List Item):Option (List Item):=if l.length<4611686018427387904 then some (Ef l) else none
theorem LN {φ:AE} {vs:List Value} {l:List Item} (H:Bx.All φ vs l):vs=l.flatMap Dy:=by
 induction H with
 | nil=>rfl
 | cons h _ ih=>
  obtain ⟨_,_,rfl,rfl,rfl⟩:=h
  rw [ih,List.flatMap_cons]
  rfl
theorem LO {φ:AE} (l:List Item):Bx.All φ (l.flatMap Dy) l:=by
 induction l with
 | nil=>exact .nil
 | cons x l ih=>exact Ro.All.cons (a:=Dy x) ⟨[_],_,rfl,rfl,rfl⟩ ih
theorem L2 (l:List Item): ∀t:Nat,t<l.length * 2→(l.flatMap Dy)[t]? =some ((Dy (l[t / 2]?.getD (0,0)))[t % 2]!):=by
 induction l with
 | nil=>intro t h; simp at h
 | cons x l ih=>
  intro t h
  rw [List.flatMap_cons]
  match t with
  | 0=>rfl
  | 1=>rfl
  | t+2=>
   rw [List.getElem?_append_right (by simp [Dy])]
   have e:t+2 - (Dy x).length=t:=by simp [Dy]
   rw [e,ih t (by simp at h; omega),show (t+2) / 2=t / 2+1 by omega,List.getElem?_cons_succ,show (t+2) % 2=t % 2 by omega]
theorem HK (l:List Item):(l.flatMap Dy).length=l.length * 2:=by
 induction l with
 | nil=>rfl
 | cons x l ih=>rw [List.flatMap_cons,List.length_append,ih,List.length_cons]; simp [Dy]; omega
theorem IJ (l:List Item):flatK Dy 2 l.toArray=(l.flatMap Dy).toArray:=by
 refine ext_get! (by rw [size_flatK,List.size_toArray,List.size_toArray,HK]) fun t ht=> ?_
 rw [size_flatK,List.size_toArray] at ht
 rw [get_flatK _ _ _ _ (by simpa using ht)]
 have h1:=L2 l t ht
 have ht':t< (l.flatMap Dy).length:=by rw [HK]; exact ht
 rw [List.getElem?_eq_getElem ht'] at h1
 rw [getElem!_pos _ t (by simpa using ht')]
 have h2:t / 2<l.length:=by omega
 rw [getElem!_pos _ (t / 2) (by simpa using h2)]
 rw [List.getElem?_eq_getElem h2] at h1
 simp only [List.getElem_toArray]
 exact (Option.some.inj h1).symm
theorem IK (x y:Item):ltOf cfI x y=Cn x y:=by
 unfold ltOf cfI Cn orI Lib.compareInt
 by_cases h1:x.1<y.1
 ·simp [h1]
 ·by_cases h2:y.1<x.1
  ·have: ¬x.1=y.1:=by omega
   simp [h1,h2,this]
  ·have h3:x.1=y.1:=by omega
   by_cases h4:x.2<y.2
   ·simp [h3,h4]
   ·by_cases h5:y.2<x.2<;>simp [h3,h4,h5]
theorem KN (x y:Item):Cn x y=true ↔ (x.1<y.1∨x.1=y.1∧x.2<y.2):=by unfold Cn; exact decide_eq_true_iff
theorem GI (x y:Item):Cn x y=false ↔ ¬(x.1<y.1∨x.1=y.1∧x.2<y.2):=by unfold Cn; exact decide_eq_false_iff_not
theorem N1:SWO (ltOf cfI) where
 irrefl x:=by rw [IK,GI]; omega
 trans x y z h1 h2:=by rw [IK,KN] at *; omega
 ntrans x y z h1 h2:=by rw [IK,GI] at *; omega
theorem N2 (x y:Item) (h1:ltOf cfI x y=false) (h2:ltOf cfI y x=false):x=y:=by
 rw [IK,GI] at h1 h2
 exact Prod.ext (by omega) (by omega)
section
variable {φ:AE} {h:AF} {F:List Chk}
theorem KO {t:Slc} {l r:List Item} (s0:St φ (cR 44 Bx t l::F) h) (hd:FY l=some r):
 CallsH Tryd.prog 47 [.slice t.1 t.2.1 t.2.2, .func (.func 48) #[] #[]] h (BO fun v h'=> ∃ψ:AE,∃y:Unit,∃l1:List Item,Sub φ ψ∧v=((.tuple []):Sh).val y∧l1=r∧St ψ (cR 44 Bx t l1::F) h'):=by
 unfold FY at hd
 split at hd
 ·rename_i hb
  cases hd
  intro w hw
  subst hw
  rcases St.rowHoldsF s0 with ⟨hl,hn⟩ | ⟨b,off,vs,ht,hall,hn,hlt,hfit,hH⟩
  ·subst hl
   rw [hn]
   have hc:=AnyF.slices_SortFunc_none GC t.1 t.2.2 (.func (.func 48) #[] #[]) w
   refine (show Calls Tryd.prog 47 #[.slice t.1 0 t.2.2,_] w _ from hc).mono ?_
   rintro e w' ⟨rfl,rfl⟩
   exact ⟨Bz.refl _,_,rfl,φ,(),_,Sub.refl _,rfl,rfl,by rw [show Ef [] = [] from rfl]; exact s0⟩
  ·have hvs:=LN hall
   subst hvs
   have hHd:HoldsK Dy 2 w b off l.toArray:=by unfold HoldsK; rw [IJ]; exact hH
   have hc:=AnyQ.slices_SortFunc_total GC 2 (fun w=>Tryd.isAgg44 w) (fun w=>Tryd.sizeOf44 w) Dy (fun _=>rfl) (fun x v hv=>by simp [Dy] at hv; rcases hv with rfl | rfl<;>rfl) cfI N1 48 #[] b off t.2.2 l.toArray w
    (enters_of Tryd.func48 (by kernel_rfl) rfl) (fun m os dk hdk x y=>Nr (a:=x) (b:=y) _) hHd hlt (by simpa using hb) N2
   have hn2:t.2.1=l.toArray.size:=by rw [hn]; simp
   rw [ht,hn2]
   refine (show Calls Tryd.prog 47 #[.slice (some ⟨b,off,none⟩) l.toArray.size t.2.2,_] w _ from hc).mono ?_
   rintro e w' ⟨rfl,k,os,rfl⟩
   have hsrt:(l.toArray.toList.mergeSort fun x y=> !(ltOf cfI) y x)=Ef l:=by
    rw [LM]
    congr 1
    funext x y
    rw [IK]
   rw [hsrt]
   have hlen:(Ef l).length=l.length:=(CK _ _).length_eq
   have s1:=St.rowSortedF s0 ht ((Ef l).flatMap Dy) (LO _) hlen (by rw [HK,hlen,← HK]; exact hfit) k os
   refine ⟨⟨rfl,rfl,rfl,by unfold sortWorldK; rw [size_grow,size_putRowK]; exact Nat.le_add_right _ _⟩,_,rfl,φ,(),_,Sub.refl _,rfl,rfl,?_⟩
   unfold sortWorldK putRowK
   rw [IJ]
   exact s1
 ·cases hd
end
end Go.Proofs.YtnkmpgldbddnkaaDoor
namespace Go.Proofs.YtnkmpgldbddnkaaDoor
open Go Go.Eng
set_option linter.unusedVariables false
set_option maxRecDepth 100000
noncomputable def Ax (a_0:Gg) (kernel_1:List BI):Option (List BI):=
 (D9 kernel_1).bind fun t1=>
 (loop (σ:=(Int×List BI×List (Int×Bool))) (β:=(List BI×List (Int×Bool))) ((0:Int),t1,([] :List (Int×Bool))) fun z4=>
  cond (decide (z4.1< (((List.length z4.2.1):Nat):Int)))
  (((idx z4.2.1 z4.1).bind fun e45=>
   (BM a_0 (e45.1,e45.2)).bind fun t9=>
   (cond (decide (t9< (0:Int)))
   (some true)
   ((DS (a_0.1,a_0.2.1,a_0.2.2.1,a_0.2.2.2.1,a_0.2.2.2.2.1,a_0.2.2.2.2.2.1) t9).bind fun t18=>
    cond t18
    (some true)
    ((some (Cz t9 z4.2.2)).bind fun t19=>
     some (Option.getD t19 false)))).bind fun z10=>
   cond z10
   (some (z4.2.1,z4.2.2))
   ((Fe (σ:=List BI) (0:Int) (((List.length a_0.2.2.1):Nat):Int) z4.2.1 fun i_z24 z24=>
    (idx a_0.2.2.1 i_z24).bind fun e160=>
    (cond (e160.1==t9)
    ((Aw z24 (i_z24,(0:Int))).bind fun t35=>
     some (!t35))
    (some false)).bind fun z31=>
    (cond z31
    ((app z24 ([(i_z24,(0:Int))] :List BI)).bind fun t40=>
     some t40)
    (some z24)).bind fun z36=>
    some z36).bind fun z23=>
    some (z23,(Ff t9 true z4.2.2)))).bind fun z5=>
   some (AR.next ((IntKind.wrap .i64 (z4.1+(1:Int))),z5.1,z5.2)))
  (some (AR.done (z4.2.1,z4.2.2)))).bind fun z3=>
 (FY z3.1).bind fun t41=>
 some t41
theorem FE {φ:AE} {h:AF} {F:List Chk} {a_0:Option Addr} {b:Gg} {kernel_1:Slc} {al:List BI} (au:Ro.SliceIs Bx φ kernel_1 al) (s0:St φ (cO 70 (Rep.ro CL) a_0 b::F) h) {r:(List BI)} (hd:Ax b al=some r):
 CallsH Tryd.prog 29 [(.pointer a_0),(.slice kernel_1.1 kernel_1.2.1 kernel_1.2.2)] h (BO fun v h'=> ∃ψ:AE,∃y:Option Addr×Nat×Nat,∃av:List BI,Sub φ ψ∧v=((.one (.atom .slice)):Sh).val y∧av=r∧Ro.SliceIs Bx ψ y av∧St ψ (cO 70 (Rep.ro CL) a_0 b::F) h'):=by
 refine Aa mixed Tryd.func29 ?_
 rw [E5]
 unfold DY
 unfold Ax at hd
 have fx:kernel_1.2.1=List.length al:=au.length
 obtain ⟨fy,c0,hd⟩:=bS hd
 refine AK (GB au s0 c0) ?_
 rintro _ fz ⟨am,t1,c1,c2,rfl,rfl,aw⟩
 refine ⟨t1,rfl,?_⟩
 have g0:=aw.rowLen
 refine Je (kyI .i64) Ro.bool aw fun r2 g1 c3=> ?_
 have c4:=c3.at1
 have c5:=c4.at2
 have c6:=c5.at2
 have c7:=c6.at2
 obtain ⟨c8,c9,hd⟩:=bS hd
 refine Ad (fun (y:Int×(Option Addr×Nat×Nat)×Unit) w_ g=> ∃ψ:AE,∃ax:List BI,∃ay:List (Int×Bool),Sub am ψ∧(ax,ay)=g∧St ψ (cR 44 Bx y.2.1 ax::cM (kyI .i64) Ro.bool r2 ay::cO 70 (Rep.ro CL) a_0 b::F) w_) (g:=c8) ?_ ?_
 ·refine FO c9 (fun (y:Int×(Option Addr×Nat×Nat)×Unit) w_ g=> ∃ψ:AE,∃az:List BI,∃b0:List (Int×Bool),Sub am ψ∧(y.1,az,b0)=g∧St ψ (cR 44 Bx y.2.1 az::cM (kyI .i64) Ro.bool r2 b0::cO 70 (Rep.ro CL) a_0 b::F) w_) ((0:Int),t1,()) rfl ⟨am,c1,([] :List (Int×Bool)),(Sub.refl _),rfl,c7⟩ ?_
  ·rintro z4 g2 _ _ ⟨b1,a3,j,b2,rfl,a4⟩ k ca
   try dsimp only at k
   have cb:=a4.rowLen
   refine AH k (by rw [cb] <;>rfl) (fun _ k=> ?_) (fun _ k=> ?_)
   ·obtain ⟨cc,c,k⟩:=bS k
    refine Ad (fun (y:(Option Addr×Nat×Nat)×Unit) w_ g=> ∃ψ:AE,∃b3:List BI,∃b4:List (Int×Bool),Sub b1 ψ∧(b3,b4)=g∧St ψ (cR 44 Bx y.1 b3::cM (kyI .i64) Ro.bool r2 b4::cO 70 (Rep.ro CL) a_0 b::F) w_) (g:=cc) ?_ ?_
    ·obtain ⟨a5,cd,c⟩:=bS c
     obtain ⟨g3,g4,ce,cf,cg,b5⟩:=(a4).get cd
     refine AG _ ce (AZ cf ?_)
     obtain ⟨_,_,rfl,ch,ci⟩:=cg
     obtain rfl:=ch
     obtain rfl:=ci
     refine AL (x:=a5.1) (b5 0 _ rfl) rfl ?_
     refine AL (x:=a5.2) (by rw [AV]; exact (b5 1 _ rfl)) rfl ?_
     have cj:=a4.at2
     obtain ⟨g5,ck,c⟩:=bS c
     refine AK (CS (x_1:=(a5.1,a5.2,())) cj ck) ?_
     rintro _ g6 ⟨b6,t9,b7,rfl,rfl,b8⟩
     refine ⟨t9,rfl,?_⟩
     obtain ⟨cl,e,c⟩:=bS c
     refine Ak (fun (y:Bool×Unit) w_ g=> ∃ψ:AE,Sub b6 ψ∧y.1=g∧St ψ (cO 70 (Rep.ro CL) a_0 b::cR 44 Bx z4.2.1 a3::cM (kyI .i64) Ro.bool r2 j::F) w_) (g:=cl) ?_ ?_
     ·refine AH e rfl (fun _ e=> ?_) (fun _ e=> ?_)
      ·have cm:=b8.at2
       have cn:=cm.at2
       have co:=cn.at2
       obtain rfl:=iS e
       exact AN (true,()) rfl ⟨b6,(Sub.refl _),rfl,co⟩
      obtain ⟨g7,g8,cp,⟨_,_,rfl,⟨a6,rfl,a7⟩,_,_,rfl,⟨a8,rfl,a9⟩,_,_,rfl,⟨aa,rfl,ab⟩,_,_,rfl,⟨ac,rfl,ad⟩,_,_,rfl,⟨ae,rfl,af⟩,_,_,rfl,⟨ag,rfl,ah⟩,_,_,rfl,rfl,rfl⟩,l⟩:=St.openR b8
      subst cp
      have g9:=a7.length
      have ga:=a9.length
      have gb:=ab.length
      have gc:=ad.length
      have gd:=af.length
      have ge:=ah.length
      refine AG _ rfl ?_
      refine AA (x:=a6) l rfl ?_
      refine AA (x:=a8) l rfl ?_
      refine AA (x:=aa) l rfl ?_
      refine AA (x:=ac) l rfl ?_
      refine AA (x:=ae) l rfl ?_
      refine AA (x:=ag) l rfl ?_
      obtain ⟨gf,cq,e⟩:=bS e
      refine AK (ID (p_0:=(a6,a8,aa,ac,ae,ag,())) a7 a9 ab ad af ah l cq) ?_
      rintro _ gg ⟨b9,t18,d,rfl,rfl,an⟩
      refine ⟨t18,rfl,?_⟩
      refine AH e rfl (fun _ e=> ?_) (fun _ e=> ?_)
      ·have cr:=St.shutR (r:=CL) (x:=(b.1,b.2.1,b.2.2.1,b.2.2.2.1,b.2.2.2.2.1,b.2.2.2.2.2.1,b.2.2.2.2.2.2.1,(b.2.2.2.2.2.2.2))) an ⟨[_],_,rfl,⟨a6,rfl,(a7.mono d)⟩,⟨[_],_,rfl,⟨a8,rfl,(a9.mono d)⟩,⟨[_],_,rfl,⟨aa,rfl,(ab.mono d)⟩,⟨[_],_,rfl,⟨ac,rfl,(ad.mono d)⟩,⟨[_],_,rfl,⟨ae,rfl,(af.mono d)⟩,⟨[_],_,rfl,⟨ag,rfl,(ah.mono d)⟩,⟨[_],_,rfl,rfl,rfl⟩⟩⟩⟩⟩⟩⟩
       have cs:=cr.at2
       have ct:=cs.at2
       have cu:=ct.at2
       obtain rfl:=iS e
       exact AN (true,()) rfl ⟨b9,d,rfl,cu⟩
      obtain ⟨gh,cv,e⟩:=bS e
      obtain rfl:=iS cv
      refine LK (a:= .bool) (kk:=(kyI .i64)) (i:=Tryd.t4) false Tryd.underlying103 Tryd.underlying3 (by kernel_rfl) rfl an.at2 ?_
      have cw:=St.shutR (r:=CL) (x:=(b.1,b.2.1,b.2.2.1,b.2.2.2.1,b.2.2.2.2.1,b.2.2.2.2.2.1,b.2.2.2.2.2.2.1,(b.2.2.2.2.2.2.2))) an ⟨[_],_,rfl,⟨a6,rfl,(a7.mono d)⟩,⟨[_],_,rfl,⟨a8,rfl,(a9.mono d)⟩,⟨[_],_,rfl,⟨aa,rfl,(ab.mono d)⟩,⟨[_],_,rfl,⟨ac,rfl,(ad.mono d)⟩,⟨[_],_,rfl,⟨ae,rfl,(af.mono d)⟩,⟨[_],_,rfl,⟨ag,rfl,(ah.mono d)⟩,⟨[_],_,rfl,rfl,rfl⟩⟩⟩⟩⟩⟩⟩
      have cx:=cw.at2
      have cy:=cx.at2
      have cz:=cy.at2
      obtain rfl:=iS e
      exact AN (((Cz t9 j).getD false),()) rfl ⟨b9,d,rfl,cz⟩
     rintro z10 gi ⟨ai,ba,rfl,bb⟩
     try dsimp only at c
     refine AH c rfl (fun _ c=> ?_) (fun _ c=> ?_)
     ·have d0:=bb.at1
      have d1:=d0.at1
      have d2:=d1.at2
      have d3:=d2.at2
      obtain rfl:=iS c
      exact AS (z4.2.1,()) rfl ⟨ai,a3,j,(b7.trans ba),rfl,d3⟩
     refine Jf (kk:=(kyI .i64)) (y:=true) Tryd.underlying103 Tryd.underlying3 bb.at2 rfl fun gj d4=> ?_
     obtain ⟨aj,gk,d5,⟨_,_,rfl,⟨s,rfl,bc⟩,_,_,rfl,⟨u,rfl,bd⟩,_,_,rfl,⟨q,rfl,ao⟩,_,_,rfl,⟨w,rfl,be⟩,_,_,rfl,⟨z,rfl,bf⟩,_,_,rfl,⟨a0,rfl,bg⟩,_,_,rfl,rfl,rfl⟩,bh⟩:=St.openR d4.at1
     subst d5
     have gl:=bc.length
     have gm:=bd.length
     have bi:=ao.length
     have gn:=be.length
     have go:=bf.length
     have gp:=bg.length
     refine AG _ rfl ?_
     refine AA (x:=q) bh rfl ?_
     have d6:=bh.at2
     have d7:=d6.at2
     have d8:=d7.at2
     have d9:=d8.at2
     obtain ⟨da,db,c⟩:=bS c
     refine Ad (fun (y:Int×(Option Addr×Nat×Nat)×Unit) w_ g=> ∃ψ:AE,∃bj:List BI,Sub ai ψ∧bj=g∧St ψ (cR 44 Bx y.2.1 bj::cW 70 aj [sv s,sv u,sv q,sv w,sv z,sv a0,sv b.2.2.2.2.2.2.1, .int .i64 (b.2.2.2.2.2.2.2)] ::cM (kyI .i64) Ro.bool r2 (Ff t9 true j)::F) w_) (g:=da) ?_ ?_
     ·refine D4 db (fun dc (y:Int×(Option Addr×Nat×Nat)×Unit) w_ g=> ∃ψ:AE,∃bk:List BI,Sub ai ψ∧y.1=dc∧bk=g∧St ψ (cR 44 Bx y.2.1 bk::cW 70 aj [sv s,sv u,sv q,sv w,sv z,sv a0,sv b.2.2.2.2.2.2.1, .int .i64 (b.2.2.2.2.2.2.2)] ::cM (kyI .i64) Ro.bool r2 (Ff t9 true j)::F) w_) ((0:Int),z4.2.1,()) rfl ⟨ai,a3,(Sub.refl _),rfl,rfl,d9⟩ ?_ ?_
      ·rintro _ z24 gq _ _ ⟨bl,bm,bn,rfl,rfl,a1⟩ f dd bo bp
       try dsimp only at f dd bo bp
       have gr:=a1.rowLen
       refine Az (by rw [bi]; exact decide_eq_true bo) ?_
       obtain ⟨m,de,f⟩:=bS f
       obtain ⟨gs,gt,df,dg,dh,ap⟩:=(ao.mono bn).get de
       refine AG _ df (AZ dg ?_)
       obtain ⟨_,_,rfl,di,dj⟩:=dh
       obtain rfl:=di
       obtain ⟨_,_,rfl,dk,dl⟩:=dj
       obtain ⟨aq,rfl,dm⟩:=dk
       have gu:=dm.length
       obtain rfl:=dl
       refine AL (x:=m.1) (AB (Sub.trans (Sub.refl _) a1.sub) (ap 0 _ rfl)) rfl ?_
       refine AL (x:=aq) (by rw [AV]; exact (AB (Sub.trans (Sub.refl _) a1.sub) (ap 1 _ rfl))) rfl ?_
       refine AL (x:=m.2.2) (by rw [AV]; exact (AB (Sub.trans (Sub.refl _) a1.sub) (ap 2 _ rfl))) rfl ?_
       refine Ac (vs:= [.int .i64 (0:Int), .slice none 0 0, .int .i64 (0:Int)]) a1 fun r29 gv dn=> ?_
       refine AJ dn rfl rfl fun gw dp=> ?_
       refine AJ dp rfl rfl fun gx dq=> ?_
       refine AJ dq rfl rfl fun gy dr=> ?_
       refine Ac (vs:= [.int .i64 (0:Int), .int .i64 (0:Int)]) dr fun r30 gz ds=> ?_
       refine AJ ds rfl rfl fun h0 dt=> ?_
       refine AJ dt rfl rfl fun h1 a2=> ?_
       obtain ⟨du,n,f⟩:=bS f
       refine Ak (fun (y:Bool×Unit) w_ g=> ∃ψ:AE,Sub bl ψ∧y.1=g∧St ψ (cW 44 r30 [.int .i64 z24.1, .int .i64 (0:Int)] ::cW 47 r29 [.int .i64 m.1,sv aq, .int .i64 m.2.2] ::cR 44 Bx z24.2.1 bm::cW 70 aj [sv s,sv u,sv q,sv w,sv z,sv a0,sv b.2.2.2.2.2.2.1, .int .i64 (b.2.2.2.2.2.2.2)] ::cM (kyI .i64) Ro.bool r2 (Ff t9 true j)::F) w_) (g:=du) ?_ ?_
       ·refine AA (x:=m.1) a2.at1 rfl ?_
        refine AH n rfl (fun _ n=> ?_) (fun _ n=> ?_)
        ·refine AA (x:=z24.1) a2 rfl ?_
         refine AA (x:=(0:Int)) a2 rfl ?_
         have dv:=a2.at2
         obtain ⟨h2,dw,n⟩:=bS n
         refine AK (CV (v_1:=(z24.1,(0:Int),())) dv dw) ?_
         rintro _ h3 ⟨dx,t35,dy,rfl,rfl,dz⟩
         refine ⟨t35,rfl,?_⟩
         have e0:=dz.at4
         have e1:=e0.at4
         have e2:=e1.at2
         have e3:=e2.at4
         have e4:=e3.at4
         obtain rfl:=iS n
         exact AN ((!t35),()) rfl ⟨dx,dy,rfl,e4⟩
        have e5:=a2.at4
        have e6:=e5.at4
        have e7:=e6.at4
        have e8:=e7.at4
        have e9:=e8.at4
        obtain rfl:=iS n
        exact AN (false,()) rfl ⟨bl,(Sub.refl _),rfl,e9⟩
       rintro z31 h4 ⟨ar,ea,rfl,ak⟩
       try dsimp only at f
       obtain ⟨eb,o,f⟩:=bS f
       refine Ak (fun (y:(Option Addr×Nat×Nat)×Unit) w_ g=> ∃ψ:AE,∃bq:List BI,Sub ar ψ∧bq=g∧St ψ (cR 44 Bx y.1 bq::cW 44 r30 [.int .i64 z24.1, .int .i64 (0:Int)] ::cW 47 r29 [.int .i64 m.1,sv aq, .int .i64 m.2.2] ::cW 70 aj [sv s,sv u,sv q,sv w,sv z,sv a0,sv b.2.2.2.2.2.2.1, .int .i64 (b.2.2.2.2.2.2.2)] ::cM (kyI .i64) Ro.bool r2 (Ff t9 true j)::F) w_) (g:=eb) ?_ ?_
       ·refine AH o rfl (fun _ o=> ?_) (fun _ o=> ?_)
        ·refine AA (x:=z24.1) ak rfl ?_
         refine AA (x:=(0:Int)) ak rfl ?_
         refine Ac (vs:= [.int .i64 z24.1, .int .i64 (0:Int)]) ak fun r39 h5 br=> ?_
         have ec:=St.cells br
         have ed:=br.tail
         have ee:=ed.at2
         obtain ⟨ef,eg,o⟩:=bS o
         refine Aq (r:=Bx) (ms:=([(z24.1,(0:Int))] :List BI)) IG ee rfl ec (.cons (a:= [_,_]) ⟨[_],_,rfl,rfl,rfl⟩ .nil) rfl eg ?_
         intro t40 h6 bs
         have h7:=bs.rowLen
         have eh:=bs.at4
         have ei:=eh.at4
         have ej:=ei.at4
         have ek:=ej.at4
         have el:=ek.at4
         obtain rfl:=iS o
         exact AN (t40,()) rfl ⟨ar,ef,(Sub.refl _),rfl,el⟩
        have em:=ak.at2
        have en:=em.at4
        have eo:=en.at4
        have ep:=eo.at4
        have er:=ep.at4
        have es:=er.at4
        obtain rfl:=iS o
        exact AN (z24.2.1,()) rfl ⟨ar,bm,(Sub.refl _),rfl,es⟩
       rintro z36 h8 ⟨eu,ev,ew,rfl,bt⟩
       try dsimp only at f
       have h9:=bt.rowLen
       have ex:=bt.at1.tail
       have ey:=ex.at1.tail
       have ez:=ey.at2
       have f0:=ez.at2
       have f1:=f0.at2
       obtain rfl:=iS f
       exact Ar ((IntKind.wrap .i64 (z24.1+(1:Int))),z36.1,()) _ rfl rfl ⟨eu,ev,((bn.trans ea).trans ew),bp,rfl,f1⟩
      ·rintro _ z24 hb ⟨f2,f3,f4,rfl,rfl,bu⟩ f5
       have hc:=bu.rowLen
       refine Al (by rw [bi]; exact decide_eq_false (Int.not_lt.2 f5)) ?_
       have f6:=bu.at2
       have f7:=f6.at2
       have f8:=f7.at2
       exact AO (AS (z24.1,z24.2.1,()) rfl ⟨f2,f3,f4,rfl,f8⟩)
     rintro z23 he ⟨f9,fa,p,rfl,bv⟩
     try dsimp only at c
     have hf:=bv.rowLen
     have fb:=St.shutR (r:=CL) (x:=(b.1,b.2.1,b.2.2.1,b.2.2.2.1,b.2.2.2.2.1,b.2.2.2.2.2.1,b.2.2.2.2.2.2.1,(b.2.2.2.2.2.2.2))) bv.at1 ⟨[_],_,rfl,⟨s,rfl,(bc.mono p)⟩,⟨[_],_,rfl,⟨u,rfl,(bd.mono p)⟩,⟨[_],_,rfl,⟨q,rfl,(ao.mono p)⟩,⟨[_],_,rfl,⟨w,rfl,(be.mono p)⟩,⟨[_],_,rfl,⟨z,rfl,(bf.mono p)⟩,⟨[_],_,rfl,⟨a0,rfl,(bg.mono p)⟩,⟨[_],_,rfl,rfl,rfl⟩⟩⟩⟩⟩⟩⟩
     have fc:=fb.at2
     have fd:=fc.at2
     obtain rfl:=iS c
     exact NN (z23.2.1,()) rfl ⟨f9,fa,(Ff t9 true j),((b7.trans ba).trans p),rfl,fd⟩
    rintro z5 hg ⟨fe,ff,fg,fh,rfl,bw⟩
    try dsimp only at k
    have hh:=bw.rowLen
    have fi:=bw.at2
    have fj:=fi.at2
    have fk:=fj.at2
    obtain rfl:=iS k
    exact Ar ((IntKind.wrap .i64 (z4.1+(1:Int))),z5.1,()) _ rfl rfl ⟨fe,ff,fg,(b2.trans fh),rfl,fk⟩
   have fl:=a4.at2
   have fm:=fl.at2
   have fn:=fm.at2
   obtain rfl:=iS k
   obtain rfl:=ca _ rfl
   exact AO (AS (z4.1,z4.2.1,()) rfl ⟨b1,a3,j,b2,rfl,fn⟩)
 rintro z3 hi ⟨hj,hk,hl,fo,rfl,bx⟩
 try dsimp only at hd
 have hm:=bx.rowLen
 obtain ⟨hn,fp,hd⟩:=bS hd
 refine AK (KO bx fp) ?_
 rintro _ ho ⟨hp,t41,fq,fr,rfl,rfl,bz⟩
 refine ⟨t41,rfl,?_⟩
 have hq:=bz.rowLen
 obtain ⟨fs,ft,fu,fv⟩:=St.freezeRow (t:=z3.2.1) bz
 obtain rfl:=iS hd
 have fw:=fv.tail
 exact AC ⟨fs,z3.2.1,fq,(((c2.trans fo).trans fr).trans ft),rfl,rfl,fu,fw⟩
abbrev dtB:Type:=(List Item×List Item×Slc×Int×Int)
abbrev roB:Ro dtB:=Ro.prod (Ro.list Bx) (Ro.prod (Ro.list Bx) (Ro.prod Ro.slc (Ro.prod (Ro.int .i64) (Ro.int .i64))))
abbrev dtK:Type:=(List Item×List Item×Int×Int)
abbrev HL {ε:Type} (b:dtK) (s:ε):List Item×List Item×ε×Int×Int:=(b.1,b.2.1,s,b.2.2.1,b.2.2.2)
abbrev C4 {ε:Type} (B:List dtK) (S:List ε):List (List Item×List Item×ε×Int×Int):=List.zipWith HL B S
theorem Co {ε:Type} {B:List dtK} {S:List ε} (h:S.length=B.length):(C4 B S).length=B.length:=by
 unfold C4; rw [List.length_zipWith]; omega
theorem LP {ε:Type} {B:List dtK} {S:List ε} (h:S.length=B.length) (b:dtK) (s:ε):C4 (B++ [b]) (S++ [s])=C4 B S++ [HL b s] :=by
 unfold C4; rw [List.zipWith_append h.symm]; rfl
abbrev Fd:Type:=List (ByteArray×Int)
abbrev qA (p:Au) (s:Slc) (t:Int):Gg:=(p.1,p.2.1,p.2.2.1,p.2.2.2.1,p.2.2.2.2.1,p.2.2.2.2.2,s,t)
abbrev Dz:Slc:=(none,0,0)
theorem Jn (p:Au) (s:Slc) (t:Int) (k:List Item):Ax (qA p s t) k=Ax (qA p Dz 0) k:=rfl
abbrev bC (c3 c4 c5 c6 m a r1 r2:Nat) (fd:Fd) (p:Au) (ls:Slc) (tot:Int) (L:List dtB) (rm cl:B6) (F:List Chk):List Chk:=
 cW 73 c3 [.map (some m)] ::cM kyS (Ro.int .i64) m fd::cW 34 c4 [pv a] ::cO 70 (Rep.ro CL) (some ⟨a,0,none⟩) (qA p ls tot)::cR 78 roB ls L::
 cW 71 c5 [pv r1] ::cO 101 (Rep.ro Do) (some ⟨r1,0,none⟩) rm::cW 71 c6 [pv r2] ::cO 101 (Rep.ro Do) (some ⟨r2,0,none⟩) cl::F
noncomputable def LQ (p:Au) (fd:Fd) (B:List dtK) (rm cl:B6) (k:List Item) (fr wi:Int):Option (Int×Int×Fd×List dtK×B6×B6):=
 (Cr k).bind fun s=>
 cond (Cz s fd).isSome (some ((Cz s fd).getD 0,0,fd,B,rm,cl))
 ((Ax (qA p Dz 0) k).bind fun its=>
  (Bo rm 1).bind fun t=>
  (cond (t.1==(0:Int)) ((Bo cl ((its.length:Nat):Int)).bind fun u=>some (u.1,u.2)) (some (t.1,cl))).bind fun z=>
  (app B [(k,its,fr,wi)]).bind fun B'=>
  some (IntKind.wrap .i64 (((B'.length:Nat):Int) - 1),z.1,Ff s ((B.length:Nat):Int) fd,B',t.2,z.2))
theorem N3:G6 Tryd.prog 68 68 78 5:=⟨Tryd.underlying68, .inl Tryd.underlying68,⟨Tryd.t78,by kernel_rfl,rfl,⟨_,rfl,rfl⟩,by decide,by decide⟩,by decide⟩
theorem St.bC_of {φ:AE} {h:AF} {a0 a1 a2 a3 a4 a5 a6 a7 a8:Chk} {F:List Chk} (H:St φ (a3::a4::a1::a8::a6::a0::a2::a5::a7::F) h):St φ (a0::a1::a2::a3::a4::a5::a6::a7::a8::F) h:=
 H.at3.at8.at5.at8.at5.at5.at8.at7.at8
set_option maxHeartbeats 2000000 in
theorem Kn {φ:AE} {h:AF} {F:List Chk} {t:Slc} {k:List Item} {fr wi:Int} {c3 c4 c5 c6 m a r1 r2:Nat} {fd:Fd} {p:Au} {ls:Slc} {tot:Int} {B:List dtK} {S:List Slc} {rm cl:B6}
 (gk:FC φ) (k1:Ro.SliceIs Bx φ t k) (hS:S.length=B.length) (s0:St φ (bC c3 c4 c5 c6 m a r1 r2 fd p ls tot (C4 B S) rm cl F) h) {r:Int×Int×Fd×List dtK×B6×B6} (hd:LQ p fd B rm cl k fr wi=some r):
 CallsH Tryd.prog 27 [.slice t.1 t.2.1 t.2.2, .int .i64 fr, .int .i64 wi,pv c3,pv c4,pv c5,pv c6] h (BO fun v h'=> ∃(ψ:AE) (y:Int×Int×Unit) (ls':Slc) (S':List Slc),Sub φ ψ∧v=((.tuple [.atom (.int .i64), .atom (.int .i64)]):Sh).val y∧y.1=r.1∧y.2.1=r.2.1∧
  ((r.2.2.2.1=B∧S'=S)∨ ∃x,r.2.2.2.1=B++ [x] ∧S'=S++ [Dz])∧St ψ (bC c3 c4 c5 c6 m a r1 r2 r.2.2.1 p ls' tot (C4 r.2.2.2.1 S') r.2.2.2.2.1 r.2.2.2.2.2 F) h'):=by
 refine Aa mixed Tryd.func27 ?_
 rw [Gx]
 unfold E4
 unfold LQ at hd
 obtain ⟨s,hs,hd⟩:=bS hd
 refine AA (x:=some m) s0 rfl ?_
 refine AK (GG gk k1 s0 hs) ?_
 rintro _ h1 ⟨ψ1,s,le1,rfl,rfl,s1⟩
 refine ⟨s,rfl,?_⟩
 refine Ab (St.cell s1 rfl) ?_
 refine LJ (a:= .int .i64) (kk:=kyS) (i:=Tryd.t3) 0 Tryd.underlying73 Tryd.underlying9 (by kernel_rfl) rfl s1.at1 fun y hy=> ?_
 subst hy
 refine AH hd rfl (fun _ hd=> ?_) (fun _ hd=> ?_)
 ·obtain rfl:=iS hd
  exact AC ⟨ψ1,((Cz s fd).getD 0,0,()),ls,S,le1,rfl,rfl,rfl, .inl ⟨rfl,rfl⟩,s1⟩
 obtain ⟨its,hc,hd⟩:=bS hd
 obtain ⟨tk,ht,hd⟩:=bS hd
 obtain ⟨z,hz,hd⟩:=bS hd
 obtain ⟨B',hB,hd⟩:=bS hd
 obtain rfl:=iS hd
 refine AA (x:=some ⟨a,0,none⟩) s1.at2 rfl ?_
 refine AK (FE (k1.mono le1) s1.at3 (by rw [Jn]; exact hc)) ?_
 rintro _ h2 ⟨ψ2,y2,l2,le2,rfl,rfl,k2,s2⟩
 refine ⟨y2,rfl,?_⟩
 have n2:=k2.length
 have le12:=le1.trans le2
 refine Ac (vs:= [.slice none 0 0, .slice none 0 0, .slice none 0 0, .int .i64 (0:Int), .int .i64 (0:Int)]) s2 fun r6 h3 s3=> ?_
 refine AJ s3 rfl rfl fun h4 s4=> ?_
 refine AJ s4 rfl rfl fun h5 s5=> ?_
 refine AJ s5 rfl rfl fun h6 s6=> ?_
 refine AJ s6 rfl rfl fun h7 s7=> ?_
 refine AJ s7 rfl rfl fun h8 s8=> ?_
 have s8':St ψ2 (cW 78 r6 [sv t,sv y2, .slice none 0 0, .int .i64 fr, .int .i64 wi] ::cO 70 (Rep.ro CL) (some ⟨a,0,none⟩) (qA p ls tot)::cW 73 c3 [.map (some m)] ::cM kyS (Ro.int .i64) m fd::cW 34 c4 [pv a] ::cR 78 roB ls (C4 B S)::
  cW 71 c5 [pv r1] ::cO 101 (Rep.ro Do) (some ⟨r1,0,none⟩) rm::cW 71 c6 [pv r2] ::cO 101 (Rep.ro Do) (some ⟨r2,0,none⟩) cl::F) h8:=s8
 refine AA (x:=some ⟨r1,0,none⟩) s8'.at6 rfl ?_
 refine AK (Dx s8'.at7 ht) ?_
 rintro _ h9 ⟨ψ3,y3,rm',le3,rfl,rfl,s9⟩
 refine ⟨y3,rfl,?_⟩
 dsimp only at hz
 refine Ak (fun (y:Int×Unit) w (g:Int×B6)=> ∃(ψ:AE) (cl':B6),Sub ψ3 ψ∧(y.1,cl')=g∧St ψ (cO 101 (Rep.ro Do) (some ⟨r2,0,none⟩) cl'::cO 101 (Rep.ro Do) (some ⟨r1,0,none⟩) rm'::cW 78 r6 [sv t,sv y2, .slice none 0 0, .int .i64 fr, .int .i64 wi] ::
  cO 70 (Rep.ro CL) (some ⟨a,0,none⟩) (qA p ls tot)::cW 73 c3 [.map (some m)] ::cM kyS (Ro.int .i64) m fd::cW 34 c4 [pv a] ::cR 78 roB ls (C4 B S)::cW 71 c5 [pv r1] ::cW 71 c6 [pv r2] ::F) w) (g:=z) ?_ ?_
 ·refine AH hz rfl (fun _ hz=> ?_) (fun _ hz=> ?_)
  ·obtain ⟨u,hu,hz⟩:=bS hz
   obtain rfl:=iS hz
   refine AA (x:=some ⟨r2,0,none⟩) s9.at8 rfl ?_
   refine AA (x:=y2) s9.at1 rfl ?_
   rw [← n2] at hu
   refine AK (Dx s9.at9 hu) ?_
   rintro _ h10 ⟨ψ4,y4,cl',le4,rfl,rfl,s10⟩
   refine ⟨y4,rfl,?_⟩
   exact AN (y4,()) rfl ⟨ψ4,cl',le4,rfl,s10⟩
  ·obtain rfl:=iS hz
   exact AN (y3,()) rfl ⟨ψ3,cl,Sub.refl _,rfl,s9.at9⟩
 rintro z9 h11 ⟨ψ5,cl',le5,rfl,s11⟩
 refine AA (x:=some m) s11.at4 rfl ?_
 refine AA (x:=some ⟨a,0,none⟩) s11.at6 rfl ?_
 refine AG _ rfl ?_
 have s12':=s11.at3
 obtain ⟨b,vs,e,⟨_,_,rfl,⟨u1,rfl,kk1⟩,_,_,rfl,⟨u2,rfl,kk2⟩,_,_,rfl,⟨u3,rfl,kk3⟩,_,_,rfl,⟨u4,rfl,kk4⟩,_,_,rfl,⟨u5,rfl,kk5⟩,_,_,rfl,⟨u6,rfl,kk6⟩,_,_,rfl,rfl,rfl⟩,s12⟩:=St.openR s12'
 obtain rfl:a=b:=by simpa using e
 refine AA (x:=ls) s12 rfl ?_
 have le25:=(le2.trans le3).trans le5
 have le15:=le1.trans le25
 refine AK (GG (gk.mono le15) (k1.mono le15) s12 hs) ?_
 rintro _ h13 ⟨ψ6,q6,le6,rfl,rfl,s13⟩
 refine ⟨q6,rfl,?_⟩
 refine Ab (St.cell (b:=a) (j:=6) s13 rfl) ?_
 refine Ab (St.cell s13.at6 rfl) ?_
 refine Ab (St.cell s13.at4 rfl) ?_
 have nL:=St.rowLen s13.at7
 rw [Co hS] at nL
 refine Jf (kk:=kyS) (y:=((ls.2.1:Nat):Int)) Tryd.underlying73 Tryd.underlying9 s13.at5 rfl fun h14 s14=> ?_
 refine AA (x:=some ⟨a,0,none⟩) s14.at6 rfl ?_
 refine AA (x:=some ⟨a,0,none⟩) s14.at6 rfl ?_
 refine AG _ rfl ?_
 refine AA (x:=ls) s14.at1 rfl ?_
 refine AA (x:=t) s14.at4 rfl ?_
 refine AA (x:=y2) s14.at4 rfl ?_
 refine AA (x:=Dz) s14.at4 rfl ?_
 refine AA (x:=fr) s14.at4 rfl ?_
 refine AA (x:=wi) s14.at4 rfl ?_
 refine Ac (vs:= [sv t,sv y2, .slice none 0 0, .int .i64 fr, .int .i64 wi]) s14 fun r28 h15 s15=> ?_
 refine Ab (St.cell (b:=a) (j:=6) s15.at2 rfl) ?_
 refine Ab (St.cell s15.at7 rfl) ?_
 refine Ab (St.cell s15.at7 rfl) ?_
 have cw:=St.cells s15
 have le26:=le25.trans le6
 have le16:=le1.trans le26
 obtain ⟨hapl,rfl⟩:=Jc hB
 have hap:app (C4 B S) [HL (k,l2,fr,wi) Dz] =some (C4 (B++ [(k,l2,fr,wi)]) (S++ [Dz])):=by
  unfold app
  rw [Co hS,LP hS,if_pos (by simpa using hapl)]
 refine Aq (r:=roB) (ms:= [HL (k,l2,fr,wi) Dz]) N3 (s15.tail.at7) rfl cw (.cons (a:= [_,_,_,_,_]) ⟨[_],_,rfl,⟨t,rfl,k1.mono le16⟩, [_],_,rfl,⟨y2,rfl,k2.mono (((le3.trans le5)).trans le6)⟩, [_],_,rfl,rfl, [_],_,rfl,rfl,rfl⟩ .nil) rfl hap fun ls' h16 s16=> ?_
 have nL':=St.rowLen s16
 rw [Co (by simp [hS])] at nL'
 refine Ab (St.cell s16.at7 rfl) ?_
 refine AG _ rfl ?_
 refine AJ s16.at2 rfl rfl fun h17 s17=> ?_
 refine AA (x:=some ⟨a,0,none⟩) s17.at7 rfl ?_
 refine AG _ rfl ?_
 refine AA (x:=ls') s17 rfl ?_
 have s18:=St.shutR (r:=CL) (x:=qA p ls' tot) s17 ⟨[_],_,rfl,⟨u1,rfl,kk1.mono le6⟩, [_],_,rfl,⟨u2,rfl,kk2.mono le6⟩, [_],_,rfl,⟨u3,rfl,kk3.mono le6⟩, [_],_,rfl,⟨u4,rfl,kk4.mono le6⟩, [_],_,rfl,⟨u5,rfl,kk5.mono le6⟩, [_],_,rfl,⟨u6,rfl,kk6.mono le6⟩, [_],_,rfl,rfl,rfl⟩
 refine AC ⟨ψ6,(IntKind.wrap .i64 (((ls'.2.1:Nat):Int) - 1),z9.1,()),ls',S++ [Dz],le16,rfl,by rw [nL'],rfl, .inr ⟨_,rfl,rfl⟩,?_⟩
 rw [nL] at s18
 exact St.bC_of s18.at5.tail
abbrev Edge:Type:=Int×Int
abbrev BSt:Type:=Fd×List dtK×List (List Edge)×B6×B6
def D0 (E:List (List Edge)) (n n':Nat):List (List Edge):=if n'=n then E else E++ [[]]
noncomputable def Ko (p:Au) (b:dtK) (i sym:Int) (y:BSt):Option (AR BSt Int):=
 (BV (qA p Dz 0) b.2.1 sym).bind fun k=>
 (LQ p y.1 y.2.1 y.2.2.2.1 y.2.2.2.2 k i sym).bind fun r=>
 cond (r.2.1 !=(0:Int)) (some (AR.done r.2.1))
 ((idx (D0 y.2.2.1 y.2.1.length r.2.2.2.1.length) i).bind fun el=>
  (app el [(sym,r.1)]).bind fun el'=>
  (Gq (D0 y.2.2.1 y.2.1.length r.2.2.2.1.length) i el').bind fun E'=>
  some (AR.next (r.2.2.1,r.2.2.2.1,E',r.2.2.2.2.1,r.2.2.2.2.2)))
noncomputable def JF (p:Au) (b:dtK) (i:Int) (y:BSt):Option (AR BSt Int):=
 (BF (qA p Dz 0) b.2.1).bind fun syms=>
 CI 0 ((syms.length:Nat):Int) y fun j y=>(idx syms j).bind fun sym=>Ko p b i sym y
noncomputable def Hv (p:Au) (y:BSt):Option (AR BSt Int):=
 loop (σ:=Int×BSt) ((0:Int),y) fun z=>
  cond (decide (z.1< ((z.2.2.1.length:Nat):Int)))
   ((idx z.2.2.1 z.1).bind fun b=>(JF p b z.1 z.2).bind fun e=>match e with
    | .next y=>some (AR.next (IntKind.wrap .i64 (z.1+1),y))
    | .done q=>some (AR.done (AR.done q)))
   (some (AR.done (AR.next z.2)))
noncomputable def CN (p:Au) (st it:Int):Option (Option EP×Int):=
 (DF st).bind fun rm=>
 (DF it).bind fun cl=>
 (LQ p [] [] rm cl [(0,0)] (-1) (-1)).bind fun r=>
 cond (r.2.1 !=(0:Int)) (some (none,r.2.1))
 ((Hv p (r.2.2.1,r.2.2.2.1,D0 [] 0 r.2.2.2.1.length,r.2.2.2.2.1,r.2.2.2.2.2)).bind fun e=>match e with
  | .next y=>(CR y.2.2.2.2).bind fun tot=>some (some (p.1,p.2.1,p.2.2.1,p.2.2.2.1,p.2.2.2.2.1,p.2.2.2.2.2,C4 y.2.1 y.2.2.1,tot),0)
  | .done q=>some (none,q))
theorem L3 (p:Au) (s:Slc) (t:Int) (l:List Item) (x:Int):BV (qA p s t) l x=BV (qA p Dz 0) l x:=rfl
theorem Jo (p:Au) (s:Slc) (t:Int) (l:List Item):BF (qA p s t) l=BF (qA p Dz 0) l:=rfl
theorem IL {ε:Type} {B:List dtK} {S:List ε} {i:Int} {b:dtK} {s:ε} (hb:idx B i=some b) (hs:S[i.toNat]? =some s):idx (C4 B S) i=some (HL b s):=by
 obtain ⟨h0,_,h2⟩:=Ez hb
 unfold idx
 rw [if_pos h0]
 unfold C4
 rw [List.getElem?_zipWith,h2,hs]
theorem L4 {ε:Type} : ∀ {B:List dtK} {S:List ε} {n:Nat} {b:dtK} (s:ε),B[n]? =some b→(C4 B S).set n (HL b s)=C4 B (S.set n s):=by
 intro B
 induction B with
 | nil=>intro S n b s h; simp at h
 | cons x B ih=>
  intro S n b s h
  cases S with
  | nil=>rfl
  | cons u S=>
   cases n with
   | zero=>
    simp only [List.getElem?_cons_zero,Option.some.injEq] at h
    subst h
    rfl
   | succ n=>exact congrArg _ (ih s (by simpa using h))
def Ca (φ:AE) (S:List Slc) (E:List (List Edge)) (c:Nat):Prop:= ∀(j:Nat) s e,j ≠ c→S[j]? =some s→E[j]? =some e→Ro.SliceIs Gt φ s e
def FF (S:List Slc) (E:List (List Edge)) (i:Nat):Prop:= ∀j:Nat,i≤j→(∀s,S[j]? =some s→s=Dz)∧ ∀e,E[j]? =some e→e= []
theorem Ca.mono {φ ψ:AE} {S:List Slc} {E:List (List Edge)} {c:Nat} (H:Ca φ S E c) (hs:Sub φ ψ):Ca ψ S E c:=fun j s e hj h1 h2=>(H j s e hj h1 h2).mono hs
theorem DT {α:Type} {l:List α} {x y:α} {j:Nat} (h:(l++ [x])[j]? =some y):l[j]? =some y∨j=l.length∧y=x:=by
 rcases Nat.lt_or_ge j l.length with g | g
 ·rw [List.getElem?_append_left g] at h; exact .inl h
 ·rw [List.getElem?_append_right g] at h
  right
  have:j - l.length=0:=by
   rcases Nat.eq_zero_or_pos (j - l.length) with q | q
   ·exact q
   ·rw [List.getElem?_eq_none (by simp; omega)] at h; cases h
  rw [this] at h
  simp at h
  exact ⟨by omega,h.symm⟩
theorem Ca.snoc {φ:AE} {S:List Slc} {E:List (List Edge)} {c:Nat} (H:Ca φ S E c) (hl:S.length=E.length):Ca φ (S++ [Dz]) (E++ [[]]) c:=by
 intro j s e hj h1 h2
 rcases DT h1 with h1 | ⟨h1,rfl⟩
 ·rcases DT h2 with h2 | ⟨h2,rfl⟩
  ·exact H j s e hj h1 h2
  ·rw [List.getElem?_eq_none (by omega)] at h1; cases h1
 ·rcases DT h2 with h2 | ⟨h2,rfl⟩
  ·rw [List.getElem?_eq_none (by omega)] at h2; cases h2
  ·exact Ro.SliceIs.nil _ _
theorem FF.snoc {S:List Slc} {E:List (List Edge)} {i:Nat} (H:FF S E i):FF (S++ [Dz]) (E++ [[]]) i:=by
 intro j hj
 refine ⟨fun s h=> ?_,fun e h=> ?_⟩
 ·rcases DT h with h | ⟨_,h⟩
  ·exact (H j hj).1 s h
  ·exact h
 ·rcases DT h with h | ⟨_,h⟩
  ·exact (H j hj).2 e h
  ·exact h
theorem Mq {φ:AE} : ∀ {B:List dtK} {S:List Slc} {E:List (List Edge)} {vs:List Value},S.length=B.length→E.length=B.length→(∀(j:Nat) s e,S[j]? =some s→E[j]? =some e→Ro.SliceIs Gt φ s e)→roB.All φ vs (C4 B S)→NP.All φ vs (C4 B E):=by
 intro B
 induction B with
 | nil=>intro S E vs h1 h2 h3 H; cases H; exact .nil
 | cons b B ih=>
  intro S E vs h1 h2 h3 H
  cases S with
  | nil=>cases h1
  | cons s S=>
   cases E with
   | nil=>cases h2
   | cons e E=>
    cases H with
    | @cons a v _ _ hx hr=>
     obtain ⟨_,_,rfl,⟨t0,rfl,q0⟩,_,_,rfl,⟨t1,rfl,q1⟩,_,_,rfl,rfl,_,_,rfl,rfl,rfl⟩:=hx
     exact Ro.All.cons (a:= [_,_,_,_,_]) ⟨[_],_,rfl,⟨t0,rfl,q0⟩, [_],_,rfl,⟨t1,rfl,q1⟩, [_],_,rfl,⟨s,rfl,h3 0 s e rfl rfl⟩, [_],_,rfl,rfl,rfl⟩ (ih (by simpa using h1) (by simpa using h2) (fun j s' e' g1 g2=>h3 (j+1) s' e' (by simpa using g1) (by simpa using g2)) hr)
theorem LR {φ:AE} {t:Slc} {B:List dtK} {S:List Slc} {E:List (List Edge)} (h1:S.length=B.length) (h2:E.length=B.length) (h3: ∀(j:Nat) s e,S[j]? =some s→E[j]? =some e→Ro.SliceIs Gt φ s e) (H:Ro.SliceIs roB φ t (C4 B S)):Ro.SliceIs NP φ t (C4 B E):=by
 obtain ⟨g1,g2,g3,g4,vs,g5,g6⟩:=H
 have hl:(C4 B E).length=(C4 B S).length:=by rw [Co h1,Co h2]
 exact ⟨hl.trans g1,g2,g3,fun hp=>List.eq_nil_of_length_eq_zero (by rw [hl,g4 hp]; rfl),vs,Mq h1 h2 h3 g5,g6⟩
section
variable {φ:AE} {h:AF} {F:List Chk}
theorem KP {c3 c4 c5 c6 m a r1 r2:Nat} {fd:Fd} {p:Au} {ls:Slc} {tot:Int} {L:List dtB} {rm cl:B6} (H:St φ (bC c3 c4 c5 c6 m a r1 r2 fd p ls tot L rm cl F) h):Bh h ⟨a,6,none⟩=some (.slice ls.1 ls.2.1 ls.2.2):=by
 obtain ⟨b,vs,e,⟨_,_,rfl,⟨u1,rfl,kk1⟩,_,_,rfl,⟨u2,rfl,kk2⟩,_,_,rfl,⟨u3,rfl,kk3⟩,_,_,rfl,⟨u4,rfl,kk4⟩,_,_,rfl,⟨u5,rfl,kk5⟩,_,_,rfl,⟨u6,rfl,kk6⟩,_,_,rfl,rfl,rfl⟩,s⟩:=St.openR H.at3
 obtain rfl:a=b:=by simpa using e
 exact St.cell s rfl
theorem St.back3 {a0 a1 a2 a3:Chk} (H:St φ (a3::a0::a1::a2::F) h):St φ (a0::a1::a2::a3::F) h:=H.at3.at3.at3
theorem St.to9 {e a0 a1 a2 a3 a4 a5 a6 a7 a8:Chk} (H:St φ (e::a0::a1::a2::a3::a4::a5::a6::a7::a8::F) h):St φ (a0::a1::a2::a3::a4::a5::a6::a7::a8::e::F) h:=
 H.at9.at9.at9.at9.at9.at9.at9.at9.at9
theorem St.tail9 {a0 a1 a2 a3 a4 a5 a6 a7 a8:Chk} (H:St φ (a0::a1::a2::a3::a4::a5::a6::a7::a8::F) h):St φ F h:=H.tail.tail.tail.tail.tail.tail.tail.tail.tail
end
theorem By:G6 Tryd.prog 28 28 9 1:=⟨Tryd.underlying28, .inl Tryd.underlying28,⟨Tryd.t9,by kernel_rfl,rfl,⟨_,rfl,rfl⟩,by decide,by decide⟩,by decide⟩
theorem KQ:G6 Tryd.prog 61 61 94 4:=⟨Tryd.underlying61, .inl Tryd.underlying61,⟨Tryd.t94,by kernel_rfl,rfl,⟨_,rfl,rfl⟩,by decide,by decide⟩,by decide⟩
theorem KR:G6 Tryd.prog 63 63 97 2:=⟨Tryd.underlying63, .inl Tryd.underlying63,⟨Tryd.t97,by kernel_rfl,rfl,⟨_,rfl,rfl⟩,by decide,by decide⟩,by decide⟩
theorem IM:G6 Tryd.prog 64 64 90 4:=⟨Tryd.underlying64, .inl Tryd.underlying64,⟨Tryd.t90,by kernel_rfl,rfl,⟨_,rfl,rfl⟩,by decide,by decide⟩,by decide⟩
noncomputable def Bt (g_0:DJ):Option Bool:=
 (cond (decide ((((List.length g_0.1):Nat):Int) >(20:Int)))
 (some true)
 (cond (decide ((((List.length g_0.2.1):Nat):Int) >(4:Int)))
  (some true)
  (cond (decide ((((List.length g_0.2.2.1):Nat):Int) >(10:Int)))
   (some true)
   (cond (decide ((((List.length g_0.2.2.2.2):Nat):Int) < (1:Int)))
    (some true)
    (cond (decide ((((List.length g_0.2.2.2.2):Nat):Int) >(40:Int)))
     (some true)
     ((Ay g_0.2.2.2.1).bind fun t9=>
      some (!t9))))))).bind fun z2=>
 cond z2
 (some false)
 ((CI (σ:=List ByteArray) (β:=Bool) (0:Int) (((List.length g_0.1):Nat):Int) ([] :List ByteArray) fun i_z11 z11=>
  (idx g_0.1 i_z11).bind fun e56=>
  (app z11 ([e56.1] :List ByteArray)).bind fun t17=>
  (idx g_0.1 i_z11).bind fun e82=>
  (BP (e82.2.1,e82.2.2.1,e82.2.2.2)).bind fun t23=>
  cond (!t23)
  (some (AR.done false))
  (some (AR.next t17))).bind fun e_z10=>match e_z10 with
  | .next z10=>
   (CI (σ:=Unit) (β:=Bool) (0:Int) (((List.length g_0.2.1):Nat):Int) () fun i_z25 z25=>
    (idx g_0.2.1 i_z25).bind fun e141=>
    (BP (e141.1,e141.2.1,e141.2.2)).bind fun t32=>
    cond (!t32)
    (some (AR.done false))
    (some (AR.next ()))).bind fun e_z24=>match e_z24 with
   | .next z24=>
    (CI (σ:=List ByteArray) (β:=Bool) (0:Int) (((List.length g_0.2.2.1):Nat):Int) ([] :List ByteArray) fun i_z34 z34=>
     (idx g_0.2.2.1 i_z34).bind fun e198=>
     (app z34 e198.2).bind fun t42=>
     (cond (decide (e198.1< (1:Int)))
     (some true)
     (cond (decide (e198.1>(3:Int)))
      (some true)
      (some ((((List.length e198.2):Nat):Int)==(0:Int))))).bind fun z43=>
     cond z43
     (some (AR.done false))
     (some (AR.next t42))).bind fun e_z33=>match e_z33 with
    | .next z33=>
     (CI (σ:=Unit) (β:=Bool) (0:Int) (((List.length g_0.2.2.2.2):Nat):Int) () fun i_z48 z48=>
      (idx g_0.2.2.2.2 i_z48).bind fun e291=>
      ((Ay e291.1).bind fun t59=>
      cond (!t59)
      (some true)
      (cond (decide ((((List.length e291.2.1):Nat):Int) >(8:Int)))
       (some true)
       (cond (!(ByteArray.toList e291.2.2.1==ByteArray.toList {data:= #[] }))
        ((Ay e291.2.2.1).bind fun t63=>
         cond (!t63)
         (some true)
         ((Bm e291.2.2.2).bind fun t65=>
          some (!t65)))
        ((Bm e291.2.2.2).bind fun t67=>
         some (!t67))))).bind fun z57=>
      cond z57
      (some (AR.done false))
      ((CI (σ:=Unit) (β:=Bool) (0:Int) (((List.length e291.2.1):Nat):Int) () fun i_z69 z69=>
       (idx e291.2.1 i_z69).bind fun e393=>
       (Ay e393).bind fun t74=>
       cond (!t74)
       (some (AR.done false))
       (some (AR.next ()))).bind fun e_z68=>match e_z68 with
       | .next z68=>
        some (AR.next ())
       | .done q428=>some (AR.done q428))).bind fun e_z47=>match e_z47 with
     | .next z47=>
      ((BB z10).bind fun t76=>
      cond t76
      ((BB z33).bind fun t77=>
       some t77)
      (some false)).bind fun z75=>
      some z75
     | .done q474=>some q474
    | .done q475=>some q475
   | .done q476=>some q476
  | .done q477=>some q477)
theorem FZ {φ:AE} {h:AF} {F:List Chk} {g_0:(Option Addr×Nat×Nat)×(Option Addr×Nat×Nat)×(Option Addr×Nat×Nat)×ByteArray×(Option Addr×Nat×Nat)×Unit} {al:List Gu} {am:List HT} {an:List FP} {ao:List Dn} (ap:Ro.SliceIs Br φ g_0.1 al) (ba:Ro.SliceIs B0 φ g_0.2.1 am) (bb:Ro.SliceIs Bs φ g_0.2.2.1 an) (bc:Ro.SliceIs Bq φ g_0.2.2.2.2.1 ao) (s0:St φ (F) h) {r:Bool} (hd:Bt (al,am,an,g_0.2.2.2.1,ao)=some r):
 CallsH Tryd.prog 38 [(.agg #[(.slice g_0.1.1 g_0.1.2.1 g_0.1.2.2),(.slice g_0.2.1.1 g_0.2.1.2.1 g_0.2.1.2.2),(.slice g_0.2.2.1.1 g_0.2.2.1.2.1 g_0.2.2.1.2.2),(.string g_0.2.2.2.1),(.slice g_0.2.2.2.2.1.1 g_0.2.2.2.2.1.2.1 g_0.2.2.2.2.1.2.2)])] h (BO fun v h'=> ∃ψ:AE,∃y:Bool,Sub φ ψ∧v=((.one (.atom .bool)):Sh).val y∧y=r∧St ψ (F) h'):=by
 refine Aa mixed Tryd.func38 ?_
 rw [FT]
 unfold Dt
 unfold Bt at hd
 have aq:g_0.1.2.1=List.length al:=ap.length
 have ar:g_0.2.1.2.1=List.length am:=ba.length
 have au:g_0.2.2.1.2.1=List.length an:=bb.length
 have ab:g_0.2.2.2.2.1.2.1=List.length ao:=bc.length
 refine Ac (vs:= [sv g_0.1,sv g_0.2.1,sv g_0.2.2.1, .string g_0.2.2.2.1,sv g_0.2.2.2.2.1]) s0 fun r1 jw j=> ?_
 obtain ⟨cn,c,hd⟩:=bS hd
 refine Ak (fun (y:Bool×Unit) w_ g=> ∃ψ:AE,Sub φ ψ∧y.1=g∧St ψ (cW 66 r1 [sv g_0.1,sv g_0.2.1,sv g_0.2.2.1, .string g_0.2.2.2.1,sv g_0.2.2.2.2.1] ::F) w_) (g:=cn) ?_ ?_
 ·refine AA (x:=g_0.1) j rfl ?_
  refine AH c (by rw [aq] <;>rfl) (fun _ c=> ?_) (fun _ c=> ?_)
  ·obtain rfl:=iS c
   exact AN (true,()) rfl ⟨φ,(Sub.refl _),rfl,j⟩
  refine AA (x:=g_0.2.1) j rfl ?_
  refine AH c (by rw [ar] <;>rfl) (fun _ c=> ?_) (fun _ c=> ?_)
  ·obtain rfl:=iS c
   exact AN (true,()) rfl ⟨φ,(Sub.refl _),rfl,j⟩
  refine AA (x:=g_0.2.2.1) j rfl ?_
  refine AH c (by rw [au] <;>rfl) (fun _ c=> ?_) (fun _ c=> ?_)
  ·obtain rfl:=iS c
   exact AN (true,()) rfl ⟨φ,(Sub.refl _),rfl,j⟩
  refine AA (x:=g_0.2.2.2.2.1) j rfl ?_
  refine AH c (by rw [ab] <;>rfl) (fun _ c=> ?_) (fun _ c=> ?_)
  ·obtain rfl:=iS c
   exact AN (true,()) rfl ⟨φ,(Sub.refl _),rfl,j⟩
  refine AA (x:=g_0.2.2.2.2.1) j rfl ?_
  refine AH c (by rw [ab] <;>rfl) (fun _ c=> ?_) (fun _ c=> ?_)
  ·obtain rfl:=iS c
   exact AN (true,()) rfl ⟨φ,(Sub.refl _),rfl,j⟩
  refine AA (x:=g_0.2.2.2.1) j rfl ?_
  obtain ⟨jx,co,c⟩:=bS c
  refine AK (Bl j co) ?_
  rintro _ jy ⟨cp,t9,cq,rfl,rfl,cr⟩
  refine ⟨t9,rfl,?_⟩
  obtain rfl:=iS c
  exact AN ((!t9),()) rfl ⟨cp,cq,rfl,cr⟩
 rintro z2 jz ⟨ac,k,rfl,bd⟩
 try dsimp only at hd
 refine AH hd rfl (fun _ hd=> ?_) (fun _ hd=> ?_)
 ·obtain rfl:=iS hd
  have cs:=bd.tail
  exact AC ⟨ac,false,k,rfl,rfl,cs⟩
 have ct:=bd.nil 9 Ro.str
 have cu:=ct.at1
 have cv:=cu.at1
 obtain ⟨cw,cx,hd⟩:=bS hd
 refine Ad (fun (y:Int×(Option Addr×Nat×Nat)×Bool×Unit) w_ g=> ∃ψ:AE,∃be:List ByteArray,Sub ac ψ∧AR.next be=g∧St ψ (cR 9 Ro.str y.2.1 be::cW 66 r1 [sv g_0.1,sv g_0.2.1,sv g_0.2.2.1, .string g_0.2.2.2.1,sv g_0.2.2.2.2.1] ::F) w_) (g:=cw) ?_ ?_
 ·refine BQ cx (fun cy (y:Int×(Option Addr×Nat×Nat)×Bool×Unit) w_ g=> ∃ψ:AE,∃bf:List ByteArray,Sub ac ψ∧y.1=cy∧bf=g∧St ψ (cR 9 Ro.str y.2.1 bf::cW 66 r1 [sv g_0.1,sv g_0.2.1,sv g_0.2.2.1, .string g_0.2.2.2.1,sv g_0.2.2.2.2.1] ::F) w_) ((0:Int),((none,0,0):Slc),false,()) rfl ⟨ac,([] :List ByteArray),(Sub.refl _),rfl,rfl,cv⟩ ?_ ?_
  ·rintro _ z11 k0 _ _ ⟨k1,k2,ad,rfl,rfl,a6⟩ f cz bg bh d0
   try dsimp only at f cz bg bh
   have k3:=a6.rowLen
   refine AA (x:=g_0.1) a6.at1 rfl ?_
   refine Az (by rw [aq]; exact decide_eq_true bg) ?_
   refine AA (x:=g_0.1) a6.at1 rfl ?_
   obtain ⟨av,d1,f⟩:=bS f
   obtain ⟨k4,k5,d2,d3,d4,d5⟩:=(ap.mono (k.trans ad)).get d1
   refine AG _ d2 (AZ d3 ?_)
   obtain ⟨_,_,rfl,d6,d7⟩:=d4
   obtain rfl:=d6
   obtain ⟨_,_,rfl,d8,d9⟩:=d7
   obtain rfl:=d8
   obtain ⟨_,_,rfl,da,db⟩:=d9
   obtain rfl:=da
   obtain rfl:=db
   refine AL (x:=av.1) (AB (Sub.trans (Sub.refl _) a6.sub) (d5 0 _ rfl)) rfl ?_
   refine Ac (vs:= [.string av.1]) a6 fun r16 k6 bi=> ?_
   have dc:=St.cells bi
   have dd:=bi.tail
   obtain ⟨de,df,f⟩:=bS f
   refine Aq (r:=Ro.str) (ms:=([av.1] :List ByteArray)) By dd rfl dc (.cons (a:= [_]) rfl .nil) rfl df ?_
   intro t17 k7 a0
   have k8:=a0.rowLen
   refine AA (x:=g_0.1) a0.at1 rfl ?_
   obtain ⟨a1,dg,f⟩:=bS f
   obtain ⟨k9,ka,dh,di,dj,aw⟩:=(ap.mono (k.trans ad)).get dg
   refine AG _ dh (AZ di ?_)
   obtain ⟨_,_,rfl,dk,dl⟩:=dj
   obtain rfl:=dk
   obtain ⟨_,_,rfl,dm,dn⟩:=dl
   obtain rfl:=dm
   obtain ⟨_,_,rfl,dp,dq⟩:=dn
   obtain rfl:=dp
   obtain rfl:=dq
   refine AL (x:=a1.2.1) (by rw [AV]; exact (AB (Sub.trans (Sub.refl _) a0.sub) (aw 1 _ rfl))) rfl ?_
   refine AL (x:=a1.2.2.1) (by rw [AV,AV]; exact (AB (Sub.trans (Sub.refl _) a0.sub) (aw 2 _ rfl))) rfl ?_
   refine AL (x:=a1.2.2.2) (by rw [AV,AV]; exact (AB (Sub.trans (Sub.refl _) a0.sub) (aw 3 _ rfl))) rfl ?_
   obtain ⟨kb,dr,f⟩:=bS f
   refine AK (C3 (p_0:=(a1.2.1,a1.2.2.1,a1.2.2.2,())) a0 dr) ?_
   rintro _ kc ⟨bj,t23,bk,rfl,rfl,bl⟩
   refine ⟨t23,rfl,?_⟩
   refine AH f rfl (fun _ f=> ?_) (fun _ f=> ?_)
   ·obtain rfl:=iS f
    obtain rfl:=d0 _ rfl
    try dsimp only at hd
    obtain rfl:=iS hd
    have ds:=bl.tail
    have dt:=ds.tail
    exact AU (AY (AC ⟨bj,false,((k.trans ad).trans bk),rfl,rfl,dt⟩))
   have du:=bl.at1
   have dv:=du.at1
   obtain rfl:=iS f
   exact Ar ((IntKind.wrap .i64 (z11.1+(1:Int))),t17,z11.2.2.1,()) _ rfl rfl ⟨bj,de,(ad.trans bk),bh,rfl,dv⟩
  ·rintro _ z11 kd _ ⟨dw,dx,dy,rfl,rfl,ax⟩ dz e0
   subst e0
   have ke:=ax.rowLen
   refine AA (x:=g_0.1) ax.at1 rfl ?_
   refine Al (by rw [aq]; exact decide_eq_false (Int.not_lt.2 dz)) ?_
   have e1:=ax.at1
   have e2:=e1.at1
   exact AO (AS (z11.1,z11.2.1,z11.2.2.1,()) rfl ⟨dw,dx,dy,rfl,e2⟩)
 rintro z10 kf ⟨ay,l,q,rfl,bm⟩
 try dsimp only at hd
 have kg:=bm.rowLen
 have e3:=bm.at1
 have e4:=e3.at1
 obtain ⟨e5,e6,hd⟩:=bS hd
 refine Ad (fun (y:Int×Bool×Unit) w_ g=> ∃ψ:AE,Sub ay ψ∧AR.next ()=g∧St ψ (cR 9 Ro.str z10.2.1 l::cW 66 r1 [sv g_0.1,sv g_0.2.1,sv g_0.2.2.1, .string g_0.2.2.2.1,sv g_0.2.2.2.2.1] ::F) w_) (g:=e5) ?_ ?_
 ·refine BQ e6 (fun e7 (y:Int×Bool×Unit) w_ g=> ∃ψ:AE,Sub ay ψ∧y.1=e7∧()=g∧St ψ (cR 9 Ro.str z10.2.1 l::cW 66 r1 [sv g_0.1,sv g_0.2.1,sv g_0.2.2.1, .string g_0.2.2.2.1,sv g_0.2.2.2.2.1] ::F) w_) ((0:Int),z10.2.2.1,()) rfl ⟨ay,(Sub.refl _),rfl,rfl,e4⟩ ?_ ?_
  ·rintro _ z25 kh _ _ ⟨ki,az,rfl,rfl,a2⟩ m e8 bn bo e9
   try dsimp only at m e8 bn bo
   refine AA (x:=g_0.2.1) a2.at1 rfl ?_
   refine Az (by rw [ar]; exact decide_eq_true bn) ?_
   refine AA (x:=g_0.2.1) a2.at1 rfl ?_
   obtain ⟨a3,ea,m⟩:=bS m
   obtain ⟨kj,kk,eb,ec,ed,b0⟩:=(ba.mono ((k.trans q).trans az)).get ea
   refine AG _ eb (AZ ec ?_)
   obtain ⟨_,_,rfl,ee,ef⟩:=ed
   obtain rfl:=ee
   obtain ⟨_,_,rfl,eg,eh⟩:=ef
   obtain rfl:=eg
   obtain rfl:=eh
   refine AL (x:=a3.1) (AB (Sub.trans (Sub.refl _) a2.sub) (b0 0 _ rfl)) rfl ?_
   refine AL (x:=a3.2.1) (by rw [AV]; exact (AB (Sub.trans (Sub.refl _) a2.sub) (b0 1 _ rfl))) rfl ?_
   refine AL (x:=a3.2.2) (by rw [AV]; exact (AB (Sub.trans (Sub.refl _) a2.sub) (b0 2 _ rfl))) rfl ?_
   obtain ⟨kl,ei,m⟩:=bS m
   refine AK (C3 (p_0:=(a3.1,a3.2.1,a3.2.2,())) a2 ei) ?_
   rintro _ km ⟨bp,t32,bq,rfl,rfl,br⟩
   refine ⟨t32,rfl,?_⟩
   refine AH m rfl (fun _ m=> ?_) (fun _ m=> ?_)
   ·obtain rfl:=iS m
    obtain rfl:=e9 _ rfl
    try dsimp only at hd
    obtain rfl:=iS hd
    have ej:=br.tail
    have ek:=ej.tail
    exact AU (AY (AC ⟨bp,false,(((k.trans q).trans az).trans bq),rfl,rfl,ek⟩))
   have el:=br.at1
   have em:=el.at1
   obtain rfl:=iS m
   exact Ar ((IntKind.wrap .i64 (z25.1+(1:Int))),z25.2.1,()) _ rfl rfl ⟨bp,(az.trans bq),bo,rfl,em⟩
  ·rintro _ z25 kn _ ⟨en,eo,rfl,rfl,bs⟩ ep er
   subst er
   refine AA (x:=g_0.2.1) bs.at1 rfl ?_
   refine Al (by rw [ar]; exact decide_eq_false (Int.not_lt.2 ep)) ?_
   have es:=bs.at1
   have eu:=es.at1
   exact AO (AS (z25.1,z25.2.1,()) rfl ⟨en,eo,rfl,eu⟩)
 rintro z24 ko ⟨b1,a4,rfl,ev⟩
 try dsimp only at hd
 have ew:=ev.nil 9 Ro.str
 have ex:=ew.at2
 have ey:=ex.at2
 have ez:=ey.at2
 obtain ⟨f0,f1,hd⟩:=bS hd
 refine Ad (fun (y:Int×(Option Addr×Nat×Nat)×Bool×Unit) w_ g=> ∃ψ:AE,∃bt:List ByteArray,Sub b1 ψ∧AR.next bt=g∧St ψ (cR 9 Ro.str y.2.1 bt::cR 9 Ro.str z10.2.1 l::cW 66 r1 [sv g_0.1,sv g_0.2.1,sv g_0.2.2.1, .string g_0.2.2.2.1,sv g_0.2.2.2.2.1] ::F) w_) (g:=f0) ?_ ?_
 ·refine BQ f1 (fun f2 (y:Int×(Option Addr×Nat×Nat)×Bool×Unit) w_ g=> ∃ψ:AE,∃bu:List ByteArray,Sub b1 ψ∧y.1=f2∧bu=g∧St ψ (cR 9 Ro.str y.2.1 bu::cR 9 Ro.str z10.2.1 l::cW 66 r1 [sv g_0.1,sv g_0.2.1,sv g_0.2.2.1, .string g_0.2.2.2.1,sv g_0.2.2.2.2.1] ::F) w_) ((0:Int),((none,0,0):Slc),z24.2.1,()) rfl ⟨b1,([] :List ByteArray),(Sub.refl _),rfl,rfl,ez⟩ ?_ ?_
  ·rintro _ z34 kp _ _ ⟨ae,kq,b2,rfl,rfl,a5⟩ i f3 bv bw f4
   try dsimp only at i f3 bv bw
   have kr:=a5.rowLen
   refine AA (x:=g_0.2.2.1) a5.at2 rfl ?_
   refine Az (by rw [au]; exact decide_eq_true bv) ?_
   refine AA (x:=g_0.2.2.1) a5.at2 rfl ?_
   obtain ⟨a7,f5,i⟩:=bS i
   obtain ⟨ks,kt,f6,f7,f8,bx⟩:=(bb.mono (((k.trans q).trans a4).trans b2)).get f5
   refine AG _ f6 (AZ f7 ?_)
   obtain ⟨_,_,rfl,f9,fa⟩:=f8
   obtain rfl:=f9
   obtain ⟨a8,rfl,bz⟩:=fa
   have c0:=bz.length
   refine AL (x:=a7.1) (AB (Sub.trans (Sub.refl _) a5.sub) (bx 0 _ rfl)) rfl ?_
   refine AL (x:=a8) (by rw [AV]; exact (AB (Sub.trans (Sub.refl _) a5.sub) (bx 1 _ rfl))) rfl ?_
   refine Ac (vs:= [.int .i64 (0:Int), .slice none 0 0]) a5 fun r40 ku fb=> ?_
   refine AJ fb rfl rfl fun kv fc=> ?_
   refine AJ fc rfl rfl fun kw b3=> ?_
   refine AA (x:=a8) b3 rfl ?_
   obtain ⟨kx,fd,fe⟩:=bz.heap b3.sub
   have ff:=b3.at1
   obtain ⟨c1,fg,i⟩:=bS i
   refine Aq (r:=Ro.str) (ms:=a7.2) By ff rfl fe fd c0.symm fg ?_
   intro t42 ky w
   have kz:=w.rowLen
   obtain ⟨fh,o,i⟩:=bS i
   refine Ak (fun (y:Bool×Unit) w_ g=> ∃ψ:AE,Sub ae ψ∧y.1=g∧St ψ (cR 9 Ro.str t42 c1::cW 97 r40 [.int .i64 a7.1,sv a8] ::cR 9 Ro.str z10.2.1 l::cW 66 r1 [sv g_0.1,sv g_0.2.1,sv g_0.2.2.1, .string g_0.2.2.2.1,sv g_0.2.2.2.2.1] ::F) w_) (g:=fh) ?_ ?_
   ·refine AA (x:=a7.1) w.at1 rfl ?_
    refine AH o rfl (fun _ o=> ?_) (fun _ o=> ?_)
    ·have fi:=w.at3
     have fj:=fi.at3
     have fk:=fj.at3
     have fl:=fk.at3
     obtain rfl:=iS o
     exact AN (true,()) rfl ⟨ae,(Sub.refl _),rfl,fl⟩
    refine AA (x:=a7.1) w.at1 rfl ?_
    refine AH o rfl (fun _ o=> ?_) (fun _ o=> ?_)
    ·have fm:=w.at3
     have fn:=fm.at3
     have fo:=fn.at3
     have fp:=fo.at3
     obtain rfl:=iS o
     exact AN (true,()) rfl ⟨ae,(Sub.refl _),rfl,fp⟩
    refine AA (x:=a8) w.at1 rfl ?_
    have fq:=w.at3
    have fr:=fq.at3
    have fs:=fr.at3
    have ft:=fs.at3
    obtain rfl:=iS o
    exact AN ((((a8.2.1:Nat):Int)==(0:Int)),()) rfl ⟨ae,(Sub.refl _),(by rw [c0]),ft⟩
   rintro z43 l0 ⟨c2,c3,rfl,c4⟩
   try dsimp only at i
   refine AH i rfl (fun _ i=> ?_) (fun _ i=> ?_)
   ·obtain rfl:=iS i
    obtain rfl:=f4 _ rfl
    try dsimp only at hd
    obtain rfl:=iS hd
    have fu:=c4.tail
    have fv:=fu.tail
    have fw:=fv.tail
    have fx:=fw.tail
    exact AU (AY (AC ⟨c2,false,((((k.trans q).trans a4).trans b2).trans c3),rfl,rfl,fx⟩))
   have fy:=c4.at1.tail
   have fz:=fy.at2
   have g0:=fz.at2
   have g1:=g0.at2
   obtain rfl:=iS i
   exact Ar ((IntKind.wrap .i64 (z34.1+(1:Int))),t42,z34.2.2.1,()) _ rfl rfl ⟨c2,c1,(b2.trans c3),bw,rfl,g1⟩
  ·rintro _ z34 l1 _ ⟨g2,g3,g4,rfl,rfl,b4⟩ g5 g6
   subst g6
   have l2:=b4.rowLen
   refine AA (x:=g_0.2.2.1) b4.at2 rfl ?_
   refine Al (by rw [au]; exact decide_eq_false (Int.not_lt.2 g5)) ?_
   have g7:=b4.at2
   have g8:=g7.at2
   have g9:=g8.at2
   exact AO (AS (z34.1,z34.2.1,z34.2.2.1,()) rfl ⟨g2,g3,g4,rfl,g9⟩)
 rintro z33 l3 ⟨b5,a9,af,rfl,c5⟩
 try dsimp only at hd
 have l4:=c5.rowLen
 have ga:=c5.at2
 have gb:=ga.at2
 have gc:=gb.at2
 obtain ⟨gd,ge,hd⟩:=bS hd
 refine Ad (fun (y:Int×Bool×Unit) w_ g=> ∃ψ:AE,Sub b5 ψ∧AR.next ()=g∧St ψ (cR 9 Ro.str z33.2.1 a9::cR 9 Ro.str z10.2.1 l::cW 66 r1 [sv g_0.1,sv g_0.2.1,sv g_0.2.2.1, .string g_0.2.2.2.1,sv g_0.2.2.2.2.1] ::F) w_) (g:=gd) ?_ ?_
 ·refine BQ ge (fun gf (y:Int×Bool×Unit) w_ g=> ∃ψ:AE,Sub b5 ψ∧y.1=gf∧()=g∧St ψ (cR 9 Ro.str z33.2.1 a9::cR 9 Ro.str z10.2.1 l::cW 66 r1 [sv g_0.1,sv g_0.2.1,sv g_0.2.2.1, .string g_0.2.2.2.1,sv g_0.2.2.2.2.1] ::F) w_) ((0:Int),z33.2.2.1,()) rfl ⟨b5,(Sub.refl _),rfl,rfl,gc⟩ ?_ ?_
  ·rintro _ z48 l5 _ _ ⟨gg,ag,rfl,rfl,z⟩ e gh c6 c7 c8
   try dsimp only at e gh c6 c7
   refine AA (x:=g_0.2.2.2.2.1) z.at2 rfl ?_
   refine Az (by rw [ab]; exact decide_eq_true c6) ?_
   refine AA (x:=g_0.2.2.2.2.1) z.at2 rfl ?_
   obtain ⟨d,gi,e⟩:=bS e
   obtain ⟨l6,l7,gj,gk,gl,ah⟩:=(bc.mono ((((k.trans q).trans a4).trans af).trans ag)).get gi
   refine AG _ gj (AZ gk ?_)
   obtain ⟨_,_,rfl,gm,gn⟩:=gl
   obtain rfl:=gm
   obtain ⟨_,_,rfl,go,gp⟩:=gn
   obtain ⟨s,rfl,c9⟩:=go
   have b6:=c9.length
   obtain ⟨_,_,rfl,gq,gr⟩:=gp
   obtain rfl:=gq
   obtain rfl:=gr
   refine AL (x:=d.1) (AB (Sub.trans (Sub.refl _) z.sub) (ah 0 _ rfl)) rfl ?_
   refine AL (x:=s) (by rw [AV]; exact (AB (Sub.trans (Sub.refl _) z.sub) (ah 1 _ rfl))) rfl ?_
   refine AL (x:=d.2.2.1) (by rw [AV]; exact (AB (Sub.trans (Sub.refl _) z.sub) (ah 2 _ rfl))) rfl ?_
   refine AL (x:=d.2.2.2) (by rw [AV]; exact (AB (Sub.trans (Sub.refl _) z.sub) (ah 3 _ rfl))) rfl ?_
   refine Ac (vs:= [.string ({data:= #[] }), .slice none 0 0, .string ({data:= #[] }), .string ({data:= #[] })]) z fun r56 l8 gs=> ?_
   refine AJ gs rfl rfl fun l9 gt=> ?_
   refine AJ gt rfl rfl fun la gu=> ?_
   refine AJ gu rfl rfl fun lb gv=> ?_
   refine AJ gv rfl rfl fun lc ca=> ?_
   obtain ⟨gw,b,e⟩:=bS e
   refine Ak (fun (y:Bool×Unit) w_ g=> ∃ψ:AE,Sub gg ψ∧y.1=g∧St ψ (cW 90 r56 [.string d.1,sv s, .string d.2.2.1, .string d.2.2.2] ::cR 9 Ro.str z33.2.1 a9::cR 9 Ro.str z10.2.1 l::cW 66 r1 [sv g_0.1,sv g_0.2.1,sv g_0.2.2.1, .string g_0.2.2.2.1,sv g_0.2.2.2.2.1] ::F) w_) (g:=gw) ?_ ?_
   ·refine AA (x:=d.1) ca rfl ?_
    obtain ⟨ld,gx,b⟩:=bS b
    refine AK (Bl ca gx) ?_
    rintro _ le ⟨cb,t59,aa,rfl,rfl,u⟩
    refine ⟨t59,rfl,?_⟩
    refine AH b rfl (fun _ b=> ?_) (fun _ b=> ?_)
    ·have gy:=u.at3
     have gz:=gy.at3
     have h0:=gz.at3
     have h1:=h0.at3
     obtain rfl:=iS b
     exact AN (true,()) rfl ⟨cb,aa,rfl,h1⟩
    refine AA (x:=s) u rfl ?_
    refine AH b (by rw [b6] <;>rfl) (fun _ b=> ?_) (fun _ b=> ?_)
    ·have h2:=u.at3
     have h3:=h2.at3
     have h4:=h3.at3
     have h5:=h4.at3
     obtain rfl:=iS b
     exact AN (true,()) rfl ⟨cb,aa,rfl,h5⟩
    refine AA (x:=d.2.2.1) u rfl ?_
    refine AH b rfl (fun _ b=> ?_) (fun _ b=> ?_)
    ·refine AA (x:=d.2.2.1) u rfl ?_
     obtain ⟨lf,h6,b⟩:=bS b
     refine AK (Bl u h6) ?_
     rintro _ lg ⟨h7,t63,cc,rfl,rfl,b7⟩
     refine ⟨t63,rfl,?_⟩
     refine AH b rfl (fun _ b=> ?_) (fun _ b=> ?_)
     ·have h8:=b7.at3
      have h9:=h8.at3
      have hb:=h9.at3
      have hc:=hb.at3
      obtain rfl:=iS b
      exact AN (true,()) rfl ⟨h7,(aa.trans cc),rfl,hc⟩
     refine AA (x:=d.2.2.2) b7 rfl ?_
     obtain ⟨lh,he,b⟩:=bS b
     refine AK (DG b7 he) ?_
     rintro _ li ⟨hf,t65,hg,rfl,rfl,hh⟩
     refine ⟨t65,rfl,?_⟩
     have hi:=hh.at3
     have hj:=hi.at3
     have hk:=hj.at3
     have hl:=hk.at3
     obtain rfl:=iS b
     exact AN ((!t65),()) rfl ⟨hf,((aa.trans cc).trans hg),rfl,hl⟩
    refine AA (x:=d.2.2.2) u rfl ?_
    obtain ⟨lj,hm,b⟩:=bS b
    refine AK (DG u hm) ?_
    rintro _ lk ⟨hn,t67,ho,rfl,rfl,hp⟩
    refine ⟨t67,rfl,?_⟩
    have hq:=hp.at3
    have hr:=hq.at3
    have hs:=hr.at3
    have ht:=hs.at3
    obtain rfl:=iS b
    exact AN ((!t67),()) rfl ⟨hn,(aa.trans ho),rfl,ht⟩
   rintro z57 ll ⟨ai,aj,rfl,cd⟩
   try dsimp only at e
   refine AH e rfl (fun _ e=> ?_) (fun _ e=> ?_)
   ·obtain rfl:=iS e
    obtain rfl:=c8 _ rfl
    try dsimp only at hd
    obtain rfl:=iS hd
    have hu:=cd.tail
    have hv:=hu.tail
    have hw:=hv.tail
    have hx:=hw.tail
    exact AU (AY (AC ⟨ai,false,(((((k.trans q).trans a4).trans af).trans ag).trans aj),rfl,rfl,hx⟩))
   have hy:=cd.at3
   have hz:=hy.at3
   have i0:=hz.at3
   have i1:=i0.at3
   obtain ⟨i2,i3,e⟩:=bS e
   refine Ad (fun (y:Int×Bool×Unit) w_ g=> ∃ψ:AE,Sub ai ψ∧AR.next ()=g∧St ψ (cW 90 r56 [.string d.1,sv s, .string d.2.2.1, .string d.2.2.2] ::cR 9 Ro.str z33.2.1 a9::cR 9 Ro.str z10.2.1 l::cW 66 r1 [sv g_0.1,sv g_0.2.1,sv g_0.2.2.1, .string g_0.2.2.2.1,sv g_0.2.2.2.2.1] ::F) w_) (g:=i2) ?_ ?_
   ·refine BQ i3 (fun i4 (y:Int×Bool×Unit) w_ g=> ∃ψ:AE,Sub ai ψ∧y.1=i4∧()=g∧St ψ (cW 90 r56 [.string d.1,sv s, .string d.2.2.1, .string d.2.2.2] ::cR 9 Ro.str z33.2.1 a9::cR 9 Ro.str z10.2.1 l::cW 66 r1 [sv g_0.1,sv g_0.2.1,sv g_0.2.2.1, .string g_0.2.2.2.1,sv g_0.2.2.2.2.1] ::F) w_) ((0:Int),z48.2.1,()) rfl ⟨ai,(Sub.refl _),rfl,rfl,i1⟩ ?_ ?_
    ·rintro _ z69 lm _ _ ⟨ln,b8,rfl,rfl,ak⟩ n i5 ce cf i6
     try dsimp only at n i5 ce cf
     refine AA (x:=s) ak rfl ?_
     refine Az (by rw [b6]; exact decide_eq_true ce) ?_
     refine AA (x:=s) ak rfl ?_
     obtain ⟨i7,i8,n⟩:=bS n
     obtain ⟨lo,lp,i9,ia,ib,ic⟩:=(c9.mono (aj.trans b8)).get i8
     refine AG _ i9 (AZ ia ?_)
     obtain rfl:=ib
     refine AL (x:=i7) (AB (Sub.trans (Sub.refl _) ak.sub) (ic 0 _ rfl)) rfl ?_
     obtain ⟨lq,ie,n⟩:=bS n
     refine AK (Bl ak ie) ?_
     rintro _ lr ⟨cg,t74,ch,rfl,rfl,ci⟩
     refine ⟨t74,rfl,?_⟩
     refine AH n rfl (fun _ n=> ?_) (fun _ n=> ?_)
     ·obtain rfl:=iS n
      obtain rfl:=i6 _ rfl
      try dsimp only at e
      obtain rfl:=iS e
      obtain rfl:=c8 _ rfl
      try dsimp only at hd
      obtain rfl:=iS hd
      have ig:=ci.tail
      have ih:=ig.tail
      have ii:=ih.tail
      have ij:=ii.tail
      exact AU (AY (AU (AY (AC ⟨cg,false,(((((((k.trans q).trans a4).trans af).trans ag).trans aj).trans b8).trans ch),rfl,rfl,ij⟩))))
     have ik:=ci.at3
     have il:=ik.at3
     have im:=il.at3
     have io:=im.at3
     obtain rfl:=iS n
     exact Ar ((IntKind.wrap .i64 (z69.1+(1:Int))),z69.2.1,()) _ rfl rfl ⟨cg,(b8.trans ch),cf,rfl,io⟩
    ·rintro _ z69 ls _ ⟨ip,iq,rfl,rfl,cj⟩ ir it
     subst it
     refine AA (x:=s) cj rfl ?_
     refine Al (by rw [b6]; exact decide_eq_false (Int.not_lt.2 ir)) ?_
     have iu:=cj.at3
     have iv:=iu.at3
     have iw:=iv.at3
     have ix:=iw.at3
     exact AO (AS (z69.1,z69.2.1,()) rfl ⟨ip,iq,rfl,ix⟩)
   rintro z68 lt ⟨iy,iz,rfl,j0⟩
   try dsimp only at e
   have j1:=j0.tail
   have j2:=j1.at2
   have j3:=j2.at2
   have j4:=j3.at2
   obtain rfl:=iS e
   exact Ar ((IntKind.wrap .i64 (z48.1+(1:Int))),z68.2.1,()) _ rfl rfl ⟨iy,((ag.trans aj).trans iz),c7,rfl,j4⟩
  ·rintro _ z48 lu _ ⟨j5,j6,rfl,rfl,ck⟩ j7 j8
   subst j8
   refine AA (x:=g_0.2.2.2.2.1) ck.at2 rfl ?_
   refine Al (by rw [ab]; exact decide_eq_false (Int.not_lt.2 j7)) ?_
   have j9:=ck.at2
   have ja:=j9.at2
   have jb:=ja.at2
   exact AO (AS (z48.1,z48.2.1,()) rfl ⟨j5,j6,rfl,jb⟩)
 rintro z47 lv ⟨lw,jc,rfl,jd⟩
 try dsimp only at hd
 have je:=jd.at1
 obtain ⟨lx,jf,jg,jh⟩:=St.freezeRow (t:=z10.2.1) je
 obtain ⟨ji,cl,jj,jk⟩:=St.freezeRow (t:=z33.2.1) jh
 obtain ⟨jl,p,hd⟩:=bS hd
 refine Ak (fun (y:Bool×Unit) w_ g=> ∃ψ:AE,Sub ji ψ∧y.1=g∧St ψ (cW 66 r1 [sv g_0.1,sv g_0.2.1,sv g_0.2.2.1, .string g_0.2.2.2.1,sv g_0.2.2.2.2.1] ::F) w_) (g:=jl) ?_ ?_
 ·obtain ⟨ly,jm,p⟩:=bS p
  refine AK (Dc (jg.mono cl) jk jm) ?_
  rintro _ lz ⟨jn,t76,b9,rfl,rfl,cm⟩
  refine ⟨t76,rfl,?_⟩
  refine AH p rfl (fun _ p=> ?_) (fun _ p=> ?_)
  ·obtain ⟨m0,jo,p⟩:=bS p
   refine AK (Dc (jj.mono b9) cm jo) ?_
   rintro _ m1 ⟨jp,t77,jq,rfl,rfl,jr⟩
   refine ⟨t77,rfl,?_⟩
   obtain rfl:=iS p
   exact AN (t77,()) rfl ⟨jp,(b9.trans jq),rfl,jr⟩
  obtain rfl:=iS p
  exact AN (false,()) rfl ⟨jn,b9,rfl,cm⟩
 rintro z75 m2 ⟨js,jt,rfl,ju⟩
 try dsimp only at hd
 obtain rfl:=iS hd
 have jv:=ju.tail
 exact AC ⟨js,z75.1,(((((((k.trans q).trans a4).trans af).trans jc).trans jf).trans cl).trans jt),rfl,rfl,jv⟩
noncomputable def A6 (s_0:Gv):Option (List Gu×List HT×List FP×ByteArray×List Dn):=
 need ((5:Int) ≠ 0) <|
 need ((4:Int) ≠ 0) <|
 (Fe (σ:=DJ) (0:Int) (((List.length s_0.2.2.2.2.2.1):Nat):Int) (([] :List Gu),([] :List HT),([] :List FP),{data:= #[83] },([] :List Dn)) fun i_z7 z7=>
  (idx s_0.2.2.2.2.2.1 i_z7).bind fun e115=>
  need ((3:Int) ≠ 0) <|
  need (0≤i_z7∧i_z7≤(IntKind.wrap .i64 (i_z7+(1:Int)))∧(IntKind.wrap .i64 (i_z7+(1:Int))) ≤(ByteArray.size {data:= #[112,113,114,115,116] } :Nat)) <|
  (app z7.2.2.1 ([((IntKind.wrap .i64 ((IntKind.wrap .i64 (Int.tmod e115 (3:Int))) +(1:Int))),([(ByteArray.extract {data:= #[112,113,114,115,116] } (Int.toNat i_z7) (Int.toNat (IntKind.wrap .i64 (i_z7+(1:Int)))))] :List ByteArray))] :List FP)).bind fun t15=>
  some (z7.1,z7.2.1,t15,(z7.2.2.2.1),z7.2.2.2.2)).bind fun z6=>
 (Fe (σ:=DJ) (0:Int) (IntKind.wrap .i64 ((IntKind.wrap .i64 (Int.tmod s_0.1 (5:Int))) +(1:Int))) z6 fun i_z17 z17=>
  need (0≤i_z17∧i_z17≤(IntKind.wrap .i64 (i_z17+(1:Int)))∧(IntKind.wrap .i64 (i_z17+(1:Int))) ≤(ByteArray.size {data:= #[97,98,99,100,101] } :Nat)) <|
  (app z17.1 ([((ByteArray.extract {data:= #[97,98,99,100,101] } (Int.toNat i_z17) (Int.toNat (IntKind.wrap .i64 (i_z17+(1:Int))))),(ByteArray.extract {data:= #[97,98,99,100,101] } (Int.toNat i_z17) (Int.toNat (IntKind.wrap .i64 (i_z17+(1:Int))))),{data:= #[] },false)] :List Gu)).bind fun t20=>
  (cond (decide (i_z17< (((List.length s_0.2.2.2.2.2.2):Nat):Int)))
  ((idx s_0.2.2.2.2.2.2 i_z17).bind fun e270=>
   need ((IntKind.wrap .i64 ((((List.length (t20,z17.2.1,z17.2.2.1,(z17.2.2.2.1),z17.2.2.2.2).2.2.1):Nat):Int) +(1:Int))) ≠ 0) <|
   (cond (decide ((Int.tmod (IntKind.wrap .i64 e270) (IntKind.wrap .i64 ((((List.length (t20,z17.2.1,z17.2.2.1,(z17.2.2.2.1),z17.2.2.2.2).2.2.1):Nat):Int) +(1:Int)))) >(0:Int)))
   ((idx ((t20,z17.2.1,z17.2.2.1,(z17.2.2.2.1),z17.2.2.2.2).1,(t20,z17.2.1,z17.2.2.1,(z17.2.2.2.1),z17.2.2.2.2).2.1,(t20,z17.2.1,z17.2.2.1,(z17.2.2.2.1),z17.2.2.2.2).2.2.1,((t20,z17.2.1,z17.2.2.1,(z17.2.2.2.1),z17.2.2.2.2).2.2.2.1),(t20,z17.2.1,z17.2.2.1,(z17.2.2.2.1),z17.2.2.2.2).2.2.2.2).2.2.1 (IntKind.wrap .i64 ((Int.tmod (IntKind.wrap .i64 e270) (IntKind.wrap .i64 ((((List.length (t20,z17.2.1,z17.2.2.1,(z17.2.2.2.1),z17.2.2.2.2).2.2.1):Nat):Int) +(1:Int)))) - (1:Int)))).bind fun e382=>
    (app ([] :List ByteArray) e382.2).bind fun t33=>
    (app t33 ([(ByteArray.extract {data:= #[97,98,99,100,101] } (Int.toNat i_z17) (Int.toNat (IntKind.wrap .i64 (i_z17+(1:Int)))))] :List ByteArray)).bind fun t35=>
    (idx ((t20,z17.2.1,z17.2.2.1,(z17.2.2.2.1),z17.2.2.2.2).1,(t20,z17.2.1,z17.2.2.1,(z17.2.2.2.1),z17.2.2.2.2).2.1,(t20,z17.2.1,z17.2.2.1,(z17.2.2.2.1),z17.2.2.2.2).2.2.1,((t20,z17.2.1,z17.2.2.1,(z17.2.2.2.1),z17.2.2.2.2).2.2.2.1),(t20,z17.2.1,z17.2.2.1,(z17.2.2.2.1),z17.2.2.2.2).2.2.2.2).2.2.1 (IntKind.wrap .i64 ((Int.tmod (IntKind.wrap .i64 e270) (IntKind.wrap .i64 ((((List.length (t20,z17.2.1,z17.2.2.1,(z17.2.2.2.1),z17.2.2.2.2).2.2.1):Nat):Int) +(1:Int)))) - (1:Int)))).bind fun e419=>
    (Gq (((t20,z17.2.1,z17.2.2.1,(z17.2.2.2.1),z17.2.2.2.2).1,(t20,z17.2.1,z17.2.2.1,(z17.2.2.2.1),z17.2.2.2.2).2.1,(t20,z17.2.1,z17.2.2.1,(z17.2.2.2.1),z17.2.2.2.2).2.2.1,((t20,z17.2.1,z17.2.2.1,(z17.2.2.2.1),z17.2.2.2.2).2.2.2.1),(t20,z17.2.1,z17.2.2.1,(z17.2.2.2.1),z17.2.2.2.2).2.2.2.2).2.2.1) (IntKind.wrap .i64 ((Int.tmod (IntKind.wrap .i64 e270) (IntKind.wrap .i64 ((((List.length (t20,z17.2.1,z17.2.2.1,(z17.2.2.2.1),z17.2.2.2.2).2.2.1):Nat):Int) +(1:Int)))) - (1:Int))) (e419.1,t35)).bind fun m434=>
    some (((t20,z17.2.1,z17.2.2.1,(z17.2.2.2.1),z17.2.2.2.2).1,(t20,z17.2.1,z17.2.2.1,(z17.2.2.2.1),z17.2.2.2.2).2.1,(t20,z17.2.1,z17.2.2.1,(z17.2.2.2.1),z17.2.2.2.2).2.2.1,((t20,z17.2.1,z17.2.2.1,(z17.2.2.2.1),z17.2.2.2.2).2.2.2.1),(t20,z17.2.1,z17.2.2.1,(z17.2.2.2.1),z17.2.2.2.2).2.2.2.2).1,((t20,z17.2.1,z17.2.2.1,(z17.2.2.2.1),z17.2.2.2.2).1,(t20,z17.2.1,z17.2.2.1,(z17.2.2.2.1),z17.2.2.2.2).2.1,(t20,z17.2.1,z17.2.2.1,(z17.2.2.2.1),z17.2.2.2.2).2.2.1,((t20,z17.2.1,z17.2.2.1,(z17.2.2.2.1),z17.2.2.2.2).2.2.2.1),(t20,z17.2.1,z17.2.2.1,(z17.2.2.2.1),z17.2.2.2.2).2.2.2.2).2.1,m434,(((t20,z17.2.1,z17.2.2.1,(z17.2.2.2.1),z17.2.2.2.2).1,(t20,z17.2.1,z17.2.2.1,(z17.2.2.2.1),z17.2.2.2.2).2.1,(t20,z17.2.1,z17.2.2.1,(z17.2.2.2.1),z17.2.2.2.2).2.2.1,((t20,z17.2.1,z17.2.2.1,(z17.2.2.2.1),z17.2.2.2.2).2.2.2.1),(t20,z17.2.1,z17.2.2.1,(z17.2.2.2.1),z17.2.2.2.2).2.2.2.2).2.2.2.1),((t20,z17.2.1,z17.2.2.1,(z17.2.2.2.1),z17.2.2.2.2).1,(t20,z17.2.1,z17.2.2.1,(z17.2.2.2.1),z17.2.2.2.2).2.1,(t20,z17.2.1,z17.2.2.1,(z17.2.2.2.1),z17.2.2.2.2).2.2.1,((t20,z17.2.1,z17.2.2.1,(z17.2.2.2.1),z17.2.2.2.2).2.2.2.1),(t20,z17.2.1,z17.2.2.1,(z17.2.2.2.1),z17.2.2.2.2).2.2.2.2).2.2.2.2))
   (some ((t20,z17.2.1,z17.2.2.1,(z17.2.2.2.1),z17.2.2.2.2).1,(t20,z17.2.1,z17.2.2.1,(z17.2.2.2.1),z17.2.2.2.2).2.1,(t20,z17.2.1,z17.2.2.1,(z17.2.2.2.1),z17.2.2.2.2).2.2.1,((t20,z17.2.1,z17.2.2.1,(z17.2.2.2.1),z17.2.2.2.2).2.2.2.1),(t20,z17.2.1,z17.2.2.1,(z17.2.2.2.1),z17.2.2.2.2).2.2.2.2))).bind fun z27=>
   some z27)
  (some (t20,z17.2.1,z17.2.2.1,(z17.2.2.2.1),z17.2.2.2.2))).bind fun z22=>
  some z22).bind fun z16=>
 (Fe (σ:=DJ) (0:Int) (((List.length s_0.2.2.1):Nat):Int) z16 fun i_z47 z47=>
  (idx s_0.2.2.1 i_z47).bind fun e651=>
  need ((IntKind.wrap .i64 ((IntKind.wrap .i64 (Int.tmod s_0.2.1 (4:Int))) +(1:Int))) ≠ 0) <|
  (idx s_0.2.2.1 i_z47).bind fun e661=>
  need ((IntKind.wrap .i64 ((IntKind.wrap .i64 (Int.tmod s_0.2.1 (4:Int))) +(1:Int))) ≠ 0) <|
  need (0≤(Int.tmod (IntKind.wrap .i64 e651) (IntKind.wrap .i64 ((IntKind.wrap .i64 (Int.tmod s_0.2.1 (4:Int))) +(1:Int))))∧(Int.tmod (IntKind.wrap .i64 e651) (IntKind.wrap .i64 ((IntKind.wrap .i64 (Int.tmod s_0.2.1 (4:Int))) +(1:Int)))) ≤(IntKind.wrap .i64 ((Int.tmod (IntKind.wrap .i64 e661) (IntKind.wrap .i64 ((IntKind.wrap .i64 (Int.tmod s_0.2.1 (4:Int))) +(1:Int)))) +(1:Int)))∧(IntKind.wrap .i64 ((Int.tmod (IntKind.wrap .i64 e661) (IntKind.wrap .i64 ((IntKind.wrap .i64 (Int.tmod s_0.2.1 (4:Int))) +(1:Int)))) +(1:Int))) ≤(ByteArray.size {data:= #[83,84,85,86] } :Nat)) <|
  (cond (decide (i_z47< (((List.length s_0.2.2.2.1):Nat):Int)))
  ((loop (σ:=(Int×Dn)) (β:=Dn) ((0:Int),((ByteArray.extract {data:= #[83,84,85,86] } (Int.toNat (Int.tmod (IntKind.wrap .i64 e651) (IntKind.wrap .i64 ((IntKind.wrap .i64 (Int.tmod s_0.2.1 (4:Int))) +(1:Int))))) (Int.toNat (IntKind.wrap .i64 ((Int.tmod (IntKind.wrap .i64 e661) (IntKind.wrap .i64 ((IntKind.wrap .i64 (Int.tmod s_0.2.1 (4:Int))) +(1:Int)))) +(1:Int))))),([] :List ByteArray),{data:= #[] },{data:= #[] })) fun z59=>
   (idx s_0.2.2.2.1 i_z47).bind fun e710=>
   cond (decide (z59.1< (((List.length e710):Nat):Int)))
   ((idx s_0.2.2.2.1 i_z47).bind fun e722=>
    (idx e722 z59.1).bind fun e734=>
    need ((IntKind.wrap .i64 ((IntKind.wrap .i64 ((IntKind.wrap .i64 (Int.tmod s_0.1 (5:Int))) +(1:Int))) +(IntKind.wrap .i64 ((IntKind.wrap .i64 (Int.tmod s_0.2.1 (4:Int))) +(1:Int))))) ≠ 0) <|
    need ((5:Int) ≠ 0) <|
    need ((5:Int) ≠ 0) <|
    need (0≤(Int.tmod (Int.tmod (IntKind.wrap .i64 e734) (IntKind.wrap .i64 ((IntKind.wrap .i64 ((IntKind.wrap .i64 (Int.tmod s_0.1 (5:Int))) +(1:Int))) +(IntKind.wrap .i64 ((IntKind.wrap .i64 (Int.tmod s_0.2.1 (4:Int))) +(1:Int)))))) (5:Int))∧(Int.tmod (Int.tmod (IntKind.wrap .i64 e734) (IntKind.wrap .i64 ((IntKind.wrap .i64 ((IntKind.wrap .i64 (Int.tmod s_0.1 (5:Int))) +(1:Int))) +(IntKind.wrap .i64 ((IntKind.wrap .i64 (Int.tmod s_0.2.1 (4:Int))) +(1:Int)))))) (5:Int)) ≤(IntKind.wrap .i64 ((Int.tmod (Int.tmod (IntKind.wrap .i64 e734) (IntKind.wrap .i64 ((IntKind.wrap .i64 ((IntKind.wrap .i64 (Int.tmod s_0.1 (5:Int))) +(1:Int))) +(IntKind.wrap .i64 ((IntKind.wrap .i64 (Int.tmod s_0.2.1 (4:Int))) +(1:Int)))))) (5:Int)) +(1:Int)))∧(IntKind.wrap .i64 ((Int.tmod (Int.tmod (IntKind.wrap .i64 e734) (IntKind.wrap .i64 ((IntKind.wrap .i64 ((IntKind.wrap .i64 (Int.tmod s_0.1 (5:Int))) +(1:Int))) +(IntKind.wrap .i64 ((IntKind.wrap .i64 (Int.tmod s_0.2.1 (4:Int))) +(1:Int)))))) (5:Int)) +(1:Int))) ≤(ByteArray.size {data:= #[97,98,99,100,101] } :Nat)) <|
    (cond (decide ((Int.tmod (IntKind.wrap .i64 e734) (IntKind.wrap .i64 ((IntKind.wrap .i64 ((IntKind.wrap .i64 (Int.tmod s_0.1 (5:Int))) +(1:Int))) +(IntKind.wrap .i64 ((IntKind.wrap .i64 (Int.tmod s_0.2.1 (4:Int))) +(1:Int)))))) ≥ (IntKind.wrap .i64 ((IntKind.wrap .i64 (Int.tmod s_0.1 (5:Int))) +(1:Int)))))
    (need (0≤(IntKind.wrap .i64 ((Int.tmod (IntKind.wrap .i64 e734) (IntKind.wrap .i64 ((IntKind.wrap .i64 ((IntKind.wrap .i64 (Int.tmod s_0.1 (5:Int))) +(1:Int))) +(IntKind.wrap .i64 ((IntKind.wrap .i64 (Int.tmod s_0.2.1 (4:Int))) +(1:Int)))))) - (IntKind.wrap .i64 ((IntKind.wrap .i64 (Int.tmod s_0.1 (5:Int))) +(1:Int)))))∧(IntKind.wrap .i64 ((Int.tmod (IntKind.wrap .i64 e734) (IntKind.wrap .i64 ((IntKind.wrap .i64 ((IntKind.wrap .i64 (Int.tmod s_0.1 (5:Int))) +(1:Int))) +(IntKind.wrap .i64 ((IntKind.wrap .i64 (Int.tmod s_0.2.1 (4:Int))) +(1:Int)))))) - (IntKind.wrap .i64 ((IntKind.wrap .i64 (Int.tmod s_0.1 (5:Int))) +(1:Int))))) ≤(IntKind.wrap .i64 ((IntKind.wrap .i64 ((Int.tmod (IntKind.wrap .i64 e734) (IntKind.wrap .i64 ((IntKind.wrap .i64 ((IntKind.wrap .i64 (Int.tmod s_0.1 (5:Int))) +(1:Int))) +(IntKind.wrap .i64 ((IntKind.wrap .i64 (Int.tmod s_0.2.1 (4:Int))) +(1:Int)))))) - (IntKind.wrap .i64 ((IntKind.wrap .i64 (Int.tmod s_0.1 (5:Int))) +(1:Int))))) +(1:Int)))∧(IntKind.wrap .i64 ((IntKind.wrap .i64 ((Int.tmod (IntKind.wrap .i64 e734) (IntKind.wrap .i64 ((IntKind.wrap .i64 ((IntKind.wrap .i64 (Int.tmod s_0.1 (5:Int))) +(1:Int))) +(IntKind.wrap .i64 ((IntKind.wrap .i64 (Int.tmod s_0.2.1 (4:Int))) +(1:Int)))))) - (IntKind.wrap .i64 ((IntKind.wrap .i64 (Int.tmod s_0.1 (5:Int))) +(1:Int))))) +(1:Int))) ≤(ByteArray.size {data:= #[83,84,85,86] } :Nat)) <|
     some (ByteArray.extract {data:= #[83,84,85,86] } (Int.toNat (IntKind.wrap .i64 ((Int.tmod (IntKind.wrap .i64 e734) (IntKind.wrap .i64 ((IntKind.wrap .i64 ((IntKind.wrap .i64 (Int.tmod s_0.1 (5:Int))) +(1:Int))) +(IntKind.wrap .i64 ((IntKind.wrap .i64 (Int.tmod s_0.2.1 (4:Int))) +(1:Int)))))) - (IntKind.wrap .i64 ((IntKind.wrap .i64 (Int.tmod s_0.1 (5:Int))) +(1:Int)))))) (Int.toNat (IntKind.wrap .i64 ((IntKind.wrap .i64 ((Int.tmod (IntKind.wrap .i64 e734) (IntKind.wrap .i64 ((IntKind.wrap .i64 ((IntKind.wrap .i64 (Int.tmod s_0.1 (5:Int))) +(1:Int))) +(IntKind.wrap .i64 ((IntKind.wrap .i64 (Int.tmod s_0.2.1 (4:Int))) +(1:Int)))))) - (IntKind.wrap .i64 ((IntKind.wrap .i64 (Int.tmod s_0.1 (5:Int))) +(1:Int))))) +(1:Int))))))
    (some (ByteArray.extract {data:= #[97,98,99,100,101] } (Int.toNat (Int.tmod (Int.tmod (IntKind.wrap .i64 e734) (IntKind.wrap .i64 ((IntKind.wrap .i64 ((IntKind.wrap .i64 (Int.tmod s_0.1 (5:Int))) +(1:Int))) +(IntKind.wrap .i64 ((IntKind.wrap .i64 (Int.tmod s_0.2.1 (4:Int))) +(1:Int)))))) (5:Int))) (Int.toNat (IntKind.wrap .i64 ((Int.tmod (Int.tmod (IntKind.wrap .i64 e734) (IntKind.wrap .i64 ((IntKind.wrap .i64 ((IntKind.wrap .i64 (Int.tmod s_0.1 (5:Int))) +(1:Int))) +(IntKind.wrap .i64 ((IntKind.wrap .i64 (Int.tmod s_0.2.1 (4:Int))) +(1:Int)))))) (5:Int)) +(1:Int))))))).bind fun z68=>
    (app z59.2.2.1 ([z68] :List ByteArray)).bind fun t71=>
    some (AR.next ((IntKind.wrap .i64 (z59.1+(1:Int))),((z59.2.1),t71,(z59.2.2.2.1),(z59.2.2.2.2)))))
   (some (AR.done z59.2))).bind fun z58=>
   some z58)
  (some ((ByteArray.extract {data:= #[83,84,85,86] } (Int.toNat (Int.tmod (IntKind.wrap .i64 e651) (IntKind.wrap .i64 ((IntKind.wrap .i64 (Int.tmod s_0.2.1 (4:Int))) +(1:Int))))) (Int.toNat (IntKind.wrap .i64 ((Int.tmod (IntKind.wrap .i64 e661) (IntKind.wrap .i64 ((IntKind.wrap .i64 (Int.tmod s_0.2.1 (4:Int))) +(1:Int)))) +(1:Int))))),([] :List ByteArray),{data:= #[] },{data:= #[] }))).bind fun z57=>
  (cond (decide (i_z47< (((List.length s_0.2.2.2.2.1):Nat):Int)))
  ((idx s_0.2.2.2.2.1 i_z47).bind fun e849=>
   need ((IntKind.wrap .i64 ((((List.length z47.2.2.1):Nat):Int) +(1:Int))) ≠ 0) <|
   (cond (decide ((Int.tmod (IntKind.wrap .i64 e849) (IntKind.wrap .i64 ((((List.length z47.2.2.1):Nat):Int) +(1:Int)))) >(0:Int)))
   (need (0≤(IntKind.wrap .i64 ((Int.tmod (IntKind.wrap .i64 e849) (IntKind.wrap .i64 ((((List.length z47.2.2.1):Nat):Int) +(1:Int)))) - (1:Int)))∧(IntKind.wrap .i64 ((Int.tmod (IntKind.wrap .i64 e849) (IntKind.wrap .i64 ((((List.length z47.2.2.1):Nat):Int) +(1:Int)))) - (1:Int))) ≤(Int.tmod (IntKind.wrap .i64 e849) (IntKind.wrap .i64 ((((List.length z47.2.2.1):Nat):Int) +(1:Int))))∧(Int.tmod (IntKind.wrap .i64 e849) (IntKind.wrap .i64 ((((List.length z47.2.2.1):Nat):Int) +(1:Int)))) ≤(ByteArray.size {data:= #[112,113,114,115,116] } :Nat)) <|
    some ((z57.1),z57.2.1,(ByteArray.extract {data:= #[112,113,114,115,116] } (Int.toNat (IntKind.wrap .i64 ((Int.tmod (IntKind.wrap .i64 e849) (IntKind.wrap .i64 ((((List.length z47.2.2.1):Nat):Int) +(1:Int)))) - (1:Int)))) (Int.toNat (Int.tmod (IntKind.wrap .i64 e849) (IntKind.wrap .i64 ((((List.length z47.2.2.1):Nat):Int) +(1:Int)))))),(z57.2.2.2)))
   (some z57)).bind fun z78=>
   some z78)
  (some z57)).bind fun z73=>
  (app z47.2.2.2.2 ([((z73.1),z73.2.1,(z73.2.2.1),(z73.2.2.2))] :List Dn)).bind fun t85=>
  some (z47.1,z47.2.1,z47.2.2.1,(z47.2.2.2.1),t85)).bind fun z46=>
 (Fe (σ:=DJ) (0:Int) (IntKind.wrap .i64 ((IntKind.wrap .i64 (Int.tmod s_0.2.1 (4:Int))) +(1:Int))) z46 fun i_z87 z87=>
  need (0≤i_z87∧i_z87≤(IntKind.wrap .i64 (i_z87+(1:Int)))∧(IntKind.wrap .i64 (i_z87+(1:Int))) ≤(ByteArray.size {data:= #[83,84,85,86] } :Nat)) <|
  (loop (σ:=(Int×Bool)) (β:=Bool) ((0:Int),false) fun z89=>
   cond (decide (z89.1< (((List.length z87.2.2.2.2):Nat):Int)))
   ((cond z89.2
    (some true)
    ((idx z87.2.2.2.2 z89.1).bind fun e1203=>
     some (ByteArray.toList e1203.1==ByteArray.toList (ByteArray.extract {data:= #[83,84,85,86] } (Int.toNat i_z87) (Int.toNat (IntKind.wrap .i64 (i_z87+(1:Int)))))))).bind fun z91=>
    some (AR.next ((IntKind.wrap .i64 (z89.1+(1:Int))),z91)))
   (some (AR.done z89.2))).bind fun z88=>
  (cond (!z88)
  ((app z87.2.2.2.2 ([((ByteArray.extract {data:= #[83,84,85,86] } (Int.toNat i_z87) (Int.toNat (IntKind.wrap .i64 (i_z87+(1:Int))))),([] :List ByteArray),{data:= #[] },{data:= #[] })] :List Dn)).bind fun t98=>
   some (z87.1,z87.2.1,z87.2.2.1,(z87.2.2.2.1),t98))
  (some z87)).bind fun z95=>
  some z95).bind fun z86=>
 some (z86.1,z86.2.1,z86.2.2.1,(z86.2.2.2.1),z86.2.2.2.2)
set_option maxHeartbeats 4000000 in
theorem Df {φ:AE} {h:AF} {F:List Chk} {s_0:Int×Int×(Option Addr×Nat×Nat)×(Option Addr×Nat×Nat)×(Option Addr×Nat×Nat)×(Option Addr×Nat×Nat)×(Option Addr×Nat×Nat)×Unit} {c6:List Int} {c7:List (List Int)} {c8:List Int} {c9:List Int} {ca:List Int} (cb:Ro.SliceIs (Ro.int .u8) φ s_0.2.2.1 c6) (cc:Ro.SliceIs (Ro.list (Ro.int .u8)) φ s_0.2.2.2.1 c7) (dw:Ro.SliceIs (Ro.int .u8) φ s_0.2.2.2.2.1 c8) (dx:Ro.SliceIs (Ro.int .u8) φ s_0.2.2.2.2.2.1 c9) (dy:Ro.SliceIs (Ro.int .u8) φ s_0.2.2.2.2.2.2.1 ca) (s0:St φ (F) h) {r:(List Gu×List HT×List FP×ByteArray×List Dn)} (hd:A6 (s_0.1,s_0.2.1,c6,c7,c8,c9,ca)=some r):
 CallsH Tryd.prog 25 [(.agg #[(.int .u8 s_0.1),(.int .u8 s_0.2.1),(.slice s_0.2.2.1.1 s_0.2.2.1.2.1 s_0.2.2.1.2.2),(.slice s_0.2.2.2.1.1 s_0.2.2.2.1.2.1 s_0.2.2.2.1.2.2),(.slice s_0.2.2.2.2.1.1 s_0.2.2.2.2.1.2.1 s_0.2.2.2.2.1.2.2),(.slice s_0.2.2.2.2.2.1.1 s_0.2.2.2.2.2.1.2.1 s_0.2.2.2.2.2.1.2.2),(.slice s_0.2.2.2.2.2.2.1.1 s_0.2.2.2.2.2.2.1.2.1 s_0.2.2.2.2.2.2.1.2.2)])] h (BO fun v h'=> ∃ψ:AE,∃y:(Option Addr×Nat×Nat)×(Option Addr×Nat×Nat)×(Option Addr×Nat×Nat)×ByteArray×(Option Addr×Nat×Nat)×Unit,∃dz:List Gu,∃e0:List HT,∃e1:List FP,∃e2:List Dn,Sub φ ψ∧v=((.one (.agg [.slice, .slice, .slice, .string, .slice])):Sh).val y∧(dz,e0,e1,y.2.2.2.1,e2)=r∧Ro.SliceIs Br ψ y.1 dz∧Ro.SliceIs B0 ψ y.2.1 e0∧Ro.SliceIs Bs ψ y.2.2.1 e1∧Ro.SliceIs Bq ψ y.2.2.2.2.1 e2∧St ψ (F) h'):=by
 refine Aa mixed Tryd.func25 ?_
 rw [De]
 unfold CU
 unfold A6 at hd
 have e3:s_0.2.2.1.2.1=List.length c6:=cb.length
 have hl:s_0.2.2.2.1.2.1=List.length c7:=cc.length
 have hm:s_0.2.2.2.2.1.2.1=List.length c8:=dw.length
 have e4:s_0.2.2.2.2.2.1.2.1=List.length c9:=dx.length
 have hn:s_0.2.2.2.2.2.2.1.2.1=List.length ca:=dy.length
 refine Ac (vs:= [.int .u8 s_0.1, .int .u8 s_0.2.1,sv s_0.2.2.1,sv s_0.2.2.2.1,sv s_0.2.2.2.2.1,sv s_0.2.2.2.2.2.1,sv s_0.2.2.2.2.2.2.1]) s0 fun r1 a76 ho=> ?_
 refine Ac (vs:= [.slice none 0 0, .slice none 0 0, .slice none 0 0, .string ({data:= #[] }), .slice none 0 0]) ho fun r2 a77 cd=> ?_
 refine AA (x:=s_0.1) cd.at1 rfl ?_
 refine CP hd id fun a78 hd=> ?_
 refine AA (x:=s_0.2.1) cd.at1 rfl ?_
 refine CP hd id fun a79 hd=> ?_
 refine Ac (vs:= [.slice none 0 0, .slice none 0 0, .slice none 0 0, .string ({data:= #[] }), .slice none 0 0]) cd fun r5 a80 hp=> ?_
 refine AJ hp rfl rfl fun a81 hq=> ?_
 refine AJ hq rfl rfl fun a82 hr=> ?_
 refine AJ hr rfl rfl fun a83 hs=> ?_
 refine AJ hs rfl rfl fun a84 ht=> ?_
 refine AJ ht rfl rfl fun a85 hu=> ?_
 have hv:=hu.nil 94 Br
 have hw:=hv.nil 97 Bs
 have hx:=hw.nil 90 Bq
 have hy:=St.unro (r:=Ro.str) (cs:= [.string ({data:= #[83] })]) (x:= {data:= #[83] }) hx rfl
 have hz:=St.unpair hy
 have i0:=hz.at1
 have i1:=St.unpair i0
 have i2:=St.unro (r:=(Ro.list B0)) (cs:= [.slice ((none,0,0):Slc).1 ((none,0,0):Slc).2.1 ((none,0,0):Slc).2.2]) (x:=([] :List HT)) i1 ⟨((none,0,0):Slc),rfl,(Ro.SliceIs.nil B0 φ)⟩
 have i3:=St.unpair i2
 have i4:=i3.at1
 have i5:=St.unpair i4
 have i6:St φ (cO 66 (Rep.prod (Rep.row 94 Br) (Rep.prod (Rep.ro (Ro.list B0)) (Rep.prod (Rep.row 97 Bs) (Rep.prod (Rep.ro Ro.str) (Rep.row 90 Bq))))) (some ⟨r5,0,none⟩) (([] :List Gu),([] :List HT),([] :List FP),{data:= #[83] },([] :List Dn))::cW 66 r2 [.slice none 0 0, .slice none 0 0, .slice none 0 0, .string ({data:= #[] }), .slice none 0 0] ::cW 25 r1 [.int .u8 s_0.1, .int .u8 s_0.2.1,sv s_0.2.2.1,sv s_0.2.2.2.1,sv s_0.2.2.2.2.1,sv s_0.2.2.2.2.2.1,sv s_0.2.2.2.2.2.2.1] ::F) _:=St.shut i5.at1
 have i7:=i6.at2
 have i8:=i7.at2
 have i9:=i8.at2
 obtain ⟨ia,ib,hd⟩:=bS hd
 refine Ad (fun (y:Int×Unit) w_ g=> ∃ψ:AE,∃e5:DJ,Sub φ ψ∧e5=g∧St ψ (cO 66 (Rep.prod (Rep.row 94 Br) (Rep.prod (Rep.ro (Ro.list B0)) (Rep.prod (Rep.row 97 Bs) (Rep.prod (Rep.ro Ro.str) (Rep.row 90 Bq))))) (some ⟨r5,0,none⟩) e5::cW 66 r2 [.slice none 0 0, .slice none 0 0, .slice none 0 0, .string ({data:= #[] }), .slice none 0 0] ::cW 25 r1 [.int .u8 s_0.1, .int .u8 s_0.2.1,sv s_0.2.2.1,sv s_0.2.2.2.1,sv s_0.2.2.2.2.1,sv s_0.2.2.2.2.2.1,sv s_0.2.2.2.2.2.2.1] ::F) w_) (g:=ia) ?_ ?_
 ·refine D4 ib (fun ic (y:Int×Unit) w_ g=> ∃ψ:AE,∃e6:DJ,Sub φ ψ∧y.1=ic∧e6=g∧St ψ (cO 66 (Rep.prod (Rep.row 94 Br) (Rep.prod (Rep.ro (Ro.list B0)) (Rep.prod (Rep.row 97 Bs) (Rep.prod (Rep.ro Ro.str) (Rep.row 90 Bq))))) (some ⟨r5,0,none⟩) e6::cW 66 r2 [.slice none 0 0, .slice none 0 0, .slice none 0 0, .string ({data:= #[] }), .slice none 0 0] ::cW 25 r1 [.int .u8 s_0.1, .int .u8 s_0.2.1,sv s_0.2.2.1,sv s_0.2.2.2.1,sv s_0.2.2.2.2.1,sv s_0.2.2.2.2.2.1,sv s_0.2.2.2.2.2.2.1] ::F) w_) ((0:Int),()) rfl ⟨φ,(([] :List Gu),([] :List HT),([] :List FP),{data:= #[83] },([] :List Dn)),(Sub.refl _),rfl,rfl,i9⟩ ?_ ?_
  ·rintro _ z7 a86 _ _ ⟨ie,q,e7,rfl,rfl,e8⟩ a2 ig e9 ea
   try dsimp only at a2 ig e9 ea
   refine AA (x:=s_0.2.2.2.2.2.1) e8.at2 rfl ?_
   refine Az (by rw [e4]; exact decide_eq_true e9) ?_
   obtain ⟨ih,a87,eb,a88,ii⟩:=e8.open
   obtain rfl:r5=ih:=by simpa using eb
   clear eb
   have ij:=ii.at1
   obtain ⟨a89,a90,rfl,a91,ce⟩:=ij.pair
   obtain ⟨ec,ik⟩:=ce.rowCs
   subst ik
   have a92:=ce.rowLen
   have il:=ce.at1
   obtain ⟨a93,a94,rfl,a95,im⟩:=il.pair
   obtain ⟨io,ip⟩:=im.ro
   obtain ⟨b3,iq,ed⟩:=io
   subst iq
   have a96:=ed.length
   obtain ⟨a97,a98,rfl,a99,cf⟩:=ip.pair
   obtain ⟨cg,ir⟩:=cf.rowCs
   subst ir
   have aa0:=cf.rowLen
   have it:=cf.at1
   obtain ⟨aa1,aa2,rfl,aa3,iu⟩:=it.pair
   obtain ⟨iv,ch⟩:=iu.ro
   subst iv
   obtain ⟨ee,iw⟩:=ch.rowCs
   subst iw
   have aa4:=ch.rowLen
   have bg:St ie (cR 90 Bq ee q.2.2.2.2::cR 97 Bs cg q.2.2.1::cR 94 Br ec q.1::cW 66 r5 [sv ec,sv b3,sv cg, .string (q.2.2.2.1),sv ee] ::cW 66 r2 [.slice none 0 0, .slice none 0 0, .slice none 0 0, .string ({data:= #[] }), .slice none 0 0] ::cW 25 r1 [.int .u8 s_0.1, .int .u8 s_0.2.1,sv s_0.2.2.1,sv s_0.2.2.2.1,sv s_0.2.2.2.2.1,sv s_0.2.2.2.2.2.1,sv s_0.2.2.2.2.2.2.1] ::F) _:=ch
   refine AA (x:=cg) bg.at3 rfl ?_
   refine AA (x:=s_0.2.2.2.2.2.1) bg.at5 rfl ?_
   obtain ⟨ci,ix,a2⟩:=bS a2
   obtain ⟨aa5,aa6,iy,iz,j0,ef⟩:=(dx.mono e7).get ix
   refine AG _ iy (AZ iz ?_)
   obtain rfl:=j0
   refine AL (x:=ci) (AB (Sub.trans (Sub.refl _) bg.sub) (ef 0 _ rfl)) rfl ?_
   refine CP a2 id fun aa7 a2=> ?_
   refine CP a2 id fun aa8 a2=> ?_
   refine Gs bg fun r13 aa9 ab0 bh=> ?_
   refine Ab (AB (Sub.trans (Sub.refl _) bh.sub) (ef 0 _ rfl)) ?_
   refine Ab (St.cell (b:=r1) (j:=5) bh.at6 rfl) ?_
   refine Ab (St.cell (b:=r5) (j:=2) bh.at4 rfl) ?_
   refine Ac (vs:= [.int .i64 (IntKind.wrap .i64 ((IntKind.wrap .i64 (Int.tmod ci (3:Int))) +(1:Int))), .slice (some ⟨r13,0,none⟩) 1 1]) bh fun r14 ab1 eg=> ?_
   refine Ab (St.cell (b:=r5) (j:=2) eg.at5 rfl) ?_
   have j1:=St.lit (r:=Ro.str) (l:=([(ByteArray.extract {data:= #[112,113,114,115,116] } (Int.toNat z7.1) (Int.toNat (IntKind.wrap .i64 (z7.1+(1:Int)))))] :List ByteArray)) (n:=1) eg.at1 (.cons (a:= [_]) rfl .nil) rfl (by decide)
   obtain ⟨eh,ei,j2,ej⟩:=St.freezeRow (t:=((some ⟨r13,0,none⟩,1,1):Slc)) j1
   have j3:=St.cells ej
   have j4:=ej.tail
   have j5:=j4.at1
   obtain ⟨ek,j6,a2⟩:=bS a2
   refine Aq (r:=Bs) (ms:=([((IntKind.wrap .i64 ((IntKind.wrap .i64 (Int.tmod ci (3:Int))) +(1:Int))),([(ByteArray.extract {data:= #[112,113,114,115,116] } (Int.toNat z7.1) (Int.toNat (IntKind.wrap .i64 (z7.1+(1:Int)))))] :List ByteArray))] :List FP)) KR j5 rfl j3 (.cons (a:= [_,_]) ⟨[_],_,rfl,rfl,⟨((some ⟨r13,0,none⟩,1,1):Slc),rfl,j2⟩⟩ .nil) rfl j6 ?_
   intro t15 ab2 el
   have ab3:=el.rowLen
   refine AJ el.at3 rfl rfl fun ab4 j7=> ?_
   have j8:=j7.at3
   have j9:=j8.at2
   have ja:=j9.at3
   have jb:=St.unro (r:=Ro.str) (cs:= [.string (q.2.2.2.1)]) (x:=(q.2.2.2.1)) ja rfl
   have jc:=St.unpair jb
   have jd:=jc.at1
   have je:=St.unpair jd
   have jf:=St.unro (r:=(Ro.list B0)) (cs:= [.slice b3.1 b3.2.1 b3.2.2]) (x:=q.2.1) je ⟨b3,rfl,(ed.mono ei)⟩
   have jg:=St.unpair jf
   have jh:=jg.at1
   have ji:=St.unpair jh
   have jj:St eh (cO 66 (Rep.prod (Rep.row 94 Br) (Rep.prod (Rep.ro (Ro.list B0)) (Rep.prod (Rep.row 97 Bs) (Rep.prod (Rep.ro Ro.str) (Rep.row 90 Bq))))) (some ⟨r5,0,none⟩) (q.1,q.2.1,ek,(q.2.2.2.1),q.2.2.2.2)::cW 66 r2 [.slice none 0 0, .slice none 0 0, .slice none 0 0, .string ({data:= #[] }), .slice none 0 0] ::cW 25 r1 [.int .u8 s_0.1, .int .u8 s_0.2.1,sv s_0.2.2.1,sv s_0.2.2.2.1,sv s_0.2.2.2.2.1,sv s_0.2.2.2.2.2.1,sv s_0.2.2.2.2.2.2.1] ::F) _:=St.shut ji.at1
   have jk:=jj.at2
   have jl:=jk.at2
   have jm:=jl.at2
   obtain rfl:=iS a2
   exact Ar ((IntKind.wrap .i64 (z7.1+(1:Int))),()) _ rfl rfl ⟨eh,(q.1,q.2.1,ek,(q.2.2.2.1),q.2.2.2.2),(e7.trans ei),ea,rfl,jm⟩
  ·rintro _ z7 ab5 ⟨jn,jo,jp,rfl,rfl,em⟩ jq
   refine AA (x:=s_0.2.2.2.2.2.1) em.at2 rfl ?_
   refine Al (by rw [e4]; exact decide_eq_false (Int.not_lt.2 jq)) ?_
   have jr:=em.at2
   have js:=jr.at2
   have jt:=js.at2
   exact AO (AS (z7.1,()) rfl ⟨jn,jo,jp,rfl,jt⟩)
 rintro z6 ab6 ⟨cj,ju,ag,rfl,jv⟩
 try dsimp only at hd
 have jw:=jv.at2
 have jx:=jw.at2
 have jy:=jx.at2
 obtain ⟨jz,k0,hd⟩:=bS hd
 refine Ad (fun (y:Int×Unit) w_ g=> ∃ψ:AE,∃en:DJ,Sub cj ψ∧en=g∧St ψ (cO 66 (Rep.prod (Rep.row 94 Br) (Rep.prod (Rep.ro (Ro.list B0)) (Rep.prod (Rep.row 97 Bs) (Rep.prod (Rep.ro Ro.str) (Rep.row 90 Bq))))) (some ⟨r5,0,none⟩) en::cW 66 r2 [.slice none 0 0, .slice none 0 0, .slice none 0 0, .string ({data:= #[] }), .slice none 0 0] ::cW 25 r1 [.int .u8 s_0.1, .int .u8 s_0.2.1,sv s_0.2.2.1,sv s_0.2.2.2.1,sv s_0.2.2.2.2.1,sv s_0.2.2.2.2.2.1,sv s_0.2.2.2.2.2.2.1] ::F) w_) (g:=jz) ?_ ?_
 ·refine D4 k0 (fun k1 (y:Int×Unit) w_ g=> ∃ψ:AE,∃eo:DJ,Sub cj ψ∧y.1=k1∧eo=g∧St ψ (cO 66 (Rep.prod (Rep.row 94 Br) (Rep.prod (Rep.ro (Ro.list B0)) (Rep.prod (Rep.row 97 Bs) (Rep.prod (Rep.ro Ro.str) (Rep.row 90 Bq))))) (some ⟨r5,0,none⟩) eo::cW 66 r2 [.slice none 0 0, .slice none 0 0, .slice none 0 0, .string ({data:= #[] }), .slice none 0 0] ::cW 25 r1 [.int .u8 s_0.1, .int .u8 s_0.2.1,sv s_0.2.2.1,sv s_0.2.2.2.1,sv s_0.2.2.2.2.1,sv s_0.2.2.2.2.2.1,sv s_0.2.2.2.2.2.2.1] ::F) w_) ((0:Int),()) rfl ⟨cj,ju,(Sub.refl _),rfl,rfl,jy⟩ ?_ ?_
  ·rintro _ z17 ab7 _ _ ⟨a5,c,ep,rfl,rfl,k2⟩ a6 k3 er es
   try dsimp only at a6 k3 er es
   refine Az (by exact decide_eq_true er) ?_
   refine CP a6 id fun ab8 a6=> ?_
   obtain ⟨k4,ab9,eu,ac0,k5⟩:=k2.open
   obtain rfl:r5=k4:=by simpa using eu
   clear eu
   have k6:=k5.at1
   obtain ⟨ac1,ac2,rfl,ac3,ck⟩:=k6.pair
   obtain ⟨cl,k7⟩:=ck.rowCs
   subst k7
   have ac4:=ck.rowLen
   have k8:=ck.at1
   obtain ⟨ac5,ac6,rfl,ac7,k9⟩:=k8.pair
   obtain ⟨ka,kb⟩:=k9.ro
   obtain ⟨b4,kc,ev⟩:=ka
   subst kc
   have ac8:=ev.length
   obtain ⟨ac9,ad0,rfl,ad1,cm⟩:=kb.pair
   obtain ⟨ew,kd⟩:=cm.rowCs
   subst kd
   have ad2:=cm.rowLen
   have ke:=cm.at1
   obtain ⟨ad3,ad4,rfl,ad5,kf⟩:=ke.pair
   obtain ⟨kg,cn⟩:=kf.ro
   subst kg
   obtain ⟨ex,kh⟩:=cn.rowCs
   subst kh
   have ad6:=cn.rowLen
   have ey:St a5 (cR 90 Bq ex c.2.2.2.2::cR 97 Bs ew c.2.2.1::cR 94 Br cl c.1::cW 66 r5 [sv cl,sv b4,sv ew, .string (c.2.2.2.1),sv ex] ::cW 66 r2 [.slice none 0 0, .slice none 0 0, .slice none 0 0, .string ({data:= #[] }), .slice none 0 0] ::cW 25 r1 [.int .u8 s_0.1, .int .u8 s_0.2.1,sv s_0.2.2.1,sv s_0.2.2.2.1,sv s_0.2.2.2.2.1,sv s_0.2.2.2.2.2.1,sv s_0.2.2.2.2.2.2.1] ::F) _:=cn
   refine AA (x:=cl) ey.at3 rfl ?_
   refine Ac (vs:= [.string (ByteArray.extract {data:= #[97,98,99,100,101] } (Int.toNat z17.1) (Int.toNat (IntKind.wrap .i64 (z17.1+(1:Int))))), .string (ByteArray.extract {data:= #[97,98,99,100,101] } (Int.toNat z17.1) (Int.toNat (IntKind.wrap .i64 (z17.1+(1:Int))))), .string ({data:= #[] }), .bool false]) ey fun r19 ad7 ez=> ?_
   have ki:=St.cells ez
   have kj:=ez.tail
   have kk:=kj.at2
   obtain ⟨u,kl,a6⟩:=bS a6
   refine Aq (r:=Br) (ms:=([((ByteArray.extract {data:= #[97,98,99,100,101] } (Int.toNat z17.1) (Int.toNat (IntKind.wrap .i64 (z17.1+(1:Int))))),(ByteArray.extract {data:= #[97,98,99,100,101] } (Int.toNat z17.1) (Int.toNat (IntKind.wrap .i64 (z17.1+(1:Int))))),{data:= #[] },false)] :List Gu)) KQ kk rfl ki (.cons (a:= [_,_,_,_]) ⟨[_],_,rfl,rfl,⟨[_],_,rfl,rfl,⟨[_],_,rfl,rfl,rfl⟩⟩⟩ .nil) rfl kl ?_
   intro t20 ad8 f0
   have ad9:=f0.rowLen
   refine AJ f0.at3 rfl rfl fun ae0 f1=> ?_
   refine AA (x:=s_0.2.2.2.2.2.2.1) f1.at5 rfl ?_
   have km:=f1.at1
   have kn:=km.at3
   have ko:=kn.at3
   have kp:=St.unro (r:=Ro.str) (cs:= [.string (c.2.2.2.1)]) (x:=(c.2.2.2.1)) ko rfl
   have kq:=St.unpair kp
   have kr:=kq.at1
   have ks:=St.unpair kr
   have kt:=St.unro (r:=(Ro.list B0)) (cs:= [.slice b4.1 b4.2.1 b4.2.2]) (x:=c.2.1) ks ⟨b4,rfl,ev⟩
   have ku:=St.unpair kt
   have kv:=ku.at1
   have kw:=St.unpair kv
   have bi:St a5 (cO 66 (Rep.prod (Rep.row 94 Br) (Rep.prod (Rep.ro (Ro.list B0)) (Rep.prod (Rep.row 97 Bs) (Rep.prod (Rep.ro Ro.str) (Rep.row 90 Bq))))) (some ⟨r5,0,none⟩) (u,c.2.1,c.2.2.1,(c.2.2.2.1),c.2.2.2.2)::cW 66 r2 [.slice none 0 0, .slice none 0 0, .slice none 0 0, .string ({data:= #[] }), .slice none 0 0] ::cW 25 r1 [.int .u8 s_0.1, .int .u8 s_0.2.1,sv s_0.2.2.1,sv s_0.2.2.2.1,sv s_0.2.2.2.2.1,sv s_0.2.2.2.2.2.1,sv s_0.2.2.2.2.2.2.1] ::F) _:=St.shut kw.at1
   obtain ⟨kx,w,a6⟩:=bS a6
   refine Ak (fun (y:Unit) w_ g=> ∃ψ:AE,∃f2:DJ,Sub a5 ψ∧f2=g∧St ψ (cO 66 (Rep.prod (Rep.row 94 Br) (Rep.prod (Rep.ro (Ro.list B0)) (Rep.prod (Rep.row 97 Bs) (Rep.prod (Rep.ro Ro.str) (Rep.row 90 Bq))))) (some ⟨r5,0,none⟩) f2::cW 66 r2 [.slice none 0 0, .slice none 0 0, .slice none 0 0, .string ({data:= #[] }), .slice none 0 0] ::cW 25 r1 [.int .u8 s_0.1, .int .u8 s_0.2.1,sv s_0.2.2.1,sv s_0.2.2.2.1,sv s_0.2.2.2.2.1,sv s_0.2.2.2.2.2.1,sv s_0.2.2.2.2.2.2.1] ::F) w_) (g:=kx) ?_ ?_
   ·refine AH w (by rw [hn] <;>rfl) (fun _ w=> ?_) (fun _ w=> ?_)
    ·refine AA (x:=s_0.2.2.2.2.2.2.1) bi.at2 rfl ?_
     obtain ⟨ky,kz,w⟩:=bS w
     obtain ⟨ae1,ae2,l0,l1,l2,l3⟩:=(dy.mono (ag.trans ep)).get kz
     refine AG _ l0 (AZ l1 ?_)
     obtain rfl:=l2
     refine AL (x:=ky) (AB (Sub.trans (Sub.refl _) bi.sub) (l3 0 _ rfl)) rfl ?_
     obtain ⟨l4,ae3,f3,ae4,l5⟩:=bi.open
     obtain rfl:r5=l4:=by simpa using f3
     clear f3
     have l6:=l5.at1
     obtain ⟨ae5,ae6,rfl,ae7,co⟩:=l6.pair
     obtain ⟨f4,l7⟩:=co.rowCs
     subst l7
     have ae8:=co.rowLen
     have l8:=co.at1
     obtain ⟨ae9,af0,rfl,af1,l9⟩:=l8.pair
     obtain ⟨la,lb⟩:=l9.ro
     obtain ⟨b5,lc,f5⟩:=la
     subst lc
     have af2:=f5.length
     obtain ⟨af3,af4,rfl,af5,cp⟩:=lb.pair
     obtain ⟨cq,ld⟩:=cp.rowCs
     subst ld
     have a7:=cp.rowLen
     have le:=cp.at1
     obtain ⟨af6,af7,rfl,af8,lf⟩:=le.pair
     obtain ⟨lg,cr⟩:=lf.ro
     subst lg
     obtain ⟨f6,lh⟩:=cr.rowCs
     subst lh
     have af9:=cr.rowLen
     have f7:St a5 (cR 90 Bq f6 c.2.2.2.2::cR 97 Bs cq c.2.2.1::cR 94 Br f4 u::cW 66 r5 [sv f4,sv b5,sv cq, .string ((c.2.2.2.1)),sv f6] ::cW 66 r2 [.slice none 0 0, .slice none 0 0, .slice none 0 0, .string ({data:= #[] }), .slice none 0 0] ::cW 25 r1 [.int .u8 s_0.1, .int .u8 s_0.2.1,sv s_0.2.2.1,sv s_0.2.2.2.1,sv s_0.2.2.2.2.1,sv s_0.2.2.2.2.2.1,sv s_0.2.2.2.2.2.2.1] ::F) _:=cr
     refine AA (x:=cq) f7.at3 rfl ?_
     refine CP w (by rw [a7]; exact id) fun ag0 w=> ?_
     have li:=f7.at2
     have lj:=li.at2
     have lk:=lj.at2
     have ll:=St.unro (r:=Ro.str) (cs:= [.string ((c.2.2.2.1))]) (x:=((c.2.2.2.1))) lk rfl
     have lm:=St.unpair ll
     have ln:=lm.at1
     have lo:=St.unpair ln
     have lp:=St.unro (r:=(Ro.list B0)) (cs:= [.slice b5.1 b5.2.1 b5.2.2]) (x:=c.2.1) lo ⟨b5,rfl,f5⟩
     have lq:=St.unpair lp
     have lr:=lq.at1
     have ls:=St.unpair lr
     have f8:St a5 (cO 66 (Rep.prod (Rep.row 94 Br) (Rep.prod (Rep.ro (Ro.list B0)) (Rep.prod (Rep.row 97 Bs) (Rep.prod (Rep.ro Ro.str) (Rep.row 90 Bq))))) (some ⟨r5,0,none⟩) (u,c.2.1,c.2.2.1,((c.2.2.2.1)),c.2.2.2.2)::cW 66 r2 [.slice none 0 0, .slice none 0 0, .slice none 0 0, .string ({data:= #[] }), .slice none 0 0] ::cW 25 r1 [.int .u8 s_0.1, .int .u8 s_0.2.1,sv s_0.2.2.1,sv s_0.2.2.2.1,sv s_0.2.2.2.2.1,sv s_0.2.2.2.2.2.1,sv s_0.2.2.2.2.2.2.1] ::F) _:=St.shut ls.at1
     obtain ⟨lt,f,w⟩:=bS w
     refine Ak (fun (y:Unit) w_ g=> ∃ψ:AE,∃f9:DJ,Sub a5 ψ∧f9=g∧St ψ (cO 66 (Rep.prod (Rep.row 94 Br) (Rep.prod (Rep.ro (Ro.list B0)) (Rep.prod (Rep.row 97 Bs) (Rep.prod (Rep.ro Ro.str) (Rep.row 90 Bq))))) (some ⟨r5,0,none⟩) f9::cW 66 r2 [.slice none 0 0, .slice none 0 0, .slice none 0 0, .string ({data:= #[] }), .slice none 0 0] ::cW 25 r1 [.int .u8 s_0.1, .int .u8 s_0.2.1,sv s_0.2.2.1,sv s_0.2.2.2.1,sv s_0.2.2.2.2.1,sv s_0.2.2.2.2.2.1,sv s_0.2.2.2.2.2.2.1] ::F) w_) (g:=lt) ?_ ?_
     ·refine AH f (by rw [a7] <;>rfl) (fun _ f=> ?_) (fun _ f=> ?_)
      ·obtain ⟨lu,ag1,fa,ag2,lv⟩:=f8.open
       obtain rfl:r5=lu:=by simpa using fa
       clear fa
       have lw:=lv.at1
       obtain ⟨ag3,ag4,rfl,ag5,ct⟩:=lw.pair
       obtain ⟨fb,lx⟩:=ct.rowCs
       subst lx
       have ag6:=ct.rowLen
       have ly:=ct.at1
       obtain ⟨ag7,ag8,rfl,ag9,lz⟩:=ly.pair
       obtain ⟨m0,m1⟩:=lz.ro
       obtain ⟨s,m2,bj⟩:=m0
       subst m2
       have ah0:=bj.length
       obtain ⟨ah1,ah2,rfl,ah3,cu⟩:=m1.pair
       obtain ⟨bk,m3⟩:=cu.rowCs
       subst m3
       have ah4:=cu.rowLen
       have m4:=cu.at1
       obtain ⟨ah5,ah6,rfl,ah7,m5⟩:=m4.pair
       obtain ⟨m6,cv⟩:=m5.ro
       subst m6
       obtain ⟨fc,m7⟩:=cv.rowCs
       subst m7
       have ah8:=cv.rowLen
       have b6:St a5 (cR 90 Bq fc c.2.2.2.2::cR 97 Bs bk c.2.2.1::cR 94 Br fb u::cW 66 r5 [sv fb,sv s,sv bk, .string (((c.2.2.2.1))),sv fc] ::cW 66 r2 [.slice none 0 0, .slice none 0 0, .slice none 0 0, .string ({data:= #[] }), .slice none 0 0] ::cW 25 r1 [.int .u8 s_0.1, .int .u8 s_0.2.1,sv s_0.2.2.1,sv s_0.2.2.2.1,sv s_0.2.2.2.2.1,sv s_0.2.2.2.2.2.1,sv s_0.2.2.2.2.2.2.1] ::F) _:=cv
       refine AA (x:=bk) b6.at3 rfl ?_
       refine AA (x:=bk) b6.at3 rfl ?_
       obtain ⟨cw,fd,f⟩:=bS f
       rw [← a7] at fd
       obtain ⟨ah9,ai0,m8,m9,ma,b7⟩:=(b6.at1).get fd
       refine AG _ m8 (AZ m9 ?_)
       obtain ⟨_,_,rfl,mb,mc⟩:=ma
       obtain rfl:=mb
       obtain ⟨md,rfl,bl⟩:=mc
       have cx:=bl.length
       refine AL (x:=md) (by rw [AV]; exact (b7 1 _ rfl)) rfl ?_
       refine Ls ?_ ?_
       ·refine Gs b6 fun r32 ai1 fe b8=> ?_
        refine Ab (by rw [AV]; exact (fe _ _ (b7 1 _ rfl))) ?_
        refine Ab (St.cell (b:=r5) (j:=2) b8.at4 rfl) ?_
        refine Ab (St.cell (b:=r5) (j:=2) b8.at4 rfl) ?_
        refine Ls ?_ ?_
        ·obtain ⟨ai2,me,mf⟩:=bl.heap b8.sub
         have mg:=St.lit (r:=Ro.str) (l:=([] :List ByteArray)) (n:=0) b8 .nil rfl (by decide)
         obtain ⟨ai3,mh,f⟩:=bS f
         refine Aq (r:=Ro.str) (ms:=cw.2) By mg rfl mf me cx.symm mh ?_
         intro t33 ai4 cy
         have ai5:=cy.rowLen
         refine Ab (St.cell (b:=r5) (j:=2) cy.at4 rfl) ?_
         refine Ac (vs:= [.string (ByteArray.extract {data:= #[97,98,99,100,101] } (Int.toNat z17.1) (Int.toNat (IntKind.wrap .i64 (z17.1+(1:Int)))))]) cy fun r34 ai6 cz=> ?_
         refine Ab (St.cell (b:=r5) (j:=2) cz.at5 rfl) ?_
         have mi:=St.cells cz
         have mj:=cz.tail
         obtain ⟨ai7,mk,f⟩:=bS f
         refine Aq (r:=Ro.str) (ms:=([(ByteArray.extract {data:= #[97,98,99,100,101] } (Int.toNat z17.1) (Int.toNat (IntKind.wrap .i64 (z17.1+(1:Int)))))] :List ByteArray)) By mj rfl mi (.cons (a:= [_]) rfl .nil) rfl mk ?_
         intro t35 ai8 bm
         have ai9:=bm.rowLen
         refine Ab (St.cell (b:=r5) (j:=2) bm.at4 rfl) ?_
         obtain ⟨aj0,d0,f⟩:=bS f
         rw [← a7] at d0
         obtain ⟨aj1,aj2,ff,ml,mm,aj3⟩:=(bm.at2).get d0
         refine AG _ ff (AZ ml ?_)
         obtain ⟨_,_,rfl,mn,mo⟩:=mm
         obtain rfl:=mn
         obtain ⟨aj4,rfl,mp⟩:=mo
         have aj5:=mp.length
         obtain ⟨fg,fh,mq,mr⟩:=St.freezeRow (t:=t35) bm
         obtain ⟨fi,fj,f⟩:=bS f
         rw [← a7] at fj
         refine JD (j:=1) mr.at1 d0 fj (by rintro _ ⟨_,_,rfl,rfl,⟨t1,rfl,q1⟩⟩; exact ⟨[_],_,rfl,rfl,⟨t35,rfl,mq⟩⟩) rfl rfl ff (by rw [AV]; rfl) fun aj6 bn=> ?_
         have aj7:=bn.rowLen
         have aj8:=bn.rowLen
         have aj9:=bn.rowLen
         have mu:=bn.at2
         have mv:=mu.at1
         have mw:=mv.at2
         have mx:=St.unro (r:=Ro.str) (cs:= [.string (((c.2.2.2.1)))]) (x:=(((c.2.2.2.1)))) mw rfl
         have my:=St.unpair mx
         have mz:=my.at1
         have n0:=St.unpair mz
         have n1:=St.unro (r:=(Ro.list B0)) (cs:= [.slice s.1 s.2.1 s.2.2]) (x:=c.2.1) n0 ⟨s,rfl,(bj.mono fh)⟩
         have n2:=St.unpair n1
         have n3:=n2.at1
         have n4:=St.unpair n3
         have n5:St fg (cO 66 (Rep.prod (Rep.row 94 Br) (Rep.prod (Rep.ro (Ro.list B0)) (Rep.prod (Rep.row 97 Bs) (Rep.prod (Rep.ro Ro.str) (Rep.row 90 Bq))))) (some ⟨r5,0,none⟩) (u,c.2.1,fi,(((c.2.2.2.1))),c.2.2.2.2)::cW 66 r2 [.slice none 0 0, .slice none 0 0, .slice none 0 0, .string ({data:= #[] }), .slice none 0 0] ::cW 25 r1 [.int .u8 s_0.1, .int .u8 s_0.2.1,sv s_0.2.2.1,sv s_0.2.2.2.1,sv s_0.2.2.2.2.1,sv s_0.2.2.2.2.2.1,sv s_0.2.2.2.2.2.2.1] ::F) _:=St.shut n4.at1
         have n6:=n5.at2
         have n7:=n6.at2
         have n8:=n7.at2
         obtain rfl:=iS f
         exact AN (()) rfl ⟨fg,(u,c.2.1,fi,(((c.2.2.2.1))),c.2.2.2.2),fh,rfl,n8⟩
        ·refine Gs b8 fun r37 ak0 n9 bo=> ?_
         refine Ab (by rw [AV]; exact (n9 _ _ (fe _ _ (b7 1 _ rfl)))) ?_
         refine Ab (St.cell (b:=r5) (j:=2) bo.at5 rfl) ?_
         refine Ab (St.cell (b:=r5) (j:=2) bo.at5 rfl) ?_
         obtain ⟨ak1,na,nb⟩:=bl.heap bo.sub
         have nc:=St.lit (r:=Ro.str) (l:=([] :List ByteArray)) (n:=0) bo.at1 .nil rfl (by decide)
         obtain ⟨ak2,nd,f⟩:=bS f
         refine Aq (r:=Ro.str) (ms:=cw.2) By nc rfl nb na cx.symm nd ?_
         intro t38 ak3 bp
         have ak4:=bp.rowLen
         refine Ab (St.cell (b:=r5) (j:=2) bp.at5 rfl) ?_
         have nf:=St.cells bp.at1
         have ng:=bp.at1.tail
         obtain ⟨ak5,nh,f⟩:=bS f
         refine Aq (r:=Ro.str) (ms:=([(ByteArray.extract {data:= #[97,98,99,100,101] } (Int.toNat z17.1) (Int.toNat (IntKind.wrap .i64 (z17.1+(1:Int)))))] :List ByteArray)) By ng rfl nf (.cons (a:= [_]) rfl .nil) rfl nh ?_
         intro t39 ak6 bq
         have ak7:=bq.rowLen
         refine Ab (St.cell (b:=r5) (j:=2) bq.at4 rfl) ?_
         obtain ⟨ak8,d1,f⟩:=bS f
         rw [← a7] at d1
         obtain ⟨ak9,al0,fk,ni,nj,al1⟩:=(bq.at2).get d1
         refine AG _ fk (AZ ni ?_)
         obtain ⟨_,_,rfl,nk,nl⟩:=nj
         obtain rfl:=nk
         obtain ⟨al2,rfl,nm⟩:=nl
         have al3:=nm.length
         obtain ⟨fl,fm,nn,np⟩:=St.freezeRow (t:=t39) bq
         obtain ⟨fn,fo,f⟩:=bS f
         rw [← a7] at fo
         refine JD (j:=1) np.at1 d1 fo (by rintro _ ⟨_,_,rfl,rfl,⟨t1,rfl,q1⟩⟩; exact ⟨[_],_,rfl,rfl,⟨t39,rfl,nn⟩⟩) rfl rfl fk (by rw [AV]; rfl) fun al4 br=> ?_
         have al5:=br.rowLen
         have al6:=br.rowLen
         have al7:=br.rowLen
         have nq:=br.at2
         have nr:=nq.at1
         have ns:=nr.at2
         have nt:=St.unro (r:=Ro.str) (cs:= [.string (((c.2.2.2.1)))]) (x:=(((c.2.2.2.1)))) ns rfl
         have nu:=St.unpair nt
         have nv:=nu.at1
         have nw:=St.unpair nv
         have nx:=St.unro (r:=(Ro.list B0)) (cs:= [.slice s.1 s.2.1 s.2.2]) (x:=c.2.1) nw ⟨s,rfl,(bj.mono fm)⟩
         have ny:=St.unpair nx
         have nz:=ny.at1
         have o0:=St.unpair nz
         have o1:St fl (cO 66 (Rep.prod (Rep.row 94 Br) (Rep.prod (Rep.ro (Ro.list B0)) (Rep.prod (Rep.row 97 Bs) (Rep.prod (Rep.ro Ro.str) (Rep.row 90 Bq))))) (some ⟨r5,0,none⟩) (u,c.2.1,fn,(((c.2.2.2.1))),c.2.2.2.2)::cW 66 r2 [.slice none 0 0, .slice none 0 0, .slice none 0 0, .string ({data:= #[] }), .slice none 0 0] ::cW 25 r1 [.int .u8 s_0.1, .int .u8 s_0.2.1,sv s_0.2.2.1,sv s_0.2.2.2.1,sv s_0.2.2.2.2.1,sv s_0.2.2.2.2.2.1,sv s_0.2.2.2.2.2.2.1] ::F) _:=St.shut o0.at1
         have o2:=o1.at2
         have o3:=o2.at2
         have o4:=o3.at2
         obtain rfl:=iS f
         exact AN (()) rfl ⟨fl,(u,c.2.1,fn,(((c.2.2.2.1))),c.2.2.2.2),fm,rfl,o4⟩
       ·refine Gs b6 fun r41 al8 fp d2=> ?_
        refine Ab (by rw [AV]; exact (fp _ _ (b7 1 _ rfl))) ?_
        refine Ab (St.cell (b:=r5) (j:=2) d2.at4 rfl) ?_
        refine Ab (St.cell (b:=r5) (j:=2) d2.at4 rfl) ?_
        refine Gs d2 fun r42 al9 o5 bs=> ?_
        refine Ab (by rw [AV]; exact (o5 _ _ (fp _ _ (b7 1 _ rfl)))) ?_
        refine Ab (St.cell (b:=r5) (j:=2) bs.at5 rfl) ?_
        refine Ab (St.cell (b:=r5) (j:=2) bs.at5 rfl) ?_
        obtain ⟨am0,o6,o7⟩:=bl.heap bs.sub
        have o8:=St.lit (r:=Ro.str) (l:=([] :List ByteArray)) (n:=0) bs .nil rfl (by decide)
        obtain ⟨am1,o9,f⟩:=bS f
        refine Aq (r:=Ro.str) (ms:=cw.2) By o8 rfl o7 o6 cx.symm o9 ?_
        intro t43 am2 bt
        have am3:=bt.rowLen
        refine Ab (St.cell (b:=r5) (j:=2) bt.at5 rfl) ?_
        have oa:=St.cells bt.at1
        have ob:=bt.at1.tail
        obtain ⟨am4,oc,f⟩:=bS f
        refine Aq (r:=Ro.str) (ms:=([(ByteArray.extract {data:= #[97,98,99,100,101] } (Int.toNat z17.1) (Int.toNat (IntKind.wrap .i64 (z17.1+(1:Int)))))] :List ByteArray)) By ob rfl oa (.cons (a:= [_]) rfl .nil) rfl oc ?_
        intro t44 am5 bu
        have am6:=bu.rowLen
        refine Ab (St.cell (b:=r5) (j:=2) bu.at4 rfl) ?_
        obtain ⟨am7,d3,f⟩:=bS f
        rw [← a7] at d3
        obtain ⟨am8,am9,fq,od,oe,an0⟩:=(bu.at2).get d3
        refine AG _ fq (AZ od ?_)
        obtain ⟨_,_,rfl,og,oh⟩:=oe
        obtain rfl:=og
        obtain ⟨an1,rfl,oi⟩:=oh
        have an2:=oi.length
        obtain ⟨fr,fs,oj,ok⟩:=St.freezeRow (t:=t44) bu
        obtain ⟨ft,fu,f⟩:=bS f
        rw [← a7] at fu
        refine JD (j:=1) ok.at1 d3 fu (by rintro _ ⟨_,_,rfl,rfl,⟨t1,rfl,q1⟩⟩; exact ⟨[_],_,rfl,rfl,⟨t44,rfl,oj⟩⟩) rfl rfl fq (by rw [AV]; rfl) fun an3 bv=> ?_
        have an4:=bv.rowLen
        have an5:=bv.rowLen
        have an6:=bv.rowLen
        have ol:=bv.at2
        have om:=ol.at1
        have on:=om.at2
        have oo:=St.unro (r:=Ro.str) (cs:= [.string (((c.2.2.2.1)))]) (x:=(((c.2.2.2.1)))) on rfl
        have op:=St.unpair oo
        have oq:=op.at1
        have os:=St.unpair oq
        have ot:=St.unro (r:=(Ro.list B0)) (cs:= [.slice s.1 s.2.1 s.2.2]) (x:=c.2.1) os ⟨s,rfl,(bj.mono fs)⟩
        have ou:=St.unpair ot
        have ov:=ou.at1
        have ow:=St.unpair ov
        have ox:St fr (cO 66 (Rep.prod (Rep.row 94 Br) (Rep.prod (Rep.ro (Ro.list B0)) (Rep.prod (Rep.row 97 Bs) (Rep.prod (Rep.ro Ro.str) (Rep.row 90 Bq))))) (some ⟨r5,0,none⟩) (u,c.2.1,ft,(((c.2.2.2.1))),c.2.2.2.2)::cW 66 r2 [.slice none 0 0, .slice none 0 0, .slice none 0 0, .string ({data:= #[] }), .slice none 0 0] ::cW 25 r1 [.int .u8 s_0.1, .int .u8 s_0.2.1,sv s_0.2.2.1,sv s_0.2.2.2.1,sv s_0.2.2.2.2.1,sv s_0.2.2.2.2.2.1,sv s_0.2.2.2.2.2.2.1] ::F) _:=St.shut ow.at1
        have oy:=ox.at2
        have oz:=oy.at2
        have p0:=oz.at2
        obtain rfl:=iS f
        exact AN (()) rfl ⟨fr,(u,c.2.1,ft,(((c.2.2.2.1))),c.2.2.2.2),fs,rfl,p0⟩
      have p1:=f8.at2
      have p2:=p1.at2
      have p3:=p2.at2
      obtain rfl:=iS f
      exact AN (()) rfl ⟨a5,(u,c.2.1,c.2.2.1,((c.2.2.2.1)),c.2.2.2.2),(Sub.refl _),rfl,p3⟩
     rintro z27 an7 ⟨p4,p5,p6,rfl,p7⟩
     try dsimp only at w
     have p8:=p7.at2
     have p9:=p8.at2
     have pa:=p9.at2
     obtain rfl:=iS w
     exact AN (()) rfl ⟨p4,p5,p6,rfl,pa⟩
    have pb:=bi.at2
    have pc:=pb.at2
    have pd:=pc.at2
    obtain rfl:=iS w
    exact AN (()) rfl ⟨a5,(u,c.2.1,c.2.2.1,(c.2.2.2.1),c.2.2.2.2),(Sub.refl _),rfl,pd⟩
   rintro z22 an8 ⟨pe,pf,pg,rfl,ph⟩
   try dsimp only at a6
   have pi:=ph.at2
   have pj:=pi.at2
   have pk:=pj.at2
   obtain rfl:=iS a6
   exact Ar ((IntKind.wrap .i64 (z17.1+(1:Int))),()) _ rfl rfl ⟨pe,pf,(ep.trans pg),es,rfl,pk⟩
  ·rintro _ z17 an9 ⟨pl,pm,pn,rfl,rfl,po⟩ pp
   refine Al (by exact decide_eq_false (Int.not_lt.2 pp)) ?_
   have pq:=po.at2
   have pr:=pq.at2
   have ps:=pr.at2
   exact AO (AS (z17.1,()) rfl ⟨pl,pm,pn,rfl,ps⟩)
 rintro z16 ao0 ⟨d4,pt,am,rfl,pu⟩
 try dsimp only at hd
 have pv:=pu.at2
 have pw:=pv.at2
 have px:=pw.at2
 obtain ⟨py,pz,hd⟩:=bS hd
 refine Ad (fun (y:Int×Unit) w_ g=> ∃ψ:AE,∃fv:DJ,Sub d4 ψ∧fv=g∧St ψ (cO 66 (Rep.prod (Rep.row 94 Br) (Rep.prod (Rep.ro (Ro.list B0)) (Rep.prod (Rep.row 97 Bs) (Rep.prod (Rep.ro Ro.str) (Rep.row 90 Bq))))) (some ⟨r5,0,none⟩) fv::cW 66 r2 [.slice none 0 0, .slice none 0 0, .slice none 0 0, .string ({data:= #[] }), .slice none 0 0] ::cW 25 r1 [.int .u8 s_0.1, .int .u8 s_0.2.1,sv s_0.2.2.1,sv s_0.2.2.2.1,sv s_0.2.2.2.2.1,sv s_0.2.2.2.2.2.1,sv s_0.2.2.2.2.2.2.1] ::F) w_) (g:=py) ?_ ?_
 ·refine D4 pz (fun q0 (y:Int×Unit) w_ g=> ∃ψ:AE,∃fw:DJ,Sub d4 ψ∧y.1=q0∧fw=g∧St ψ (cO 66 (Rep.prod (Rep.row 94 Br) (Rep.prod (Rep.ro (Ro.list B0)) (Rep.prod (Rep.row 97 Bs) (Rep.prod (Rep.ro Ro.str) (Rep.row 90 Bq))))) (some ⟨r5,0,none⟩) fw::cW 66 r2 [.slice none 0 0, .slice none 0 0, .slice none 0 0, .string ({data:= #[] }), .slice none 0 0] ::cW 25 r1 [.int .u8 s_0.1, .int .u8 s_0.2.1,sv s_0.2.2.1,sv s_0.2.2.2.1,sv s_0.2.2.2.2.1,sv s_0.2.2.2.2.2.1,sv s_0.2.2.2.2.2.2.1] ::F) w_) ((0:Int),()) rfl ⟨d4,pt,(Sub.refl _),rfl,rfl,px⟩ ?_ ?_
  ·rintro _ z47 ao1 _ _ ⟨an,d,ao,rfl,rfl,ap⟩ k q2 fx fy
   try dsimp only at k q2 fx fy
   refine AA (x:=s_0.2.2.1) ap.at2 rfl ?_
   refine Az (by rw [e3]; exact decide_eq_true fx) ?_
   refine AA (x:=s_0.2.2.1) ap.at2 rfl ?_
   obtain ⟨aq,q3,k⟩:=bS k
   obtain ⟨ao2,ao3,q4,q5,q6,fz⟩:=(cb.mono ((ag.trans am).trans ao)).get q3
   refine AG _ q4 (AZ q5 ?_)
   obtain rfl:=q6
   refine AL (x:=aq) (AB (Sub.trans (Sub.refl _) ap.sub) (fz 0 _ rfl)) rfl ?_
   refine CP k id fun ao4 k=> ?_
   refine AA (x:=s_0.2.2.1) ap.at2 rfl ?_
   obtain ⟨ar,q7,k⟩:=bS k
   obtain ⟨ao5,ao6,q8,q9,qa,g0⟩:=(cb.mono ((ag.trans am).trans ao)).get q7
   refine AG _ q8 (AZ q9 ?_)
   obtain rfl:=qa
   refine AL (x:=ar) (AB (Sub.trans (Sub.refl _) ap.sub) (g0 0 _ rfl)) rfl ?_
   refine CP k id fun ao7 k=> ?_
   refine CP k id fun ao8 k=> ?_
   refine Gs ap fun r55 ao9 ap0 b9=> ?_
   refine Ab (AB (Sub.trans (Sub.refl _) b9.sub) (g0 0 _ rfl)) ?_
   refine Ab (St.cell (b:=r1) (j:=2) b9.at3 rfl) ?_
   refine Ab (AB (Sub.trans (Sub.refl _) b9.sub) (fz 0 _ rfl)) ?_
   refine Ab (St.cell (b:=r1) (j:=2) b9.at3 rfl) ?_
   refine AJ b9 rfl rfl fun ap1 qb=> ?_
   refine AJ qb rfl rfl fun ap2 qc=> ?_
   refine AJ qc rfl rfl fun ap3 qd=> ?_
   refine AJ qd rfl rfl fun ap4 g1=> ?_
   refine AA (x:=s_0.2.2.2.1) g1.at3 rfl ?_
   have qe:=g1.nil 9 Ro.str
   have qf:=St.unro (r:=Ro.str) (cs:= [.string ({data:= #[] })]) (x:= {data:= #[] }) qe rfl
   have qg:=St.unro (r:=Ro.str) (cs:= [.string ({data:= #[] })]) (x:= {data:= #[] }) qf rfl
   have qh:=St.unpair qg
   have qi:=qh.at1
   have qj:=St.unpair qi
   have qk:=St.unro (r:=Ro.str) (cs:= [.string (ByteArray.extract {data:= #[83,84,85,86] } (Int.toNat (Int.tmod (IntKind.wrap .i64 aq) (IntKind.wrap .i64 ((IntKind.wrap .i64 (Int.tmod s_0.2.1 (4:Int))) +(1:Int))))) (Int.toNat (IntKind.wrap .i64 ((Int.tmod (IntKind.wrap .i64 ar) (IntKind.wrap .i64 ((IntKind.wrap .i64 (Int.tmod s_0.2.1 (4:Int))) +(1:Int)))) +(1:Int)))))]) (x:=(ByteArray.extract {data:= #[83,84,85,86] } (Int.toNat (Int.tmod (IntKind.wrap .i64 aq) (IntKind.wrap .i64 ((IntKind.wrap .i64 (Int.tmod s_0.2.1 (4:Int))) +(1:Int))))) (Int.toNat (IntKind.wrap .i64 ((Int.tmod (IntKind.wrap .i64 ar) (IntKind.wrap .i64 ((IntKind.wrap .i64 (Int.tmod s_0.2.1 (4:Int))) +(1:Int)))) +(1:Int)))))) qj rfl
   have ql:=St.unpair qk
   have g2:St an (cO 90 (Rep.prod (Rep.ro Ro.str) (Rep.prod (Rep.row 9 Ro.str) (Rep.prod (Rep.ro Ro.str) (Rep.ro Ro.str)))) (some ⟨r55,0,none⟩) ((ByteArray.extract {data:= #[83,84,85,86] } (Int.toNat (Int.tmod (IntKind.wrap .i64 aq) (IntKind.wrap .i64 ((IntKind.wrap .i64 (Int.tmod s_0.2.1 (4:Int))) +(1:Int))))) (Int.toNat (IntKind.wrap .i64 ((Int.tmod (IntKind.wrap .i64 ar) (IntKind.wrap .i64 ((IntKind.wrap .i64 (Int.tmod s_0.2.1 (4:Int))) +(1:Int)))) +(1:Int))))),([] :List ByteArray),{data:= #[] },{data:= #[] })::cO 66 (Rep.prod (Rep.row 94 Br) (Rep.prod (Rep.ro (Ro.list B0)) (Rep.prod (Rep.row 97 Bs) (Rep.prod (Rep.ro Ro.str) (Rep.row 90 Bq))))) (some ⟨r5,0,none⟩) d::cW 66 r2 [.slice none 0 0, .slice none 0 0, .slice none 0 0, .string ({data:= #[] }), .slice none 0 0] ::cW 25 r1 [.int .u8 s_0.1, .int .u8 s_0.2.1,sv s_0.2.2.1,sv s_0.2.2.2.1,sv s_0.2.2.2.2.1,sv s_0.2.2.2.2.2.1,sv s_0.2.2.2.2.2.2.1] ::F) _:=St.shut ql.at1
   obtain ⟨qm,aa,k⟩:=bS k
   refine Ak (fun (y:Unit) w_ g=> ∃ψ:AE,∃g3:Dn,Sub an ψ∧g3=g∧St ψ (cO 90 (Rep.prod (Rep.ro Ro.str) (Rep.prod (Rep.row 9 Ro.str) (Rep.prod (Rep.ro Ro.str) (Rep.ro Ro.str)))) (some ⟨r55,0,none⟩) g3::cO 66 (Rep.prod (Rep.row 94 Br) (Rep.prod (Rep.ro (Ro.list B0)) (Rep.prod (Rep.row 97 Bs) (Rep.prod (Rep.ro Ro.str) (Rep.row 90 Bq))))) (some ⟨r5,0,none⟩) d::cW 66 r2 [.slice none 0 0, .slice none 0 0, .slice none 0 0, .string ({data:= #[] }), .slice none 0 0] ::cW 25 r1 [.int .u8 s_0.1, .int .u8 s_0.2.1,sv s_0.2.2.1,sv s_0.2.2.2.1,sv s_0.2.2.2.2.1,sv s_0.2.2.2.2.2.1,sv s_0.2.2.2.2.2.2.1] ::F) w_) (g:=qm) ?_ ?_
   ·refine AH aa (by rw [hl] <;>rfl) (fun _ aa=> ?_) (fun _ aa=> ?_)
    ·have qn:=g2.at3
     have qo:=qn.at3
     have qp:=qo.at3
     have qq:=qp.at3
     obtain ⟨qr,qs,aa⟩:=bS aa
     refine Ad (fun (y:Int×Unit) w_ g=> ∃ψ:AE,∃g4:Dn,Sub an ψ∧g4=g∧St ψ (cO 90 (Rep.prod (Rep.ro Ro.str) (Rep.prod (Rep.row 9 Ro.str) (Rep.prod (Rep.ro Ro.str) (Rep.ro Ro.str)))) (some ⟨r55,0,none⟩) g4::cO 66 (Rep.prod (Rep.row 94 Br) (Rep.prod (Rep.ro (Ro.list B0)) (Rep.prod (Rep.row 97 Bs) (Rep.prod (Rep.ro Ro.str) (Rep.row 90 Bq))))) (some ⟨r5,0,none⟩) d::cW 66 r2 [.slice none 0 0, .slice none 0 0, .slice none 0 0, .string ({data:= #[] }), .slice none 0 0] ::cW 25 r1 [.int .u8 s_0.1, .int .u8 s_0.2.1,sv s_0.2.2.1,sv s_0.2.2.2.1,sv s_0.2.2.2.2.1,sv s_0.2.2.2.2.2.1,sv s_0.2.2.2.2.2.2.1] ::F) w_) (g:=qr) ?_ ?_
     ·refine FO qs (fun (y:Int×Unit) w_ g=> ∃ψ:AE,∃g5:Dn,Sub an ψ∧(y.1,g5)=g∧St ψ (cO 90 (Rep.prod (Rep.ro Ro.str) (Rep.prod (Rep.row 9 Ro.str) (Rep.prod (Rep.ro Ro.str) (Rep.ro Ro.str)))) (some ⟨r55,0,none⟩) g5::cO 66 (Rep.prod (Rep.row 94 Br) (Rep.prod (Rep.ro (Ro.list B0)) (Rep.prod (Rep.row 97 Bs) (Rep.prod (Rep.ro Ro.str) (Rep.row 90 Bq))))) (some ⟨r5,0,none⟩) d::cW 66 r2 [.slice none 0 0, .slice none 0 0, .slice none 0 0, .string ({data:= #[] }), .slice none 0 0] ::cW 25 r1 [.int .u8 s_0.1, .int .u8 s_0.2.1,sv s_0.2.2.1,sv s_0.2.2.2.1,sv s_0.2.2.2.2.1,sv s_0.2.2.2.2.2.1,sv s_0.2.2.2.2.2.2.1] ::F) w_) ((0:Int),()) rfl ⟨an,((ByteArray.extract {data:= #[83,84,85,86] } (Int.toNat (Int.tmod (IntKind.wrap .i64 aq) (IntKind.wrap .i64 ((IntKind.wrap .i64 (Int.tmod s_0.2.1 (4:Int))) +(1:Int))))) (Int.toNat (IntKind.wrap .i64 ((Int.tmod (IntKind.wrap .i64 ar) (IntKind.wrap .i64 ((IntKind.wrap .i64 (Int.tmod s_0.2.1 (4:Int))) +(1:Int)))) +(1:Int))))),([] :List ByteArray),{data:= #[] },{data:= #[] }),(Sub.refl _),rfl,qq⟩ ?_
      ·rintro z59 ap5 _ _ ⟨bw,m,bx,rfl,ab⟩ i qt
       try dsimp only at i
       refine AA (x:=s_0.2.2.2.1) ab.at3 rfl ?_
       obtain ⟨ap6,qu,i⟩:=bS i
       obtain ⟨ap7,ap8,qv,qw,qx,qy⟩:=(cc.mono (((ag.trans am).trans ao).trans bx)).get qu
       refine AG _ qv (AZ qw ?_)
       obtain ⟨qz,rfl,r0⟩:=qx
       have r3:=r0.length
       refine AL (x:=qz) (AB (Sub.trans (Sub.refl _) ab.sub) (qy 0 _ rfl)) rfl ?_
       refine AH i (by rw [r3] <;>rfl) (fun _ i=> ?_) (fun _ i=> ?_)
       ·refine AA (x:=s_0.2.2.2.1) ab.at3 rfl ?_
        obtain ⟨ap9,r4,i⟩:=bS i
        obtain ⟨aq0,aq1,r6,r7,r8,r9⟩:=(cc.mono (((ag.trans am).trans ao).trans bx)).get r4
        refine AG _ r6 (AZ r7 ?_)
        obtain ⟨ra,rfl,g6⟩:=r8
        have aq2:=g6.length
        refine AL (x:=ra) (AB (Sub.trans (Sub.refl _) ab.sub) (r9 0 _ rfl)) rfl ?_
        obtain ⟨ba,rb,i⟩:=bS i
        obtain ⟨aq3,aq4,rc,rd,re,rf⟩:=g6.get rb
        refine AG _ rc (AZ rd ?_)
        obtain rfl:=re
        refine AL (x:=ba) (AB (Sub.trans (Sub.refl _) ab.sub) (rf 0 _ rfl)) rfl ?_
        refine CP i id fun aq5 i=> ?_
        refine CP i id fun aq6 i=> ?_
        refine CP i id fun aq7 i=> ?_
        refine CP i id fun aq8 i=> ?_
        obtain ⟨rg,ah,i⟩:=bS i
        refine Ak (fun (y:ByteArray×Unit) w_ g=> ∃ψ:AE,Sub bw ψ∧y.1=g∧St ψ (cO 90 (Rep.prod (Rep.ro Ro.str) (Rep.prod (Rep.row 9 Ro.str) (Rep.prod (Rep.ro Ro.str) (Rep.ro Ro.str)))) (some ⟨r55,0,none⟩) m::cO 66 (Rep.prod (Rep.row 94 Br) (Rep.prod (Rep.ro (Ro.list B0)) (Rep.prod (Rep.row 97 Bs) (Rep.prod (Rep.ro Ro.str) (Rep.row 90 Bq))))) (some ⟨r5,0,none⟩) d::cW 66 r2 [.slice none 0 0, .slice none 0 0, .slice none 0 0, .string ({data:= #[] }), .slice none 0 0] ::cW 25 r1 [.int .u8 s_0.1, .int .u8 s_0.2.1,sv s_0.2.2.1,sv s_0.2.2.2.1,sv s_0.2.2.2.2.1,sv s_0.2.2.2.2.2.1,sv s_0.2.2.2.2.2.2.1] ::F) w_) (g:=rg) ?_ ?_
        ·refine AH ah rfl (fun _ ah=> ?_) (fun _ ah=> ?_)
         ·refine CP ah id fun aq9 ah=> ?_
          have rh:=ab.at3
          have ri:=rh.at3
          have rj:=ri.at3
          have rk:=rj.at3
          obtain rfl:=iS ah
          exact AN ((ByteArray.extract {data:= #[83,84,85,86] } (Int.toNat (IntKind.wrap .i64 ((Int.tmod (IntKind.wrap .i64 ba) (IntKind.wrap .i64 ((IntKind.wrap .i64 ((IntKind.wrap .i64 (Int.tmod s_0.1 (5:Int))) +(1:Int))) +(IntKind.wrap .i64 ((IntKind.wrap .i64 (Int.tmod s_0.2.1 (4:Int))) +(1:Int)))))) - (IntKind.wrap .i64 ((IntKind.wrap .i64 (Int.tmod s_0.1 (5:Int))) +(1:Int)))))) (Int.toNat (IntKind.wrap .i64 ((IntKind.wrap .i64 ((Int.tmod (IntKind.wrap .i64 ba) (IntKind.wrap .i64 ((IntKind.wrap .i64 ((IntKind.wrap .i64 (Int.tmod s_0.1 (5:Int))) +(1:Int))) +(IntKind.wrap .i64 ((IntKind.wrap .i64 (Int.tmod s_0.2.1 (4:Int))) +(1:Int)))))) - (IntKind.wrap .i64 ((IntKind.wrap .i64 (Int.tmod s_0.1 (5:Int))) +(1:Int))))) +(1:Int))))),()) rfl ⟨bw,(Sub.refl _),rfl,rk⟩
         have rl:=ab.at3
         have rm:=rl.at3
         have rn:=rm.at3
         have rp:=rn.at3
         obtain rfl:=iS ah
         exact AN ((ByteArray.extract {data:= #[97,98,99,100,101] } (Int.toNat (Int.tmod (Int.tmod (IntKind.wrap .i64 ba) (IntKind.wrap .i64 ((IntKind.wrap .i64 ((IntKind.wrap .i64 (Int.tmod s_0.1 (5:Int))) +(1:Int))) +(IntKind.wrap .i64 ((IntKind.wrap .i64 (Int.tmod s_0.2.1 (4:Int))) +(1:Int)))))) (5:Int))) (Int.toNat (IntKind.wrap .i64 ((Int.tmod (Int.tmod (IntKind.wrap .i64 ba) (IntKind.wrap .i64 ((IntKind.wrap .i64 ((IntKind.wrap .i64 (Int.tmod s_0.1 (5:Int))) +(1:Int))) +(IntKind.wrap .i64 ((IntKind.wrap .i64 (Int.tmod s_0.2.1 (4:Int))) +(1:Int)))))) (5:Int)) +(1:Int))))),()) rfl ⟨bw,(Sub.refl _),rfl,rp⟩
        rintro z68 ar0 ⟨d5,rq,rfl,rr⟩
        try dsimp only at i
        obtain ⟨rs,ar1,g7,ar2,rt⟩:=rr.open
        obtain rfl:r55=rs:=by simpa using g7
        clear g7
        have ru:=rt.at1
        obtain ⟨ar3,ar4,rfl,ar5,rv⟩:=ru.pair
        obtain ⟨rx,ry⟩:=rv.ro
        subst rx
        obtain ⟨ar6,ar7,rfl,ar8,d6⟩:=ry.pair
        obtain ⟨d7,rz⟩:=d6.rowCs
        subst rz
        have ar9:=d6.rowLen
        have s1:=d6.at1
        obtain ⟨as0,as1,rfl,as2,s2⟩:=s1.pair
        obtain ⟨s3,s4⟩:=s2.ro
        subst s3
        obtain ⟨s5,s6⟩:=s4.ro
        subst s5
        have g8:St d5 (cR 9 Ro.str d7 m.2.1::cW 90 r55 [.string (m.1),sv d7, .string (m.2.2.1), .string (m.2.2.2)] ::cO 66 (Rep.prod (Rep.row 94 Br) (Rep.prod (Rep.ro (Ro.list B0)) (Rep.prod (Rep.row 97 Bs) (Rep.prod (Rep.ro Ro.str) (Rep.row 90 Bq))))) (some ⟨r5,0,none⟩) d::cW 66 r2 [.slice none 0 0, .slice none 0 0, .slice none 0 0, .string ({data:= #[] }), .slice none 0 0] ::cW 25 r1 [.int .u8 s_0.1, .int .u8 s_0.2.1,sv s_0.2.2.1,sv s_0.2.2.2.1,sv s_0.2.2.2.2.1,sv s_0.2.2.2.2.2.1,sv s_0.2.2.2.2.2.2.1] ::F) _:=s6
        refine AA (x:=d7) g8.at1 rfl ?_
        refine Ac (vs:= [.string z68.1]) g8 fun r70 as3 g9=> ?_
        have s7:=St.cells g9
        have s8:=g9.tail
        obtain ⟨ga,s9,i⟩:=bS i
        refine Aq (r:=Ro.str) (ms:=([z68.1] :List ByteArray)) By s8 rfl s7 (.cons (a:= [_]) rfl .nil) rfl s9 ?_
        intro t71 as4 gb
        have as5:=gb.rowLen
        refine AJ gb.at1 rfl rfl fun as6 sa=> ?_
        have sb:=sa.at1
        have sc:=St.unro (r:=Ro.str) (cs:= [.string (m.2.2.2)]) (x:=(m.2.2.2)) sb rfl
        have sd:=St.unro (r:=Ro.str) (cs:= [.string (m.2.2.1)]) (x:=(m.2.2.1)) sc rfl
        have se:=St.unpair sd
        have sf:=se.at1
        have sg:=St.unpair sf
        have sh:=St.unro (r:=Ro.str) (cs:= [.string (m.1)]) (x:=(m.1)) sg rfl
        have si:=St.unpair sh
        have sj:St d5 (cO 90 (Rep.prod (Rep.ro Ro.str) (Rep.prod (Rep.row 9 Ro.str) (Rep.prod (Rep.ro Ro.str) (Rep.ro Ro.str)))) (some ⟨r55,0,none⟩) ((m.1),ga,(m.2.2.1),(m.2.2.2))::cO 66 (Rep.prod (Rep.row 94 Br) (Rep.prod (Rep.ro (Ro.list B0)) (Rep.prod (Rep.row 97 Bs) (Rep.prod (Rep.ro Ro.str) (Rep.row 90 Bq))))) (some ⟨r5,0,none⟩) d::cW 66 r2 [.slice none 0 0, .slice none 0 0, .slice none 0 0, .string ({data:= #[] }), .slice none 0 0] ::cW 25 r1 [.int .u8 s_0.1, .int .u8 s_0.2.1,sv s_0.2.2.1,sv s_0.2.2.2.1,sv s_0.2.2.2.2.1,sv s_0.2.2.2.2.2.1,sv s_0.2.2.2.2.2.2.1] ::F) _:=St.shut si.at1
        have sk:=sj.at3
        have sl:=sk.at3
        have sm:=sl.at3
        have sn:=sm.at3
        obtain rfl:=iS i
        exact Ar ((IntKind.wrap .i64 (z59.1+(1:Int))),()) _ rfl rfl ⟨d5,((m.1),ga,(m.2.2.1),(m.2.2.2)),(bx.trans rq),rfl,sn⟩
       have so:=ab.at3
       have sp:=so.at3
       have sq:=sp.at3
       have sr:=sq.at3
       obtain rfl:=iS i
       obtain rfl:=qt _ rfl
       exact AO (AS (z59.1,()) rfl ⟨bw,m,bx,rfl,sr⟩)
     rintro z58 as7 ⟨ss,st,su,rfl,sw⟩
     try dsimp only at aa
     have sx:=sw.at3
     have sy:=sx.at3
     have sz:=sy.at3
     have t0:=sz.at3
     obtain rfl:=iS aa
     exact AN (()) rfl ⟨ss,st,su,rfl,t0⟩
    have t2:=g2.at3
    have t3:=t2.at3
    have t4:=t3.at3
    have t5:=t4.at3
    obtain rfl:=iS aa
    exact AN (()) rfl ⟨an,((ByteArray.extract {data:= #[83,84,85,86] } (Int.toNat (Int.tmod (IntKind.wrap .i64 aq) (IntKind.wrap .i64 ((IntKind.wrap .i64 (Int.tmod s_0.2.1 (4:Int))) +(1:Int))))) (Int.toNat (IntKind.wrap .i64 ((Int.tmod (IntKind.wrap .i64 ar) (IntKind.wrap .i64 ((IntKind.wrap .i64 (Int.tmod s_0.2.1 (4:Int))) +(1:Int)))) +(1:Int))))),([] :List ByteArray),{data:= #[] },{data:= #[] }),(Sub.refl _),rfl,t5⟩
   rintro z57 as8 ⟨ac,p,gc,rfl,bb⟩
   try dsimp only at k
   refine AA (x:=s_0.2.2.2.2.1) bb.at3 rfl ?_
   obtain ⟨t6,z,k⟩:=bS k
   refine Ak (fun (y:Unit) w_ g=> ∃ψ:AE,∃gd:Dn,Sub ac ψ∧gd=g∧St ψ (cO 90 (Rep.prod (Rep.ro Ro.str) (Rep.prod (Rep.row 9 Ro.str) (Rep.prod (Rep.ro Ro.str) (Rep.ro Ro.str)))) (some ⟨r55,0,none⟩) gd::cO 66 (Rep.prod (Rep.row 94 Br) (Rep.prod (Rep.ro (Ro.list B0)) (Rep.prod (Rep.row 97 Bs) (Rep.prod (Rep.ro Ro.str) (Rep.row 90 Bq))))) (some ⟨r5,0,none⟩) d::cW 66 r2 [.slice none 0 0, .slice none 0 0, .slice none 0 0, .string ({data:= #[] }), .slice none 0 0] ::cW 25 r1 [.int .u8 s_0.1, .int .u8 s_0.2.1,sv s_0.2.2.1,sv s_0.2.2.2.1,sv s_0.2.2.2.2.1,sv s_0.2.2.2.2.2.1,sv s_0.2.2.2.2.2.2.1] ::F) w_) (g:=t6) ?_ ?_
   ·refine AH z (by rw [hm] <;>rfl) (fun _ z=> ?_) (fun _ z=> ?_)
    ·refine AA (x:=s_0.2.2.2.2.1) bb.at3 rfl ?_
     obtain ⟨a8,t7,z⟩:=bS z
     obtain ⟨as9,at0,t8,t9,ta,tb⟩:=(dw.mono (((ag.trans am).trans ao).trans gc)).get t7
     refine AG _ t8 (AZ t9 ?_)
     obtain rfl:=ta
     refine AL (x:=a8) (AB (Sub.trans (Sub.refl _) bb.sub) (tb 0 _ rfl)) rfl ?_
     obtain ⟨tc,at7,ge,at8,td⟩:=bb.at1.open
     obtain rfl:r5=tc:=by simpa using ge
     clear ge
     have te:=td.at1
     obtain ⟨at9,au0,rfl,au1,d8⟩:=te.pair
     obtain ⟨ad,tf⟩:=d8.rowCs
     subst tf
     have au2:=d8.rowLen
     have tg:=d8.at1
     obtain ⟨au3,au4,rfl,au5,th⟩:=tg.pair
     obtain ⟨ti,tj⟩:=th.ro
     obtain ⟨ae,tk,gf⟩:=ti
     subst tk
     have au6:=gf.length
     obtain ⟨au7,au8,rfl,au9,d9⟩:=tj.pair
     obtain ⟨a0,tl⟩:=d9.rowCs
     subst tl
     have bz:=d9.rowLen
     have tm:=d9.at1
     obtain ⟨av0,av1,rfl,av2,tn⟩:=tm.pair
     obtain ⟨tp,da⟩:=tn.ro
     subst tp
     obtain ⟨af,tq⟩:=da.rowCs
     subst tq
     have av3:=da.rowLen
     have db:St ac (cR 90 Bq af d.2.2.2.2::cR 97 Bs a0 d.2.2.1::cR 94 Br ad d.1::cW 66 r5 [sv ad,sv ae,sv a0, .string (d.2.2.2.1),sv af] ::cO 90 (Rep.prod (Rep.ro Ro.str) (Rep.prod (Rep.row 9 Ro.str) (Rep.prod (Rep.ro Ro.str) (Rep.ro Ro.str)))) (some ⟨r55,0,none⟩) p::cW 66 r2 [.slice none 0 0, .slice none 0 0, .slice none 0 0, .string ({data:= #[] }), .slice none 0 0] ::cW 25 r1 [.int .u8 s_0.1, .int .u8 s_0.2.1,sv s_0.2.2.1,sv s_0.2.2.2.1,sv s_0.2.2.2.2.1,sv s_0.2.2.2.2.2.1,sv s_0.2.2.2.2.2.2.1] ::F) _:=da
     refine AA (x:=a0) db.at3 rfl ?_
     refine CP z (by rw [bz]; exact id) fun av4 z=> ?_
     obtain ⟨tr,ai,z⟩:=bS z
     refine Ak (fun (y:Unit) w_ g=> ∃ψ:AE,∃gg:Dn,Sub ac ψ∧gg=g∧St ψ (cO 90 (Rep.prod (Rep.ro Ro.str) (Rep.prod (Rep.row 9 Ro.str) (Rep.prod (Rep.ro Ro.str) (Rep.ro Ro.str)))) (some ⟨r55,0,none⟩) gg::cR 90 Bq af d.2.2.2.2::cR 97 Bs a0 d.2.2.1::cR 94 Br ad d.1::cW 66 r5 [sv ad,sv ae,sv a0, .string (d.2.2.2.1),sv af] ::cW 66 r2 [.slice none 0 0, .slice none 0 0, .slice none 0 0, .string ({data:= #[] }), .slice none 0 0] ::cW 25 r1 [.int .u8 s_0.1, .int .u8 s_0.2.1,sv s_0.2.2.1,sv s_0.2.2.2.1,sv s_0.2.2.2.2.1,sv s_0.2.2.2.2.2.1,sv s_0.2.2.2.2.2.2.1] ::F) w_) (g:=tr) ?_ ?_
     ·refine AH ai (by rw [bz] <;>rfl) (fun _ ai=> ?_) (fun _ ai=> ?_)
      ·refine CP ai (by rw [bz]; exact id) fun av5 ai=> ?_
       obtain ⟨ts,av6,gh,av7,tt⟩:=db.at4.open
       obtain rfl:r55=ts:=by simpa using gh
       clear gh
       have tu:=tt.at1
       obtain ⟨av8,av9,rfl,aw0,tv⟩:=tu.pair
       obtain ⟨tw,tx⟩:=tv.ro
       subst tw
       obtain ⟨aw1,aw2,rfl,aw3,dc⟩:=tx.pair
       obtain ⟨gi,ty⟩:=dc.rowCs
       subst ty
       have aw4:=dc.rowLen
       have tz:=dc.at1
       obtain ⟨aw5,aw6,rfl,aw7,u0⟩:=tz.pair
       obtain ⟨u1,u2⟩:=u0.ro
       subst u1
       obtain ⟨u3,u4⟩:=u2.ro
       subst u3
       have u5:St ac (cR 9 Ro.str gi p.2.1::cW 90 r55 [.string (p.1),sv gi, .string (p.2.2.1), .string (p.2.2.2)] ::cR 90 Bq af d.2.2.2.2::cR 97 Bs a0 d.2.2.1::cR 94 Br ad d.1::cW 66 r5 [sv ad,sv ae,sv a0, .string (d.2.2.2.1),sv af] ::cW 66 r2 [.slice none 0 0, .slice none 0 0, .slice none 0 0, .string ({data:= #[] }), .slice none 0 0] ::cW 25 r1 [.int .u8 s_0.1, .int .u8 s_0.2.1,sv s_0.2.2.1,sv s_0.2.2.2.1,sv s_0.2.2.2.2.1,sv s_0.2.2.2.2.2.1,sv s_0.2.2.2.2.2.2.1] ::F) _:=u4
       refine AJ u5.at1 rfl rfl fun aw8 u6=> ?_
       have u7:=u6.at1
       have u9:=St.unro (r:=Ro.str) (cs:= [.string (p.2.2.2)]) (x:=(p.2.2.2)) u7 rfl
       have ua:=St.unro (r:=Ro.str) (cs:= [.string (ByteArray.extract {data:= #[112,113,114,115,116] } (Int.toNat (IntKind.wrap .i64 ((Int.tmod (IntKind.wrap .i64 a8) (IntKind.wrap .i64 (((a0.2.1:Nat):Int) +(1:Int)))) - (1:Int)))) (Int.toNat (Int.tmod (IntKind.wrap .i64 a8) (IntKind.wrap .i64 (((a0.2.1:Nat):Int) +(1:Int))))))]) (x:=(ByteArray.extract {data:= #[112,113,114,115,116] } (Int.toNat (IntKind.wrap .i64 ((Int.tmod (IntKind.wrap .i64 a8) (IntKind.wrap .i64 ((((List.length d.2.2.1):Nat):Int) +(1:Int)))) - (1:Int)))) (Int.toNat (Int.tmod (IntKind.wrap .i64 a8) (IntKind.wrap .i64 ((((List.length d.2.2.1):Nat):Int) +(1:Int))))))) u9 (show _=_ by rw [bz]; rfl)
       have ub:=St.unpair ua
       have uc:=ub.at1
       have ud:=St.unpair uc
       have ue:=St.unro (r:=Ro.str) (cs:= [.string (p.1)]) (x:=(p.1)) ud rfl
       have uf:=St.unpair ue
       have ug:St ac (cO 90 (Rep.prod (Rep.ro Ro.str) (Rep.prod (Rep.row 9 Ro.str) (Rep.prod (Rep.ro Ro.str) (Rep.ro Ro.str)))) (some ⟨r55,0,none⟩) ((p.1),p.2.1,(ByteArray.extract {data:= #[112,113,114,115,116] } (Int.toNat (IntKind.wrap .i64 ((Int.tmod (IntKind.wrap .i64 a8) (IntKind.wrap .i64 ((((List.length d.2.2.1):Nat):Int) +(1:Int)))) - (1:Int)))) (Int.toNat (Int.tmod (IntKind.wrap .i64 a8) (IntKind.wrap .i64 ((((List.length d.2.2.1):Nat):Int) +(1:Int)))))),(p.2.2.2))::cR 90 Bq af d.2.2.2.2::cR 97 Bs a0 d.2.2.1::cR 94 Br ad d.1::cW 66 r5 [sv ad,sv ae,sv a0, .string (d.2.2.2.1),sv af] ::cW 66 r2 [.slice none 0 0, .slice none 0 0, .slice none 0 0, .string ({data:= #[] }), .slice none 0 0] ::cW 25 r1 [.int .u8 s_0.1, .int .u8 s_0.2.1,sv s_0.2.2.1,sv s_0.2.2.2.1,sv s_0.2.2.2.2.1,sv s_0.2.2.2.2.2.1,sv s_0.2.2.2.2.2.2.1] ::F) _:=St.shut uf.at1
       have uh:=ug.at6
       have ui:=uh.at6
       have uj:=ui.at6
       have uk:=uj.at6
       have ul:=uk.at6
       have um:=ul.at6
       have un:=um.at6
       obtain rfl:=iS ai
       exact AN (()) rfl ⟨ac,((p.1),p.2.1,(ByteArray.extract {data:= #[112,113,114,115,116] } (Int.toNat (IntKind.wrap .i64 ((Int.tmod (IntKind.wrap .i64 a8) (IntKind.wrap .i64 ((((List.length d.2.2.1):Nat):Int) +(1:Int)))) - (1:Int)))) (Int.toNat (Int.tmod (IntKind.wrap .i64 a8) (IntKind.wrap .i64 ((((List.length d.2.2.1):Nat):Int) +(1:Int)))))),(p.2.2.2)),(Sub.refl _),rfl,un⟩
      have uo:=db.at6
      have up:=uo.at6
      have uq:=up.at5
      have ur:=uq.at5
      have us:=ur.at5
      have ut:=us.at5
      have uu:=ut.at6
      obtain rfl:=iS ai
      exact AN (()) rfl ⟨ac,p,(Sub.refl _),rfl,uu⟩
     rintro z78 aw9 ⟨gj,gk,gl,rfl,uv⟩
     try dsimp only at z
     have uw:=uv.at3
     have ux:=uw.at3
     have uy:=ux.at3
     have uz:=St.unro (r:=Ro.str) (cs:= [.string (d.2.2.2.1)]) (x:=(d.2.2.2.1)) uy rfl
     have v0:=St.unpair uz
     have v1:=v0.at1
     have v2:=St.unpair v1
     have v3:=St.unro (r:=(Ro.list B0)) (cs:= [.slice ae.1 ae.2.1 ae.2.2]) (x:=d.2.1) v2 ⟨ae,rfl,(gf.mono gl)⟩
     have v4:=St.unpair v3
     have v5:=v4.at1
     have v6:=St.unpair v5
     have v7:St gj (cO 66 (Rep.prod (Rep.row 94 Br) (Rep.prod (Rep.ro (Ro.list B0)) (Rep.prod (Rep.row 97 Bs) (Rep.prod (Rep.ro Ro.str) (Rep.row 90 Bq))))) (some ⟨r5,0,none⟩) (d.1,d.2.1,d.2.2.1,(d.2.2.2.1),d.2.2.2.2)::cO 90 (Rep.prod (Rep.ro Ro.str) (Rep.prod (Rep.row 9 Ro.str) (Rep.prod (Rep.ro Ro.str) (Rep.ro Ro.str)))) (some ⟨r55,0,none⟩) gk::cW 66 r2 [.slice none 0 0, .slice none 0 0, .slice none 0 0, .string ({data:= #[] }), .slice none 0 0] ::cW 25 r1 [.int .u8 s_0.1, .int .u8 s_0.2.1,sv s_0.2.2.1,sv s_0.2.2.2.1,sv s_0.2.2.2.2.1,sv s_0.2.2.2.2.2.1,sv s_0.2.2.2.2.2.2.1] ::F) _:=St.shut v6.at2
     have v8:=v7.at3
     have v9:=v8.at3
     have va:=v9.at2
     have vb:=va.at3
     obtain rfl:=iS z
     exact AN (()) rfl ⟨gj,gk,gl,rfl,vb⟩
    have vc:=bb.at3
    have vd:=vc.at3
    have ve:=vd.at3
    have vf:=ve.at3
    obtain rfl:=iS z
    exact AN (()) rfl ⟨ac,p,(Sub.refl _),rfl,vf⟩
   rintro z73 ax0 ⟨gm,o,vg,rfl,vh⟩
   try dsimp only at k
   obtain ⟨vi,ax1,gn,ax2,vj⟩:=vh.at1.open
   obtain rfl:r5=vi:=by simpa using gn
   clear gn
   have vk:=vj.at1
   obtain ⟨ax3,ax4,rfl,ax5,dd⟩:=vk.pair
   obtain ⟨c0,vl⟩:=dd.rowCs
   subst vl
   have ax6:=dd.rowLen
   have vm:=dd.at1
   obtain ⟨ax7,ax8,rfl,ax9,vn⟩:=vm.pair
   obtain ⟨vo,vp⟩:=vn.ro
   obtain ⟨au,vq,go⟩:=vo
   subst vq
   have ay0:=go.length
   obtain ⟨ay1,ay2,rfl,ay3,de⟩:=vp.pair
   obtain ⟨c1,vr⟩:=de.rowCs
   subst vr
   have ay4:=de.rowLen
   have vt:=de.at1
   obtain ⟨ay5,ay6,rfl,ay7,vu⟩:=vt.pair
   obtain ⟨vv,df⟩:=vu.ro
   subst vv
   obtain ⟨bc,vw⟩:=df.rowCs
   subst vw
   have ay8:=df.rowLen
   have gp:St gm (cR 90 Bq bc d.2.2.2.2::cR 97 Bs c1 d.2.2.1::cR 94 Br c0 d.1::cW 66 r5 [sv c0,sv au,sv c1, .string (d.2.2.2.1),sv bc] ::cO 90 (Rep.prod (Rep.ro Ro.str) (Rep.prod (Rep.row 9 Ro.str) (Rep.prod (Rep.ro Ro.str) (Rep.ro Ro.str)))) (some ⟨r55,0,none⟩) o::cW 66 r2 [.slice none 0 0, .slice none 0 0, .slice none 0 0, .string ({data:= #[] }), .slice none 0 0] ::cW 25 r1 [.int .u8 s_0.1, .int .u8 s_0.2.1,sv s_0.2.2.1,sv s_0.2.2.2.1,sv s_0.2.2.2.2.1,sv s_0.2.2.2.2.2.1,sv s_0.2.2.2.2.2.2.1] ::F) _:=df
   refine AA (x:=bc) gp.at3 rfl ?_
   obtain ⟨vx,ay9,gq,az0,vy⟩:=gp.at4.open
   obtain rfl:r55=vx:=by simpa using gq
   clear gq
   have vz:=vy.at1
   obtain ⟨az1,az2,rfl,az3,w0⟩:=vz.pair
   obtain ⟨w1,w2⟩:=w0.ro
   subst w1
   obtain ⟨az4,az5,rfl,az6,dg⟩:=w2.pair
   obtain ⟨aj,w3⟩:=dg.rowCs
   subst w3
   have az7:=dg.rowLen
   have w4:=dg.at1
   obtain ⟨az8,az9,rfl,b00,w5⟩:=w4.pair
   obtain ⟨w6,w7⟩:=w5.ro
   subst w6
   obtain ⟨w8,w9⟩:=w7.ro
   subst w8
   have bd:St gm (cR 9 Ro.str aj o.2.1::cW 90 r55 [.string (o.1),sv aj, .string (o.2.2.1), .string (o.2.2.2)] ::cR 90 Bq bc d.2.2.2.2::cR 97 Bs c1 d.2.2.1::cR 94 Br c0 d.1::cW 66 r5 [sv c0,sv au,sv c1, .string (d.2.2.2.1),sv bc] ::cW 66 r2 [.slice none 0 0, .slice none 0 0, .slice none 0 0, .string ({data:= #[] }), .slice none 0 0] ::cW 25 r1 [.int .u8 s_0.1, .int .u8 s_0.2.1,sv s_0.2.2.1,sv s_0.2.2.2.1,sv s_0.2.2.2.2.1,sv s_0.2.2.2.2.2.1,sv s_0.2.2.2.2.2.2.1] ::F) _:=w9
   refine AA (x:=(o.1)) bd.at1 rfl ?_
   refine AA (x:=aj) bd.at1 rfl ?_
   refine AA (x:=(o.2.2.1)) bd.at1 rfl ?_
   refine AA (x:=(o.2.2.2)) bd.at1 rfl ?_
   refine Ac (vs:= [.string (o.1),sv aj, .string (o.2.2.1), .string (o.2.2.2)]) bd fun r84 b01 wa=> ?_
   have wb:=wa.at1
   obtain ⟨gr,gs,wc,gt⟩:=St.freezeRow (t:=aj) wb
   have wd:=St.cells gt
   have we:=gt.tail
   have wf:=we.at1
   obtain ⟨gu,wg,k⟩:=bS k
   refine Aq (r:=Bq) (ms:=([((o.1),o.2.1,(o.2.2.1),(o.2.2.2))] :List Dn)) IM wf rfl wd (.cons (a:= [_,_,_,_]) ⟨[_],_,rfl,rfl,⟨[_],_,rfl,⟨aj,rfl,wc⟩,⟨[_],_,rfl,rfl,rfl⟩⟩⟩ .nil) rfl wg ?_
   intro t85 b02 gv
   have b03:=gv.rowLen
   refine AJ gv.at4 rfl rfl fun b04 wh=> ?_
   have wi:=wh.at4
   have wj:=wi.at4
   have wk:=wj.at3
   have wl:=St.unro (r:=Ro.str) (cs:= [.string (d.2.2.2.1)]) (x:=(d.2.2.2.1)) wk rfl
   have wm:=St.unpair wl
   have wn:=wm.at1
   have wo:=St.unpair wn
   have wp:=St.unro (r:=(Ro.list B0)) (cs:= [.slice au.1 au.2.1 au.2.2]) (x:=d.2.1) wo ⟨au,rfl,(go.mono gs)⟩
   have wq:=St.unpair wp
   have wr:=wq.at1
   have ws:=St.unpair wr
   have wt:St gr (cO 66 (Rep.prod (Rep.row 94 Br) (Rep.prod (Rep.ro (Ro.list B0)) (Rep.prod (Rep.row 97 Bs) (Rep.prod (Rep.ro Ro.str) (Rep.row 90 Bq))))) (some ⟨r5,0,none⟩) (d.1,d.2.1,d.2.2.1,(d.2.2.2.1),gu)::cW 90 r55 [.string (o.1),sv aj, .string (o.2.2.1), .string (o.2.2.2)] ::cW 66 r2 [.slice none 0 0, .slice none 0 0, .slice none 0 0, .string ({data:= #[] }), .slice none 0 0] ::cW 25 r1 [.int .u8 s_0.1, .int .u8 s_0.2.1,sv s_0.2.2.1,sv s_0.2.2.2.1,sv s_0.2.2.2.2.1,sv s_0.2.2.2.2.2.1,sv s_0.2.2.2.2.2.2.1] ::F) _:=St.shut ws.at1
   have wu:=wt.at1.tail
   have wv:=wu.at2
   have ww:=wv.at2
   have wx:=ww.at2
   obtain rfl:=iS k
   exact Ar ((IntKind.wrap .i64 (z47.1+(1:Int))),()) _ rfl rfl ⟨gr,(d.1,d.2.1,d.2.2.1,(d.2.2.2.1),gu),(((ao.trans gc).trans vg).trans gs),fy,rfl,wx⟩
  ·rintro _ z47 b05 ⟨wy,wz,x0,rfl,rfl,gw⟩ x1
   refine AA (x:=s_0.2.2.1) gw.at2 rfl ?_
   refine Al (by rw [e3]; exact decide_eq_false (Int.not_lt.2 x1)) ?_
   have x2:=gw.at2
   have x3:=x2.at2
   have x4:=x3.at2
   exact AO (AS (z47.1,()) rfl ⟨wy,wz,x0,rfl,x4⟩)
 rintro z46 b06 ⟨dh,x5,x6,rfl,x7⟩
 try dsimp only at hd
 have x8:=x7.at2
 have x9:=x8.at2
 have xa:=x9.at2
 obtain ⟨xb,xc,hd⟩:=bS hd
 refine Ad (fun (y:Int×Unit) w_ g=> ∃ψ:AE,∃gx:DJ,Sub dh ψ∧gx=g∧St ψ (cO 66 (Rep.prod (Rep.row 94 Br) (Rep.prod (Rep.ro (Ro.list B0)) (Rep.prod (Rep.row 97 Bs) (Rep.prod (Rep.ro Ro.str) (Rep.row 90 Bq))))) (some ⟨r5,0,none⟩) gx::cW 66 r2 [.slice none 0 0, .slice none 0 0, .slice none 0 0, .string ({data:= #[] }), .slice none 0 0] ::cW 25 r1 [.int .u8 s_0.1, .int .u8 s_0.2.1,sv s_0.2.2.1,sv s_0.2.2.2.1,sv s_0.2.2.2.2.1,sv s_0.2.2.2.2.2.1,sv s_0.2.2.2.2.2.2.1] ::F) w_) (g:=xb) ?_ ?_
 ·refine D4 xc (fun xd (y:Int×Unit) w_ g=> ∃ψ:AE,∃gy:DJ,Sub dh ψ∧y.1=xd∧gy=g∧St ψ (cO 66 (Rep.prod (Rep.row 94 Br) (Rep.prod (Rep.ro (Ro.list B0)) (Rep.prod (Rep.row 97 Bs) (Rep.prod (Rep.ro Ro.str) (Rep.row 90 Bq))))) (some ⟨r5,0,none⟩) gy::cW 66 r2 [.slice none 0 0, .slice none 0 0, .slice none 0 0, .string ({data:= #[] }), .slice none 0 0] ::cW 25 r1 [.int .u8 s_0.1, .int .u8 s_0.2.1,sv s_0.2.2.1,sv s_0.2.2.2.1,sv s_0.2.2.2.2.1,sv s_0.2.2.2.2.2.1,sv s_0.2.2.2.2.2.2.1] ::F) w_) ((0:Int),()) rfl ⟨dh,x5,(Sub.refl _),rfl,rfl,xa⟩ ?_ ?_
  ·rintro _ z87 b07 _ _ ⟨di,e,xe,rfl,rfl,xf⟩ a3 xg gz h0
   try dsimp only at a3 xg gz h0
   refine Az (by exact decide_eq_true gz) ?_
   refine CP a3 id fun b08 a3=> ?_
   have xh:=xf.at2
   have xi:=xh.at2
   have xj:=xi.at2
   obtain ⟨xk,xl,a3⟩:=bS a3
   refine Ad (fun (y:Int×Bool×Unit) w_ g=> ∃ψ:AE,Sub di ψ∧y.2.1=g∧St ψ (cO 66 (Rep.prod (Rep.row 94 Br) (Rep.prod (Rep.ro (Ro.list B0)) (Rep.prod (Rep.row 97 Bs) (Rep.prod (Rep.ro Ro.str) (Rep.row 90 Bq))))) (some ⟨r5,0,none⟩) e::cW 66 r2 [.slice none 0 0, .slice none 0 0, .slice none 0 0, .string ({data:= #[] }), .slice none 0 0] ::cW 25 r1 [.int .u8 s_0.1, .int .u8 s_0.2.1,sv s_0.2.2.1,sv s_0.2.2.2.1,sv s_0.2.2.2.2.1,sv s_0.2.2.2.2.2.1,sv s_0.2.2.2.2.2.2.1] ::F) w_) (g:=xk) ?_ ?_
   ·refine FO xl (fun (y:Int×Bool×Unit) w_ g=> ∃ψ:AE,Sub di ψ∧(y.1,y.2.1)=g∧St ψ (cO 66 (Rep.prod (Rep.row 94 Br) (Rep.prod (Rep.ro (Ro.list B0)) (Rep.prod (Rep.row 97 Bs) (Rep.prod (Rep.ro Ro.str) (Rep.row 90 Bq))))) (some ⟨r5,0,none⟩) e::cW 66 r2 [.slice none 0 0, .slice none 0 0, .slice none 0 0, .string ({data:= #[] }), .slice none 0 0] ::cW 25 r1 [.int .u8 s_0.1, .int .u8 s_0.2.1,sv s_0.2.2.1,sv s_0.2.2.2.1,sv s_0.2.2.2.2.1,sv s_0.2.2.2.2.2.1,sv s_0.2.2.2.2.2.2.1] ::F) w_) ((0:Int),false,()) rfl ⟨di,(Sub.refl _),rfl,xj⟩ ?_
    ·rintro z89 b09 _ _ ⟨av,h1,rfl,xm⟩ a9 xn
     try dsimp only at a9
     obtain ⟨xo,b10,h2,b11,xp⟩:=xm.open
     obtain rfl:r5=xo:=by simpa using h2
     clear h2
     have xq:=xp.at1
     obtain ⟨b12,b13,rfl,b14,dj⟩:=xq.pair
     obtain ⟨c2,xr⟩:=dj.rowCs
     subst xr
     have b15:=dj.rowLen
     have xs:=dj.at1
     obtain ⟨b16,b17,rfl,b18,xt⟩:=xs.pair
     obtain ⟨xu,xv⟩:=xt.ro
     obtain ⟨a4,xw,dk⟩:=xu
     subst xw
     have b19:=dk.length
     obtain ⟨b20,b21,rfl,b22,dl⟩:=xv.pair
     obtain ⟨c3,xx⟩:=dl.rowCs
     subst xx
     have b23:=dl.rowLen
     have xy:=dl.at1
     obtain ⟨b24,b25,rfl,b26,xz⟩:=xy.pair
     obtain ⟨y0,dm⟩:=xz.ro
     subst y0
     obtain ⟨aw,y1⟩:=dm.rowCs
     subst y1
     have y2:=dm.rowLen
     have ax:St av (cR 90 Bq aw e.2.2.2.2::cR 97 Bs c3 e.2.2.1::cR 94 Br c2 e.1::cW 66 r5 [sv c2,sv a4,sv c3, .string (e.2.2.2.1),sv aw] ::cW 66 r2 [.slice none 0 0, .slice none 0 0, .slice none 0 0, .string ({data:= #[] }), .slice none 0 0] ::cW 25 r1 [.int .u8 s_0.1, .int .u8 s_0.2.1,sv s_0.2.2.1,sv s_0.2.2.2.1,sv s_0.2.2.2.2.1,sv s_0.2.2.2.2.2.1,sv s_0.2.2.2.2.2.2.1] ::F) _:=dm
     refine AA (x:=aw) ax.at3 rfl ?_
     refine AH a9 (by rw [y2] <;>rfl) (fun _ a9=> ?_) (fun _ a9=> ?_)
     ·obtain ⟨y3,ak,a9⟩:=bS a9
      refine Ak (fun (y:Bool×Unit) w_ g=> ∃ψ:AE,Sub av ψ∧y.1=g∧St ψ (cR 90 Bq aw e.2.2.2.2::cR 97 Bs c3 e.2.2.1::cR 94 Br c2 e.1::cW 66 r5 [sv c2,sv a4,sv c3, .string (e.2.2.2.1),sv aw] ::cW 66 r2 [.slice none 0 0, .slice none 0 0, .slice none 0 0, .string ({data:= #[] }), .slice none 0 0] ::cW 25 r1 [.int .u8 s_0.1, .int .u8 s_0.2.1,sv s_0.2.2.1,sv s_0.2.2.2.1,sv s_0.2.2.2.2.1,sv s_0.2.2.2.2.2.1,sv s_0.2.2.2.2.2.2.1] ::F) w_) (g:=y3) ?_ ?_
      ·refine AH ak rfl (fun _ ak=> ?_) (fun _ ak=> ?_)
       ·have y4:=ax.at5
        have y5:=y4.at5
        have y6:=y5.at5
        have y7:=y6.at5
        have y8:=y7.at5
        have y9:=y8.at5
        obtain rfl:=iS ak
        exact AN (true,()) rfl ⟨av,(Sub.refl _),rfl,y9⟩
       refine AA (x:=aw) ax.at3 rfl ?_
       obtain ⟨h3,ya,ak⟩:=bS ak
       obtain ⟨b27,b28,yb,yc,yd,ye⟩:=(ax).get ya
       refine AG _ yb (AZ yc ?_)
       obtain ⟨_,_,rfl,yf,yg⟩:=yd
       obtain rfl:=yf
       obtain ⟨_,_,rfl,yh,yi⟩:=yg
       obtain ⟨b29,rfl,yj⟩:=yh
       have b30:=yj.length
       obtain ⟨_,_,rfl,yk,yl⟩:=yi
       obtain rfl:=yk
       obtain rfl:=yl
       refine AL (x:=h3.1) (ye 0 _ rfl) rfl ?_
       have ym:=ax.at5
       have yn:=ym.at5
       have yo:=yn.at5
       have yp:=yo.at5
       have yq:=yp.at5
       have yr:=yq.at5
       obtain rfl:=iS ak
       exact AN ((ByteArray.toList h3.1==ByteArray.toList (ByteArray.extract {data:= #[83,84,85,86] } (Int.toNat z87.1) (Int.toNat (IntKind.wrap .i64 (z87.1+(1:Int)))))),()) rfl ⟨av,(Sub.refl _),rfl,yr⟩
      rintro z91 b31 ⟨h4,h5,rfl,ys⟩
      try dsimp only at a9
      have yt:=ys.at2
      have yu:=yt.at2
      have yv:=yu.at2
      have yw:=St.unro (r:=Ro.str) (cs:= [.string (e.2.2.2.1)]) (x:=(e.2.2.2.1)) yv rfl
      have yx:=St.unpair yw
      have yy:=yx.at1
      have yz:=St.unpair yy
      have z0:=St.unro (r:=(Ro.list B0)) (cs:= [.slice a4.1 a4.2.1 a4.2.2]) (x:=e.2.1) yz ⟨a4,rfl,(dk.mono h5)⟩
      have z1:=St.unpair z0
      have z2:=z1.at1
      have z3:=St.unpair z2
      have z4:St h4 (cO 66 (Rep.prod (Rep.row 94 Br) (Rep.prod (Rep.ro (Ro.list B0)) (Rep.prod (Rep.row 97 Bs) (Rep.prod (Rep.ro Ro.str) (Rep.row 90 Bq))))) (some ⟨r5,0,none⟩) (e.1,e.2.1,e.2.2.1,(e.2.2.2.1),e.2.2.2.2)::cW 66 r2 [.slice none 0 0, .slice none 0 0, .slice none 0 0, .string ({data:= #[] }), .slice none 0 0] ::cW 25 r1 [.int .u8 s_0.1, .int .u8 s_0.2.1,sv s_0.2.2.1,sv s_0.2.2.2.1,sv s_0.2.2.2.2.1,sv s_0.2.2.2.2.2.1,sv s_0.2.2.2.2.2.2.1] ::F) _:=St.shut z3.at1
      have z5:=z4.at2
      have z8:=z5.at2
      have z9:=z8.at2
      obtain rfl:=iS a9
      exact Ar ((IntKind.wrap .i64 (z89.1+(1:Int))),z91.1,()) _ rfl rfl ⟨h4,(h1.trans h5),rfl,z9⟩
     have za:=ax.at2
     have zb:=za.at2
     have zc:=zb.at2
     have zd:=St.unro (r:=Ro.str) (cs:= [.string (e.2.2.2.1)]) (x:=(e.2.2.2.1)) zc rfl
     have ze:=St.unpair zd
     have zf:=ze.at1
     have zg:=St.unpair zf
     have zh:=St.unro (r:=(Ro.list B0)) (cs:= [.slice a4.1 a4.2.1 a4.2.2]) (x:=e.2.1) zg ⟨a4,rfl,dk⟩
     have zi:=St.unpair zh
     have zj:=zi.at1
     have zk:=St.unpair zj
     have zl:St av (cO 66 (Rep.prod (Rep.row 94 Br) (Rep.prod (Rep.ro (Ro.list B0)) (Rep.prod (Rep.row 97 Bs) (Rep.prod (Rep.ro Ro.str) (Rep.row 90 Bq))))) (some ⟨r5,0,none⟩) (e.1,e.2.1,e.2.2.1,(e.2.2.2.1),e.2.2.2.2)::cW 66 r2 [.slice none 0 0, .slice none 0 0, .slice none 0 0, .string ({data:= #[] }), .slice none 0 0] ::cW 25 r1 [.int .u8 s_0.1, .int .u8 s_0.2.1,sv s_0.2.2.1,sv s_0.2.2.2.1,sv s_0.2.2.2.2.1,sv s_0.2.2.2.2.2.1,sv s_0.2.2.2.2.2.2.1] ::F) _:=St.shut zk.at1
     have zm:=zl.at2
     have zn:=zm.at2
     have zo:=zn.at2
     obtain rfl:=iS a9
     obtain rfl:=xn _ rfl
     exact AO (AS (z89.1,z89.2.1,()) rfl ⟨av,h1,rfl,zo⟩)
   rintro z88 b32 ⟨be,zp,rfl,h6⟩
   try dsimp only at a3
   obtain ⟨zq,al,a3⟩:=bS a3
   refine Ak (fun (y:Unit) w_ g=> ∃ψ:AE,∃h7:DJ,Sub be ψ∧h7=g∧St ψ (cO 66 (Rep.prod (Rep.row 94 Br) (Rep.prod (Rep.ro (Ro.list B0)) (Rep.prod (Rep.row 97 Bs) (Rep.prod (Rep.ro Ro.str) (Rep.row 90 Bq))))) (some ⟨r5,0,none⟩) h7::cW 66 r2 [.slice none 0 0, .slice none 0 0, .slice none 0 0, .string ({data:= #[] }), .slice none 0 0] ::cW 25 r1 [.int .u8 s_0.1, .int .u8 s_0.2.1,sv s_0.2.2.1,sv s_0.2.2.2.1,sv s_0.2.2.2.2.1,sv s_0.2.2.2.2.2.1,sv s_0.2.2.2.2.2.2.1] ::F) w_) (g:=zq) ?_ ?_
   ·refine AH al rfl (fun _ al=> ?_) (fun _ al=> ?_)
    ·obtain ⟨zr,b33,h8,b34,zs⟩:=h6.open
     obtain rfl:r5=zr:=by simpa using h8
     clear h8
     have zt:=zs.at1
     obtain ⟨b35,b36,rfl,b37,dn⟩:=zt.pair
     obtain ⟨h9,zu⟩:=dn.rowCs
     subst zu
     have b38:=dn.rowLen
     have zv:=dn.at1
     obtain ⟨b39,b40,rfl,b41,zw⟩:=zv.pair
     obtain ⟨zx,zy⟩:=zw.ro
     obtain ⟨bf,zz,hb⟩:=zx
     subst zz
     have b42:=hb.length
     obtain ⟨b43,b44,rfl,b45,dp⟩:=zy.pair
     obtain ⟨hc,a00⟩:=dp.rowCs
     subst a00
     have b46:=dp.rowLen
     have a01:=dp.at1
     obtain ⟨b47,b48,rfl,b49,a02⟩:=a01.pair
     obtain ⟨a03,dq⟩:=a02.ro
     subst a03
     obtain ⟨dr,a04⟩:=dq.rowCs
     subst a04
     have b50:=dq.rowLen
     have he:St be (cR 90 Bq dr e.2.2.2.2::cR 97 Bs hc e.2.2.1::cR 94 Br h9 e.1::cW 66 r5 [sv h9,sv bf,sv hc, .string (e.2.2.2.1),sv dr] ::cW 66 r2 [.slice none 0 0, .slice none 0 0, .slice none 0 0, .string ({data:= #[] }), .slice none 0 0] ::cW 25 r1 [.int .u8 s_0.1, .int .u8 s_0.2.1,sv s_0.2.2.1,sv s_0.2.2.2.1,sv s_0.2.2.2.2.1,sv s_0.2.2.2.2.2.1,sv s_0.2.2.2.2.2.2.1] ::F) _:=dq
     refine AA (x:=dr) he.at3 rfl ?_
     refine Ac (vs:= [.string (ByteArray.extract {data:= #[83,84,85,86] } (Int.toNat z87.1) (Int.toNat (IntKind.wrap .i64 (z87.1+(1:Int))))), .slice none 0 0, .string ({data:= #[] }), .string ({data:= #[] })]) he fun r97 b51 hf=> ?_
     have a05:=St.cells hf
     have a06:=hf.tail
     obtain ⟨hg,a07,al⟩:=bS al
     refine Aq (r:=Bq) (ms:=([((ByteArray.extract {data:= #[83,84,85,86] } (Int.toNat z87.1) (Int.toNat (IntKind.wrap .i64 (z87.1+(1:Int))))),([] :List ByteArray),{data:= #[] },{data:= #[] })] :List Dn)) IM a06 rfl a05 (.cons (a:= [_,_,_,_]) ⟨[_],_,rfl,rfl,⟨[_],_,rfl,⟨((none,0,0):Slc),rfl,Ro.SliceIs.nil _ _⟩,⟨[_],_,rfl,rfl,rfl⟩⟩⟩ .nil) rfl a07 ?_
     intro t98 b52 hh
     have b53:=hh.rowLen
     refine AJ hh.at3 rfl rfl fun b54 a08=> ?_
     have a09:=a08.at3
     have a10:=a09.at3
     have a11:=a10.at3
     have a12:=St.unro (r:=Ro.str) (cs:= [.string (e.2.2.2.1)]) (x:=(e.2.2.2.1)) a11 rfl
     have a13:=St.unpair a12
     have a14:=a13.at1
     have a15:=St.unpair a14
     have a16:=St.unro (r:=(Ro.list B0)) (cs:= [.slice bf.1 bf.2.1 bf.2.2]) (x:=e.2.1) a15 ⟨bf,rfl,hb⟩
     have a17:=St.unpair a16
     have a18:=a17.at1
     have a19:=St.unpair a18
     have a20:St be (cO 66 (Rep.prod (Rep.row 94 Br) (Rep.prod (Rep.ro (Ro.list B0)) (Rep.prod (Rep.row 97 Bs) (Rep.prod (Rep.ro Ro.str) (Rep.row 90 Bq))))) (some ⟨r5,0,none⟩) (e.1,e.2.1,e.2.2.1,(e.2.2.2.1),hg)::cW 66 r2 [.slice none 0 0, .slice none 0 0, .slice none 0 0, .string ({data:= #[] }), .slice none 0 0] ::cW 25 r1 [.int .u8 s_0.1, .int .u8 s_0.2.1,sv s_0.2.2.1,sv s_0.2.2.2.1,sv s_0.2.2.2.2.1,sv s_0.2.2.2.2.2.1,sv s_0.2.2.2.2.2.2.1] ::F) _:=St.shut a19.at1
     have a21:=a20.at2
     have a22:=a21.at2
     have a23:=a22.at2
     obtain rfl:=iS al
     exact AN (()) rfl ⟨be,(e.1,e.2.1,e.2.2.1,(e.2.2.2.1),hg),(Sub.refl _),rfl,a23⟩
    have a24:=h6.at2
    have a25:=a24.at2
    have a26:=a25.at2
    obtain rfl:=iS al
    exact AN (()) rfl ⟨be,e,(Sub.refl _),rfl,a26⟩
   rintro z95 b55 ⟨a27,a28,a29,rfl,a30⟩
   try dsimp only at a3
   have a31:=a30.at2
   have a32:=a31.at2
   have a33:=a32.at2
   obtain rfl:=iS a3
   exact Ar ((IntKind.wrap .i64 (z87.1+(1:Int))),()) _ rfl rfl ⟨a27,a28,((xe.trans zp).trans a29),h0,rfl,a33⟩
  ·rintro _ z87 b56 ⟨a34,a35,a36,rfl,rfl,a37⟩ a38
   refine Al (by exact decide_eq_false (Int.not_lt.2 a38)) ?_
   have a39:=a37.at2
   have a40:=a39.at2
   have a41:=a40.at2
   exact AO (AS (z87.1,()) rfl ⟨a34,a35,a36,rfl,a41⟩)
 rintro z86 b57 ⟨a42,a1,a43,rfl,a44⟩
 try dsimp only at hd
 obtain ⟨a45,b58,hi,b59,a46⟩:=a44.open
 obtain rfl:r5=a45:=by simpa using hi
 clear hi
 have a47:=a46.at1
 obtain ⟨b60,b61,rfl,b62,ds⟩:=a47.pair
 obtain ⟨ay,a48⟩:=ds.rowCs
 subst a48
 have b63:=ds.rowLen
 have a49:=ds.at1
 obtain ⟨b64,b65,rfl,b66,a50⟩:=a49.pair
 obtain ⟨a51,a52⟩:=a50.ro
 obtain ⟨c4,a53,hj⟩:=a51
 subst a53
 have b67:=hj.length
 obtain ⟨b68,b69,rfl,b70,dt⟩:=a52.pair
 obtain ⟨az,a54⟩:=dt.rowCs
 subst a54
 have b71:=dt.rowLen
 have a55:=dt.at1
 obtain ⟨b72,b73,rfl,b74,a56⟩:=a55.pair
 obtain ⟨a57,du⟩:=a56.ro
 subst a57
 obtain ⟨b0,a58⟩:=du.rowCs
 subst a58
 have b75:=du.rowLen
 have b1:St a42 (cR 90 Bq b0 a1.2.2.2.2::cR 97 Bs az a1.2.2.1::cR 94 Br ay a1.1::cW 66 r5 [sv ay,sv c4,sv az, .string (a1.2.2.2.1),sv b0] ::cW 66 r2 [.slice none 0 0, .slice none 0 0, .slice none 0 0, .string ({data:= #[] }), .slice none 0 0] ::cW 25 r1 [.int .u8 s_0.1, .int .u8 s_0.2.1,sv s_0.2.2.1,sv s_0.2.2.2.1,sv s_0.2.2.2.2.1,sv s_0.2.2.2.2.2.1,sv s_0.2.2.2.2.2.2.1] ::F) _:=du
 refine AA (x:=ay) b1.at3 rfl ?_
 refine AA (x:=c4) b1.at3 rfl ?_
 refine AA (x:=az) b1.at3 rfl ?_
 refine AA (x:=(a1.2.2.2.1)) b1.at3 rfl ?_
 refine AA (x:=b0) b1.at3 rfl ?_
 refine AJ b1.at4 rfl rfl fun b76 a59=> ?_
 refine AJ a59 rfl rfl fun b77 a60=> ?_
 refine AJ a60 rfl rfl fun b78 a61=> ?_
 refine AJ a61 rfl rfl fun b79 a62=> ?_
 refine AJ a62 rfl rfl fun b80 b2=> ?_
 refine AA (x:=ay) b2 rfl ?_
 refine AA (x:=c4) b2 rfl ?_
 refine AA (x:=az) b2 rfl ?_
 refine AA (x:=(a1.2.2.2.1)) b2 rfl ?_
 refine AA (x:=b0) b2 rfl ?_
 have a63:=b2.at3
 obtain ⟨b81,hk,a64,a65⟩:=St.freezeRow (t:=ay) a63
 have a66:=a65.at2
 obtain ⟨b82,dv,a67,a68⟩:=St.freezeRow (t:=az) a66
 have a69:=a68.at1
 obtain ⟨a70,c5,a71,a72⟩:=St.freezeRow (t:=b0) a69
 obtain rfl:=iS hd
 have a73:=a72.tail
 have a74:=a73.tail
 have a75:=a74.tail
 exact AC ⟨a70,(ay,c4,az,(a1.2.2.2.1),b0,()),a1.1,a1.2.1,a1.2.2.1,a1.2.2.2.2,((((((ag.trans am).trans x6).trans a43).trans hk).trans dv).trans c5),rfl,rfl,(a64.mono (dv.trans c5)),(hj.mono ((hk.trans dv).trans c5)),(a67.mono c5),a71,a75⟩
theorem KS:G6 Tryd.prog 29 29 47 3:=⟨Tryd.underlying29, .inl Tryd.underlying29,⟨Tryd.t47,by kernel_rfl,rfl,⟨_,rfl,rfl⟩,by decide,by decide⟩,by decide⟩
noncomputable def CH (g_0:DJ):Option (List ByteArray×List ByteArray×List Bu×List Int×List Int×List ByteArray×Int×ByteArray):=
 (Bt (g_0.1,g_0.2.1,g_0.2.2.1,g_0.2.2.2.1,g_0.2.2.2.2)).bind fun t8=>
 cond (!t8)
 (some (([] :List ByteArray),([] :List ByteArray),([] :List Bu),([] :List Int),([] :List Int),([] :List ByteArray),(1:Int),{data:= #[] }))
 ((Fe (σ:=Au) (0:Int) (((List.length g_0.2.2.2.2):Nat):Int) (([{data:= #[36,101,110,100] }] :List ByteArray),([] :List ByteArray),([] :List Bu),([(0:Int)] :List Int),([(0:Int)] :List Int),([{data:= #[] }] :List ByteArray)) fun i_z21 z21=>
  (idx g_0.2.2.2.2 i_z21).bind fun e155=>
  (Ai z21.2.1 e155.1).bind fun t27=>
  (cond (decide (t27< (0:Int)))
  ((idx g_0.2.2.2.2 i_z21).bind fun e251=>
   (app (z21.1,z21.2.1,z21.2.2.1,z21.2.2.2.1,z21.2.2.2.2.1,z21.2.2.2.2.2).2.1 ([e251.1] :List ByteArray)).bind fun t34=>
   some ((z21.1,z21.2.1,z21.2.2.1,z21.2.2.2.1,z21.2.2.2.2.1,z21.2.2.2.2.2).1,t34,(z21.1,z21.2.1,z21.2.2.1,z21.2.2.2.1,z21.2.2.2.2.1,z21.2.2.2.2.2).2.2.1,(z21.1,z21.2.1,z21.2.2.1,z21.2.2.2.1,z21.2.2.2.2.1,z21.2.2.2.2.2).2.2.2.1,(z21.1,z21.2.1,z21.2.2.1,z21.2.2.2.1,z21.2.2.2.2.1,z21.2.2.2.2.2).2.2.2.2.1,(z21.1,z21.2.1,z21.2.2.1,z21.2.2.2.1,z21.2.2.2.2.1,z21.2.2.2.2.2).2.2.2.2.2))
  (some (z21.1,z21.2.1,z21.2.2.1,z21.2.2.2.1,z21.2.2.2.2.1,z21.2.2.2.2.2))).bind fun z28=>
  (idx g_0.2.2.2.2 i_z21).bind fun e362=>
  (app z28.2.2.2.2.2 ([e362.2.2.2] :List ByteArray)).bind fun t40=>
  some (z28.1,z28.2.1,z28.2.2.1,z28.2.2.2.1,z28.2.2.2.2.1,t40)).bind fun z20=>
  (CI (σ:=(Au×Au)) (β:=(List ByteArray×List ByteArray×List Bu×List Int×List Int×List ByteArray×Int×ByteArray)) (0:Int) (((List.length g_0.1):Nat):Int) ((([] :List ByteArray),([] :List ByteArray),([] :List Bu),([] :List Int),([] :List Int),([] :List ByteArray)),z20) fun i_z42 z42=>
   (idx g_0.1 i_z42).bind fun e519=>
   (Ai z42.2.2.1 e519.1).bind fun t48=>
   cond (decide (t48≥ (0:Int)))
   ((idx g_0.1 i_z42).bind fun e541=>
    some (AR.done (([] :List ByteArray),([] :List ByteArray),([] :List Bu),([] :List Int),([] :List Int),([] :List ByteArray),(15:Int),e541.1)))
   ((idx g_0.1 i_z42).bind fun e633=>
    (app z42.2.1 ([e633.1] :List ByteArray)).bind fun t63=>
    (idx g_0.1 i_z42).bind fun e661=>
    (BX (g_0.1,g_0.2.1,g_0.2.2.1,g_0.2.2.2.1,g_0.2.2.2.2) e661.1).bind fun t73=>
    (app z42.2.2.2.2.1 ([t73] :List Int)).bind fun t75=>
    some (AR.next (z42.1,(t63,z42.2.2.1,z42.2.2.2.1,t75,z42.2.2.2.2.2.1,z42.2.2.2.2.2.2))))).bind fun e_z41=>match e_z41 with
  | .next z41=>
   (Fe (σ:=Au) (0:Int) (((List.length g_0.2.2.1):Nat):Int) z41.2 fun i_z77 z77=>
    (idx g_0.2.2.1 i_z77).bind fun e803=>
    (app z77.2.2.2.2.1 ([e803.1] :List Int)).bind fun t84=>
    some (z77.1,z77.2.1,z77.2.2.1,z77.2.2.2.1,t84,z77.2.2.2.2.2)).bind fun z76=>
   (A5 (z76.1,z76.2.1) g_0.2.2.2.1).bind fun t94=>
   (CI (σ:=(Au×Au)) (β:=(List ByteArray×List ByteArray×List Bu×List Int×List Int×List ByteArray×Int×ByteArray)) (0:Int) (((List.length g_0.2.2.2.2):Nat):Int) (z41.1,(z76.1,z76.2.1,([((IntKind.wrap .i64 ((((List.length z76.1):Nat):Int) +(((List.length z76.2.1):Nat):Int))),([t94] :List Int),(0:Int))] :List Bu),z76.2.2.2.1,z76.2.2.2.2.1,z76.2.2.2.2.2)) fun i_z98 z98=>
    (idx g_0.2.2.2.2 i_z98).bind fun e977=>
    (A5 (z98.2.1,z98.2.2.1) e977.1).bind fun t114=>
    (CI (σ:=(Au×Bu)) (β:=(List ByteArray×List ByteArray×List Bu×List Int×List Int×List ByteArray×Int×ByteArray)) (0:Int) (((List.length e977.2.1):Nat):Int) (z98.1,(t114,([] :List Int),(0:Int))) fun i_z117 z117=>
     (idx e977.2.1 i_z117).bind fun e1109=>
     (A5 (z98.2.1,z98.2.2.1) e1109).bind fun t128=>
     cond (decide (t128< (0:Int)))
     ((idx e977.2.1 i_z117).bind fun e1127=>
      some (AR.done (([] :List ByteArray),([] :List ByteArray),([] :List Bu),([] :List Int),([] :List Int),([] :List ByteArray),(16:Int),e1127)))
     ((app z117.2.2.1 ([t128] :List Int)).bind fun t140=>
      (cond (decide (t128< (((List.length z98.2.1):Nat):Int)))
      ((idx z98.2.2.2.2.1 t128).bind fun e1264=>
       some ((((z117.2.1),t140,(z117.2.2.2)).1),((z117.2.1),t140,(z117.2.2.2)).2.1,e1264))
      (some ((z117.2.1),t140,(z117.2.2.2)))).bind fun z142=>
      some (AR.next (z117.1,z142)))).bind fun e_z116=>match e_z116 with
    | .next z116=>
     ((cond (!(ByteArray.toList e977.2.2.1==ByteArray.toList {data:= #[] }))
     ((BX (g_0.1,g_0.2.1,g_0.2.2.1,g_0.2.2.2.1,g_0.2.2.2.2) e977.2.2.1).bind fun t154=>
      cond (t154==(0:Int))
      (some (AR.done (([] :List ByteArray),([] :List ByteArray),([] :List Bu),([] :List Int),([] :List Int),([] :List ByteArray),(16:Int),e977.2.2.1)))
      (some (AR.next (((z116.2.1),z116.2.2.1,t154),z116.1))))
     (some (AR.next (z116.2,z116.1)))):Option (AR (Bu×Au) (List ByteArray×List ByteArray×List Bu×List Int×List Int×List ByteArray×Int×ByteArray))).bind fun e_z147=>match e_z147 with
     | .next z147=>
      (app z98.2.2.2.1 ([((z147.1.1),z147.1.2.1,(z147.1.2.2))] :List Bu)).bind fun t168=>
      some (AR.next (z147.2,(z98.2.1,z98.2.2.1,t168,z98.2.2.2.2.1,z98.2.2.2.2.2.1,z98.2.2.2.2.2.2)))
     | .done q1593=>some (AR.done q1593)
    | .done q1594=>some (AR.done q1594)).bind fun e_z97=>match e_z97 with
   | .next z97=>
    (Ai z97.2.2.1 g_0.2.2.2.1).bind fun t171=>
    cond (decide (t171< (0:Int)))
    (some (([] :List ByteArray),([] :List ByteArray),([] :List Bu),([] :List Int),([] :List Int),([] :List ByteArray),(16:Int),g_0.2.2.2.1))
    (some (z97.2.1,z97.2.2.1,z97.2.2.2.1,z97.2.2.2.2.1,z97.2.2.2.2.2.1,z97.2.2.2.2.2.2,(0:Int),{data:= #[] }))
   | .done q1852=>some q1852
  | .done q1853=>some q1853)
set_option maxHeartbeats 4000000 in
theorem Gc {φ:AE} {h:AF} {F:List Chk} {g_0:(Option Addr×Nat×Nat)×(Option Addr×Nat×Nat)×(Option Addr×Nat×Nat)×ByteArray×(Option Addr×Nat×Nat)×Unit} {cp:List Gu} {cq:List HT} {cr:List FP} {ct:List Dn} (b7:Ro.SliceIs Br φ g_0.1 cp) (c0:Ro.SliceIs B0 φ g_0.2.1 cq) (bs:Ro.SliceIs Bs φ g_0.2.2.1 cr) (b8:Ro.SliceIs Bq φ g_0.2.2.2.2.1 ct) (s0:St φ (F) h) {r:(List ByteArray×List ByteArray×List Bu×List Int×List Int×List ByteArray×Int×ByteArray)} (hd:CH (cp,cq,cr,g_0.2.2.2.1,ct)=some r):
 CallsH Tryd.prog 24 [(.agg #[(.slice g_0.1.1 g_0.1.2.1 g_0.1.2.2),(.slice g_0.2.1.1 g_0.2.1.2.1 g_0.2.1.2.2),(.slice g_0.2.2.1.1 g_0.2.2.1.2.1 g_0.2.2.1.2.2),(.string g_0.2.2.2.1),(.slice g_0.2.2.2.2.1.1 g_0.2.2.2.2.1.2.1 g_0.2.2.2.2.1.2.2)])] h (BO fun v h'=> ∃ψ:AE,∃y:((Option Addr×Nat×Nat)×(Option Addr×Nat×Nat)×(Option Addr×Nat×Nat)×(Option Addr×Nat×Nat)×(Option Addr×Nat×Nat)×(Option Addr×Nat×Nat)×Unit)×Int×ByteArray×Unit,∃fv:List ByteArray,∃fw:List ByteArray,∃fx:List Bu,∃fy:List Int,∃fz:List Int,∃g0:List ByteArray,Sub φ ψ∧v=((.tuple [(.agg [.slice, .slice, .slice, .slice, .slice, .slice]),(.atom (.int .i64)),(.atom .string)]):Sh).val y∧(fv,fw,fx,fy,fz,g0,y.2.1,y.2.2.1)=r∧Ro.SliceIs Ro.str ψ y.1.1 fv∧Ro.SliceIs Ro.str ψ y.1.2.1 fw∧Ro.SliceIs Aj ψ y.1.2.2.1 fx∧Ro.SliceIs (Ro.int .i64) ψ y.1.2.2.2.1 fy∧Ro.SliceIs (Ro.int .i64) ψ y.1.2.2.2.2.1 fz∧Ro.SliceIs Ro.str ψ y.1.2.2.2.2.2.1 g0∧St ψ (F) h'):=by
 refine Aa mixed Tryd.func24 ?_
 rw [Gb]
 unfold En
 unfold CH at hd
 have g1:g_0.1.2.1=List.length cp:=b7.length
 have b27:g_0.2.1.2.1=List.length cq:=c0.length
 have g2:g_0.2.2.1.2.1=List.length cr:=bs.length
 have c1:g_0.2.2.2.2.1.2.1=List.length ct:=b8.length
 refine Ac (vs:= [sv g_0.1,sv g_0.2.1,sv g_0.2.2.1, .string g_0.2.2.2.1,sv g_0.2.2.2.2.1]) s0 fun r1 b28 k9=> ?_
 refine Ac (vs:= [.slice none 0 0, .slice none 0 0, .slice none 0 0, .slice none 0 0, .slice none 0 0, .slice none 0 0]) k9 fun r2 b29 bl=> ?_
 refine AA (x:=g_0.1) bl.at1 rfl ?_
 refine AA (x:=g_0.2.1) bl.at1 rfl ?_
 refine AA (x:=g_0.2.2.1) bl.at1 rfl ?_
 refine AA (x:=g_0.2.2.2.1) bl.at1 rfl ?_
 refine AA (x:=g_0.2.2.2.2.1) bl.at1 rfl ?_
 obtain ⟨b30,ka,hd⟩:=bS hd
 refine AK (FZ (g_0:=(g_0.1,g_0.2.1,g_0.2.2.1,g_0.2.2.2.1,g_0.2.2.2.2.1,())) b7 c0 bs b8 bl ka) ?_
 rintro _ b31 ⟨ae,t8,w,rfl,rfl,g3⟩
 refine ⟨t8,rfl,?_⟩
 refine AH hd rfl (fun _ hd=> ?_) (fun _ hd=> ?_)
 ·refine AJ g3 rfl rfl fun b32 kb=> ?_
  refine AJ kb rfl rfl fun b33 kc=> ?_
  refine AJ kc rfl rfl fun b34 kd=> ?_
  refine AJ kd rfl rfl fun b35 ke=> ?_
  refine AJ ke rfl rfl fun b36 kf=> ?_
  refine AJ kf rfl rfl fun b37 be=> ?_
  refine AA (x:=((none,0,0):Slc)) be rfl ?_
  refine AA (x:=((none,0,0):Slc)) be rfl ?_
  refine AA (x:=((none,0,0):Slc)) be rfl ?_
  refine AA (x:=((none,0,0):Slc)) be rfl ?_
  refine AA (x:=((none,0,0):Slc)) be rfl ?_
  refine AA (x:=((none,0,0):Slc)) be rfl ?_
  obtain rfl:=iS hd
  have kg:=be.tail
  have kh:=kg.tail
  exact AC ⟨ae,((((none,0,0):Slc),((none,0,0):Slc),((none,0,0):Slc),((none,0,0):Slc),((none,0,0):Slc),((none,0,0):Slc),()),(1:Int),{data:= #[] },()),([] :List ByteArray),([] :List ByteArray),([] :List Bu),([] :List Int),([] :List Int),([] :List ByteArray),w,rfl,rfl,(Ro.SliceIs.nil Ro.str ae),(Ro.SliceIs.nil Ro.str ae),(Ro.SliceIs.nil Aj ae),(Ro.SliceIs.nil (Ro.int .i64) ae),(Ro.SliceIs.nil (Ro.int .i64) ae),(Ro.SliceIs.nil Ro.str ae),kh⟩
 refine Ac (vs:= [.string ({data:= #[36,101,110,100] })]) g3 fun r15 b38 ki=> ?_
 refine Ac (vs:= [.int .i64 (0:Int)]) ki fun r16 b39 kj=> ?_
 refine Ac (vs:= [.int .i64 (0:Int)]) kj fun r17 b40 kk=> ?_
 refine Ac (vs:= [.string ({data:= #[] })]) kk fun r18 b41 kl=> ?_
 refine Ac (vs:= [.slice none 0 0, .slice none 0 0, .slice none 0 0, .slice none 0 0, .slice none 0 0, .slice none 0 0]) kl fun r19 b42 km=> ?_
 refine AJ km rfl rfl fun b43 kn=> ?_
 refine AJ kn rfl rfl fun b44 ko=> ?_
 refine AJ ko rfl rfl fun b45 kp=> ?_
 refine AJ kp rfl rfl fun b46 kq=> ?_
 refine AJ kq rfl rfl fun b47 kr=> ?_
 refine AJ kr rfl rfl fun b48 ks=> ?_
 have kt:=St.lit (r:=Ro.str) (l:=([{data:= #[36,101,110,100] }] :List ByteArray)) (n:=1) ks.at4 (.cons (a:= [_]) rfl .nil) rfl (by decide)
 have ku:=kt.nil 9 Ro.str
 have kv:=ku.nil 47 Aj
 have kw:=St.lit (r:=(Ro.int .i64)) (l:=([(0:Int)] :List Int)) (n:=1) kv.at6 (.cons (a:= [_]) rfl .nil) rfl (by decide)
 have kx:=St.lit (r:=(Ro.int .i64)) (l:=([(0:Int)] :List Int)) (n:=1) kw.at6 (.cons (a:= [_]) rfl .nil) rfl (by decide)
 have ky:=St.lit (r:=Ro.str) (l:=([{data:= #[] }] :List ByteArray)) (n:=1) kx.at6 (.cons (a:= [_]) rfl .nil) rfl (by decide)
 have kz:=ky.at1
 have l0:=St.unpair kz
 have l1:=l0.at1
 have l2:=St.unpair l1
 have l3:=l2.at1
 have l4:=St.unpair l3
 have l5:=l4.at1
 have l6:=St.unpair l5
 have l7:=l6.at1
 have l8:=St.unpair l7
 have l9:St ae (cO 32 (Rep.prod (Rep.row 9 Ro.str) (Rep.prod (Rep.row 9 Ro.str) (Rep.prod (Rep.row 47 Aj) (Rep.prod (Rep.row 3 (Ro.int .i64)) (Rep.prod (Rep.row 3 (Ro.int .i64)) (Rep.row 9 Ro.str)))))) (some ⟨r19,0,none⟩) (([{data:= #[36,101,110,100] }] :List ByteArray),([] :List ByteArray),([] :List Bu),([(0:Int)] :List Int),([(0:Int)] :List Int),([{data:= #[] }] :List ByteArray))::cW 32 r2 [.slice none 0 0, .slice none 0 0, .slice none 0 0, .slice none 0 0, .slice none 0 0, .slice none 0 0] ::cW 66 r1 [sv g_0.1,sv g_0.2.1,sv g_0.2.2.1, .string g_0.2.2.2.1,sv g_0.2.2.2.2.1] ::F) _:=St.shut l8.at1
 have la:=l9.at2
 have lb:=la.at2
 have lc:=lb.at2
 obtain ⟨ld,le,hd⟩:=bS hd
 refine Ad (fun (y:Int×Unit) w_ g=> ∃ψ:AE,∃g4:Au,Sub ae ψ∧g4=g∧St ψ (cO 32 (Rep.prod (Rep.row 9 Ro.str) (Rep.prod (Rep.row 9 Ro.str) (Rep.prod (Rep.row 47 Aj) (Rep.prod (Rep.row 3 (Ro.int .i64)) (Rep.prod (Rep.row 3 (Ro.int .i64)) (Rep.row 9 Ro.str)))))) (some ⟨r19,0,none⟩) g4::cW 32 r2 [.slice none 0 0, .slice none 0 0, .slice none 0 0, .slice none 0 0, .slice none 0 0, .slice none 0 0] ::cW 66 r1 [sv g_0.1,sv g_0.2.1,sv g_0.2.2.1, .string g_0.2.2.2.1,sv g_0.2.2.2.2.1] ::F) w_) (g:=ld) ?_ ?_
 ·refine D4 le (fun lf (y:Int×Unit) w_ g=> ∃ψ:AE,∃g5:Au,Sub ae ψ∧y.1=lf∧g5=g∧St ψ (cO 32 (Rep.prod (Rep.row 9 Ro.str) (Rep.prod (Rep.row 9 Ro.str) (Rep.prod (Rep.row 47 Aj) (Rep.prod (Rep.row 3 (Ro.int .i64)) (Rep.prod (Rep.row 3 (Ro.int .i64)) (Rep.row 9 Ro.str)))))) (some ⟨r19,0,none⟩) g5::cW 32 r2 [.slice none 0 0, .slice none 0 0, .slice none 0 0, .slice none 0 0, .slice none 0 0, .slice none 0 0] ::cW 66 r1 [sv g_0.1,sv g_0.2.1,sv g_0.2.2.1, .string g_0.2.2.2.1,sv g_0.2.2.2.2.1] ::F) w_) ((0:Int),()) rfl ⟨ae,(([{data:= #[36,101,110,100] }] :List ByteArray),([] :List ByteArray),([] :List Bu),([(0:Int)] :List Int),([(0:Int)] :List Int),([{data:= #[] }] :List ByteArray)),(Sub.refl _),rfl,rfl,lc⟩ ?_ ?_
  ·rintro _ z21 b49 _ _ ⟨lg,m,c2,rfl,rfl,g6⟩ a9 lh g7 g8
   try dsimp only at a9 lh g7 g8
   refine AA (x:=g_0.2.2.2.2.1) g6.at2 rfl ?_
   refine Az (by rw [c1]; exact decide_eq_true g7) ?_
   obtain ⟨li,b50,g9,b51,lj⟩:=g6.open
   obtain rfl:r19=li:=by simpa using g9
   clear g9
   have lk:=lj.at1
   obtain ⟨b52,b53,rfl,b54,cu⟩:=lk.pair
   obtain ⟨ga,ll⟩:=cu.rowCs
   subst ll
   have b55:=cu.rowLen
   have lm:=cu.at1
   obtain ⟨b56,b57,rfl,b58,cv⟩:=lm.pair
   obtain ⟨cw,ln⟩:=cv.rowCs
   subst ln
   have b59:=cv.rowLen
   have lo:=cv.at1
   obtain ⟨b60,b61,rfl,b62,cx⟩:=lo.pair
   obtain ⟨gb,lp⟩:=cx.rowCs
   subst lp
   have b63:=cx.rowLen
   have lq:=cx.at1
   obtain ⟨b64,b65,rfl,b66,cy⟩:=lq.pair
   obtain ⟨gc,lr⟩:=cy.rowCs
   subst lr
   have b67:=cy.rowLen
   have ls:=cy.at1
   obtain ⟨b68,b69,rfl,b70,cz⟩:=ls.pair
   obtain ⟨gd,lt⟩:=cz.rowCs
   subst lt
   have b71:=cz.rowLen
   have d0:=cz.at1
   obtain ⟨ge,lu⟩:=d0.rowCs
   subst lu
   have b72:=d0.rowLen
   have c3:St lg (cR 9 Ro.str ge m.2.2.2.2.2::cR 3 (Ro.int .i64) gd m.2.2.2.2.1::cR 3 (Ro.int .i64) gc m.2.2.2.1::cR 47 Aj gb m.2.2.1::cR 9 Ro.str cw m.2.1::cR 9 Ro.str ga m.1::cW 32 r19 [sv ga,sv cw,sv gb,sv gc,sv gd,sv ge] ::cW 32 r2 [.slice none 0 0, .slice none 0 0, .slice none 0 0, .slice none 0 0, .slice none 0 0, .slice none 0 0] ::cW 66 r1 [sv g_0.1,sv g_0.2.1,sv g_0.2.2.1, .string g_0.2.2.2.1,sv g_0.2.2.2.2.1] ::F) _:=d0
   refine AA (x:=cw) c3.at6 rfl ?_
   refine AA (x:=g_0.2.2.2.2.1) c3.at8 rfl ?_
   obtain ⟨lv,lw,a9⟩:=bS a9
   obtain ⟨b73,b74,lx,ly,lz,m0⟩:=(b8.mono (w.trans c2)).get lw
   refine AG _ lx (AZ ly ?_)
   obtain ⟨_,_,rfl,m1,m2⟩:=lz
   obtain rfl:=m1
   obtain ⟨_,_,rfl,m3,m4⟩:=m2
   obtain ⟨b75,rfl,m5⟩:=m3
   have b76:=m5.length
   obtain ⟨_,_,rfl,m6,m7⟩:=m4
   obtain rfl:=m6
   obtain rfl:=m7
   refine AL (x:=lv.1) (AB (Sub.trans (Sub.refl _) c3.sub) (m0 0 _ rfl)) rfl ?_
   have m8:=c3.at4
   obtain ⟨b77,m9,a9⟩:=bS a9
   refine AK (BL m8 m9) ?_
   rintro _ b78 ⟨bm,t27,d1,rfl,rfl,ma⟩
   refine ⟨t27,rfl,?_⟩
   have mb:=ma.at5
   have mc:=mb.at1
   have md:=mc.at5
   have me:=md.at5
   have mf:=me.at5
   have mg:=mf.at5
   have mh:=mg.at1
   have mi:=St.unpair mh
   have mj:=mi.at1
   have mk:=St.unpair mj
   have ml:=mk.at1
   have mm:=St.unpair ml
   have mn:=mm.at1
   have mo:=St.unpair mn
   have mp:=mo.at1
   have mq:=St.unpair mp
   have gf:St bm (cO 32 (Rep.prod (Rep.row 9 Ro.str) (Rep.prod (Rep.row 9 Ro.str) (Rep.prod (Rep.row 47 Aj) (Rep.prod (Rep.row 3 (Ro.int .i64)) (Rep.prod (Rep.row 3 (Ro.int .i64)) (Rep.row 9 Ro.str)))))) (some ⟨r19,0,none⟩) (m.1,m.2.1,m.2.2.1,m.2.2.2.1,m.2.2.2.2.1,m.2.2.2.2.2)::cW 32 r2 [.slice none 0 0, .slice none 0 0, .slice none 0 0, .slice none 0 0, .slice none 0 0, .slice none 0 0] ::cW 66 r1 [sv g_0.1,sv g_0.2.1,sv g_0.2.2.1, .string g_0.2.2.2.1,sv g_0.2.2.2.2.1] ::F) _:=St.shut mq.at1
   obtain ⟨mr,au,a9⟩:=bS a9
   refine Ak (fun (y:Unit) w_ g=> ∃ψ:AE,∃gg:Au,Sub bm ψ∧gg=g∧St ψ (cO 32 (Rep.prod (Rep.row 9 Ro.str) (Rep.prod (Rep.row 9 Ro.str) (Rep.prod (Rep.row 47 Aj) (Rep.prod (Rep.row 3 (Ro.int .i64)) (Rep.prod (Rep.row 3 (Ro.int .i64)) (Rep.row 9 Ro.str)))))) (some ⟨r19,0,none⟩) gg::cW 32 r2 [.slice none 0 0, .slice none 0 0, .slice none 0 0, .slice none 0 0, .slice none 0 0, .slice none 0 0] ::cW 66 r1 [sv g_0.1,sv g_0.2.1,sv g_0.2.2.1, .string g_0.2.2.2.1,sv g_0.2.2.2.2.1] ::F) w_) (g:=mr) ?_ ?_
   ·refine AH au rfl (fun _ au=> ?_) (fun _ au=> ?_)
    ·obtain ⟨mu,b79,gh,b80,mv⟩:=gf.open
     obtain rfl:r19=mu:=by simpa using gh
     clear gh
     have mw:=mv.at1
     obtain ⟨b81,b82,rfl,b83,d2⟩:=mw.pair
     obtain ⟨gi,mx⟩:=d2.rowCs
     subst mx
     have b84:=d2.rowLen
     have my:=d2.at1
     obtain ⟨b85,b86,rfl,b87,d3⟩:=my.pair
     obtain ⟨d4,mz⟩:=d3.rowCs
     subst mz
     have b88:=d3.rowLen
     have n0:=d3.at1
     obtain ⟨b89,b90,rfl,b91,d5⟩:=n0.pair
     obtain ⟨gj,n1⟩:=d5.rowCs
     subst n1
     have b92:=d5.rowLen
     have n2:=d5.at1
     obtain ⟨b93,b94,rfl,b95,d6⟩:=n2.pair
     obtain ⟨gk,n3⟩:=d6.rowCs
     subst n3
     have b96:=d6.rowLen
     have n4:=d6.at1
     obtain ⟨b97,b98,rfl,b99,d7⟩:=n4.pair
     obtain ⟨gl,n5⟩:=d7.rowCs
     subst n5
     have ba0:=d7.rowLen
     have d8:=d7.at1
     obtain ⟨gm,n6⟩:=d8.rowCs
     subst n6
     have ba1:=d8.rowLen
     have c4:St bm (cR 9 Ro.str gm m.2.2.2.2.2::cR 3 (Ro.int .i64) gl m.2.2.2.2.1::cR 3 (Ro.int .i64) gk m.2.2.2.1::cR 47 Aj gj m.2.2.1::cR 9 Ro.str d4 m.2.1::cR 9 Ro.str gi m.1::cW 32 r19 [sv gi,sv d4,sv gj,sv gk,sv gl,sv gm] ::cW 32 r2 [.slice none 0 0, .slice none 0 0, .slice none 0 0, .slice none 0 0, .slice none 0 0, .slice none 0 0] ::cW 66 r1 [sv g_0.1,sv g_0.2.1,sv g_0.2.2.1, .string g_0.2.2.2.1,sv g_0.2.2.2.2.1] ::F) _:=d8
     refine AA (x:=d4) c4.at6 rfl ?_
     refine AA (x:=g_0.2.2.2.2.1) c4.at8 rfl ?_
     obtain ⟨d9,n7,au⟩:=bS au
     obtain ⟨ba2,ba3,n8,n9,na,nb⟩:=(b8.mono ((w.trans c2).trans d1)).get n7
     refine AG _ n8 (AZ n9 ?_)
     obtain ⟨_,_,rfl,nc,nd⟩:=na
     obtain rfl:=nc
     obtain ⟨_,_,rfl,nf,ng⟩:=nd
     obtain ⟨ba4,rfl,nh⟩:=nf
     have ba5:=nh.length
     obtain ⟨_,_,rfl,ni,nj⟩:=ng
     obtain rfl:=ni
     obtain rfl:=nj
     refine AL (x:=d9.1) (AB (Sub.trans (Sub.refl _) c4.sub) (nb 0 _ rfl)) rfl ?_
     refine Ac (vs:= [.string d9.1]) c4 fun r33 ba6 da=> ?_
     refine Ab (St.cell (b:=r19) (j:=1) da.at7 rfl) ?_
     have nk:=St.cells da
     have nl:=da.tail
     have nm:=nl.at4
     obtain ⟨gn,nn,au⟩:=bS au
     refine Aq (r:=Ro.str) (ms:=([d9.1] :List ByteArray)) By nm rfl nk (.cons (a:= [_]) rfl .nil) rfl nn ?_
     intro t34 ba7 go
     have ba8:=go.rowLen
     refine AJ go.at6 rfl rfl fun ba9 np=> ?_
     have nq:=np.at6
     have nr:=nq.at2
     have ns:=nr.at6
     have nt:=ns.at6
     have nu:=nt.at6
     have nv:=nu.at6
     have nw:=nv.at1
     have nx:=St.unpair nw
     have ny:=nx.at1
     have nz:=St.unpair ny
     have o0:=nz.at1
     have o1:=St.unpair o0
     have o2:=o1.at1
     have o3:=St.unpair o2
     have o4:=o3.at1
     have o5:=St.unpair o4
     have o6:St bm (cO 32 (Rep.prod (Rep.row 9 Ro.str) (Rep.prod (Rep.row 9 Ro.str) (Rep.prod (Rep.row 47 Aj) (Rep.prod (Rep.row 3 (Ro.int .i64)) (Rep.prod (Rep.row 3 (Ro.int .i64)) (Rep.row 9 Ro.str)))))) (some ⟨r19,0,none⟩) (m.1,gn,m.2.2.1,m.2.2.2.1,m.2.2.2.2.1,m.2.2.2.2.2)::cW 32 r2 [.slice none 0 0, .slice none 0 0, .slice none 0 0, .slice none 0 0, .slice none 0 0, .slice none 0 0] ::cW 66 r1 [sv g_0.1,sv g_0.2.1,sv g_0.2.2.1, .string g_0.2.2.2.1,sv g_0.2.2.2.2.1] ::F) _:=St.shut o5.at1
     have o7:=o6.at2
     have o8:=o7.at2
     have o9:=o8.at2
     obtain rfl:=iS au
     exact AN (()) rfl ⟨bm,(m.1,gn,m.2.2.1,m.2.2.2.1,m.2.2.2.2.1,m.2.2.2.2.2),(Sub.refl _),rfl,o9⟩
    have oa:=gf.at2
    have ob:=oa.at2
    have oc:=ob.at2
    obtain rfl:=iS au
    exact AN (()) rfl ⟨bm,(m.1,m.2.1,m.2.2.1,m.2.2.2.1,m.2.2.2.2.1,m.2.2.2.2.2),(Sub.refl _),rfl,oc⟩
   rintro z28 bb0 ⟨db,a6,gp,rfl,od⟩
   try dsimp only at a9
   obtain ⟨oe,bb1,gq,bb2,og⟩:=od.open
   obtain rfl:r19=oe:=by simpa using gq
   clear gq
   have oh:=og.at1
   obtain ⟨bb3,bb4,rfl,bb5,dc⟩:=oh.pair
   obtain ⟨gr,oi⟩:=dc.rowCs
   subst oi
   have bb6:=dc.rowLen
   have oj:=dc.at1
   obtain ⟨bb7,bb8,rfl,bb9,dd⟩:=oj.pair
   obtain ⟨gs,ok⟩:=dd.rowCs
   subst ok
   have bc0:=dd.rowLen
   have ol:=dd.at1
   obtain ⟨bc1,bc2,rfl,bc3,de⟩:=ol.pair
   obtain ⟨gt,om⟩:=de.rowCs
   subst om
   have bc4:=de.rowLen
   have on:=de.at1
   obtain ⟨bc5,bc6,rfl,bc7,df⟩:=on.pair
   obtain ⟨gu,oo⟩:=df.rowCs
   subst oo
   have bc8:=df.rowLen
   have op:=df.at1
   obtain ⟨bc9,bd0,rfl,bd1,dg⟩:=op.pair
   obtain ⟨gv,oq⟩:=dg.rowCs
   subst oq
   have bd2:=dg.rowLen
   have dh:=dg.at1
   obtain ⟨di,os⟩:=dh.rowCs
   subst os
   have bd3:=dh.rowLen
   have c5:St db (cR 9 Ro.str di a6.2.2.2.2.2::cR 3 (Ro.int .i64) gv a6.2.2.2.2.1::cR 3 (Ro.int .i64) gu a6.2.2.2.1::cR 47 Aj gt a6.2.2.1::cR 9 Ro.str gs a6.2.1::cR 9 Ro.str gr a6.1::cW 32 r19 [sv gr,sv gs,sv gt,sv gu,sv gv,sv di] ::cW 32 r2 [.slice none 0 0, .slice none 0 0, .slice none 0 0, .slice none 0 0, .slice none 0 0, .slice none 0 0] ::cW 66 r1 [sv g_0.1,sv g_0.2.1,sv g_0.2.2.1, .string g_0.2.2.2.1,sv g_0.2.2.2.2.1] ::F) _:=dh
   refine AA (x:=di) c5.at6 rfl ?_
   refine AA (x:=g_0.2.2.2.2.1) c5.at8 rfl ?_
   obtain ⟨dj,ot,a9⟩:=bS a9
   obtain ⟨bd4,bd5,ou,ov,ow,ox⟩:=(b8.mono (((w.trans c2).trans d1).trans gp)).get ot
   refine AG _ ou (AZ ov ?_)
   obtain ⟨_,_,rfl,oy,oz⟩:=ow
   obtain rfl:=oy
   obtain ⟨_,_,rfl,p0,p1⟩:=oz
   obtain ⟨bd6,rfl,p2⟩:=p0
   have bd7:=p2.length
   obtain ⟨_,_,rfl,p3,p4⟩:=p1
   obtain rfl:=p3
   obtain rfl:=p4
   refine AL (x:=dj.2.2.2) (by rw [AV]; exact (AB (Sub.trans (Sub.refl _) c5.sub) (ox 3 _ rfl))) rfl ?_
   refine Ac (vs:= [.string dj.2.2.2]) c5 fun r39 bd8 dk=> ?_
   refine Ab (St.cell (b:=r19) (j:=5) dk.at7 rfl) ?_
   have p5:=St.cells dk
   have p6:=dk.tail
   obtain ⟨gw,p7,a9⟩:=bS a9
   refine Aq (r:=Ro.str) (ms:=([dj.2.2.2] :List ByteArray)) By p6 rfl p5 (.cons (a:= [_]) rfl .nil) rfl p7 ?_
   intro t40 bd9 gx
   have be0:=gx.rowLen
   refine AJ gx.at6 rfl rfl fun be1 p8=> ?_
   have p9:=p8.at6
   have pa:=p9.at6
   have pb:=pa.at6
   have pc:=pb.at6
   have pd:=pc.at6
   have pe:=pd.at6
   have pf:=pe.at1
   have pg:=St.unpair pf
   have ph:=pg.at1
   have pi:=St.unpair ph
   have pj:=pi.at1
   have pk:=St.unpair pj
   have pl:=pk.at1
   have pm:=St.unpair pl
   have pn:=pm.at1
   have po:=St.unpair pn
   have pp:St db (cO 32 (Rep.prod (Rep.row 9 Ro.str) (Rep.prod (Rep.row 9 Ro.str) (Rep.prod (Rep.row 47 Aj) (Rep.prod (Rep.row 3 (Ro.int .i64)) (Rep.prod (Rep.row 3 (Ro.int .i64)) (Rep.row 9 Ro.str)))))) (some ⟨r19,0,none⟩) (a6.1,a6.2.1,a6.2.2.1,a6.2.2.2.1,a6.2.2.2.2.1,gw)::cW 32 r2 [.slice none 0 0, .slice none 0 0, .slice none 0 0, .slice none 0 0, .slice none 0 0, .slice none 0 0] ::cW 66 r1 [sv g_0.1,sv g_0.2.1,sv g_0.2.2.1, .string g_0.2.2.2.1,sv g_0.2.2.2.2.1] ::F) _:=St.shut po.at1
   have pq:=pp.at2
   have pr:=pq.at2
   have ps:=pr.at2
   obtain rfl:=iS a9
   exact Ar ((IntKind.wrap .i64 (z21.1+(1:Int))),()) _ rfl rfl ⟨db,(a6.1,a6.2.1,a6.2.2.1,a6.2.2.2.1,a6.2.2.2.2.1,gw),((c2.trans d1).trans gp),g8,rfl,ps⟩
  ·rintro _ z21 be2 ⟨pt,pu,pv,rfl,rfl,gy⟩ pw
   refine AA (x:=g_0.2.2.2.2.1) gy.at2 rfl ?_
   refine Al (by rw [c1]; exact decide_eq_false (Int.not_lt.2 pw)) ?_
   have px:=gy.at2
   have py:=px.at2
   have pz:=py.at2
   exact AO (AS (z21.1,()) rfl ⟨pt,pu,pv,rfl,pz⟩)
 rintro z20 be3 ⟨c6,gz,a2,rfl,q0⟩
 try dsimp only at hd
 have q1:=q0.nil 9 Ro.str
 have q2:=q1.nil 9 Ro.str
 have q3:=q2.nil 47 Aj
 have q4:=q3.nil 3 (Ro.int .i64)
 have q5:=q4.nil 3 (Ro.int .i64)
 have q6:=q5.nil 9 Ro.str
 have q7:=q6.at1
 have q8:=St.unpair q7
 have q9:=q8.at1
 have qa:=St.unpair q9
 have qb:=qa.at1
 have qc:=St.unpair qb
 have qd:=qc.at1
 have qe:=St.unpair qd
 have qf:=qe.at1
 have qg:=St.unpair qf
 have qh:St c6 (cO 32 (Rep.prod (Rep.row 9 Ro.str) (Rep.prod (Rep.row 9 Ro.str) (Rep.prod (Rep.row 47 Aj) (Rep.prod (Rep.row 3 (Ro.int .i64)) (Rep.prod (Rep.row 3 (Ro.int .i64)) (Rep.row 9 Ro.str)))))) (some ⟨r2,0,none⟩) (([] :List ByteArray),([] :List ByteArray),([] :List Bu),([] :List Int),([] :List Int),([] :List ByteArray))::cO 32 (Rep.prod (Rep.row 9 Ro.str) (Rep.prod (Rep.row 9 Ro.str) (Rep.prod (Rep.row 47 Aj) (Rep.prod (Rep.row 3 (Ro.int .i64)) (Rep.prod (Rep.row 3 (Ro.int .i64)) (Rep.row 9 Ro.str)))))) (some ⟨r19,0,none⟩) gz::cW 66 r1 [sv g_0.1,sv g_0.2.1,sv g_0.2.2.1, .string g_0.2.2.2.1,sv g_0.2.2.2.2.1] ::F) _:=St.shut qg.at2
 have qi:=qh.at2
 have qj:=qi.at2
 have qk:=qj.at2
 obtain ⟨ql,qm,hd⟩:=bS hd
 refine Ad (fun (y:Int×ByteArray×Int×Unit) w_ g=> ∃ψ:AE,∃h0:Au,∃h1:Au,Sub c6 ψ∧AR.next (h0,h1)=g∧St ψ (cO 32 (Rep.prod (Rep.row 9 Ro.str) (Rep.prod (Rep.row 9 Ro.str) (Rep.prod (Rep.row 47 Aj) (Rep.prod (Rep.row 3 (Ro.int .i64)) (Rep.prod (Rep.row 3 (Ro.int .i64)) (Rep.row 9 Ro.str)))))) (some ⟨r2,0,none⟩) h0::cO 32 (Rep.prod (Rep.row 9 Ro.str) (Rep.prod (Rep.row 9 Ro.str) (Rep.prod (Rep.row 47 Aj) (Rep.prod (Rep.row 3 (Ro.int .i64)) (Rep.prod (Rep.row 3 (Ro.int .i64)) (Rep.row 9 Ro.str)))))) (some ⟨r19,0,none⟩) h1::cW 66 r1 [sv g_0.1,sv g_0.2.1,sv g_0.2.2.1, .string g_0.2.2.2.1,sv g_0.2.2.2.2.1] ::F) w_) (g:=ql) ?_ ?_
 ·refine BQ qm (fun qn (y:Int×ByteArray×Int×Unit) w_ g=> ∃ψ:AE,∃h2:Au,∃h3:Au,Sub c6 ψ∧y.1=qn∧(h2,h3)=g∧St ψ (cO 32 (Rep.prod (Rep.row 9 Ro.str) (Rep.prod (Rep.row 9 Ro.str) (Rep.prod (Rep.row 47 Aj) (Rep.prod (Rep.row 3 (Ro.int .i64)) (Rep.prod (Rep.row 3 (Ro.int .i64)) (Rep.row 9 Ro.str)))))) (some ⟨r2,0,none⟩) h2::cO 32 (Rep.prod (Rep.row 9 Ro.str) (Rep.prod (Rep.row 9 Ro.str) (Rep.prod (Rep.row 47 Aj) (Rep.prod (Rep.row 3 (Ro.int .i64)) (Rep.prod (Rep.row 3 (Ro.int .i64)) (Rep.row 9 Ro.str)))))) (some ⟨r19,0,none⟩) h3::cW 66 r1 [sv g_0.1,sv g_0.2.1,sv g_0.2.2.1, .string g_0.2.2.2.1,sv g_0.2.2.2.2.1] ::F) w_) ((0:Int),{data:= #[] },(0:Int),()) rfl ⟨c6,(([] :List ByteArray),([] :List ByteArray),([] :List Bu),([] :List Int),([] :List Int),([] :List ByteArray)),gz,(Sub.refl _),rfl,rfl,qk⟩ ?_ ?_
  ·rintro _ z42 be4 _ _ ⟨qo,av,a1,ai,rfl,rfl,h4⟩ z h5 h6 h7 qp
   try dsimp only at z h5 h6 h7
   refine AA (x:=g_0.1) h4.at2 rfl ?_
   refine Az (by rw [g1]; exact decide_eq_true h6) ?_
   obtain ⟨qq,be5,h8,be6,qr⟩:=h4.at1.open
   obtain rfl:r19=qq:=by simpa using h8
   clear h8
   have qs:=qr.at1
   obtain ⟨be7,be8,rfl,be9,dl⟩:=qs.pair
   obtain ⟨bt,qt⟩:=dl.rowCs
   subst qt
   have bf0:=dl.rowLen
   have qu:=dl.at1
   obtain ⟨bf1,bf2,rfl,bf3,dm⟩:=qu.pair
   obtain ⟨bu,qv⟩:=dm.rowCs
   subst qv
   have bf4:=dm.rowLen
   have qw:=dm.at1
   obtain ⟨bf5,bf6,rfl,bf7,dn⟩:=qw.pair
   obtain ⟨c7,qx⟩:=dn.rowCs
   subst qx
   have bf8:=dn.rowLen
   have qy:=dn.at1
   obtain ⟨bf9,bg0,rfl,bg1,dp⟩:=qy.pair
   obtain ⟨bv,qz⟩:=dp.rowCs
   subst qz
   have bg2:=dp.rowLen
   have r0:=dp.at1
   obtain ⟨bg3,bg4,rfl,bg5,dq⟩:=r0.pair
   obtain ⟨c8,r3⟩:=dq.rowCs
   subst r3
   have bg6:=dq.rowLen
   have dr:=dq.at1
   obtain ⟨c9,r4⟩:=dr.rowCs
   subst r4
   have bg7:=dr.rowLen
   have ca:St qo (cR 9 Ro.str c9 a1.2.2.2.2.2::cR 3 (Ro.int .i64) c8 a1.2.2.2.2.1::cR 3 (Ro.int .i64) bv a1.2.2.2.1::cR 47 Aj c7 a1.2.2.1::cR 9 Ro.str bu a1.2.1::cR 9 Ro.str bt a1.1::cW 32 r19 [sv bt,sv bu,sv c7,sv bv,sv c8,sv c9] ::cO 32 (Rep.prod (Rep.row 9 Ro.str) (Rep.prod (Rep.row 9 Ro.str) (Rep.prod (Rep.row 47 Aj) (Rep.prod (Rep.row 3 (Ro.int .i64)) (Rep.prod (Rep.row 3 (Ro.int .i64)) (Rep.row 9 Ro.str)))))) (some ⟨r2,0,none⟩) av::cW 66 r1 [sv g_0.1,sv g_0.2.1,sv g_0.2.2.1, .string g_0.2.2.2.1,sv g_0.2.2.2.2.1] ::F) _:=dr
   refine AA (x:=bu) ca.at6 rfl ?_
   refine AA (x:=g_0.1) ca.at8 rfl ?_
   obtain ⟨r5,r6,z⟩:=bS z
   obtain ⟨bg8,bg9,r7,r8,r9,ra⟩:=(b7.mono ((w.trans a2).trans ai)).get r6
   refine AG _ r7 (AZ r8 ?_)
   obtain ⟨_,_,rfl,rb,rc⟩:=r9
   obtain rfl:=rb
   obtain ⟨_,_,rfl,rd,re⟩:=rc
   obtain rfl:=rd
   obtain ⟨_,_,rfl,rf,rg⟩:=re
   obtain rfl:=rf
   obtain rfl:=rg
   refine AL (x:=r5.1) (AB (Sub.trans (Sub.refl _) ca.sub) (ra 0 _ rfl)) rfl ?_
   have rh:=ca.at4
   obtain ⟨bh0,ri,z⟩:=bS z
   refine AK (BL rh ri) ?_
   rintro _ bh1 ⟨b9,t48,aw,rfl,rfl,bf⟩
   refine ⟨t48,rfl,?_⟩
   refine AH z rfl (fun _ z=> ?_) (fun _ z=> ?_)
   ·refine AA (x:=g_0.1) bf.at8 rfl ?_
    obtain ⟨h9,rj,z⟩:=bS z
    obtain ⟨bh2,bh3,rk,rl,rm,hb⟩:=(b7.mono (((w.trans a2).trans ai).trans aw)).get rj
    refine AG _ rk (AZ rl ?_)
    obtain ⟨_,_,rfl,rn,rp⟩:=rm
    obtain rfl:=rn
    obtain ⟨_,_,rfl,rq,rr⟩:=rp
    obtain rfl:=rq
    obtain ⟨_,_,rfl,rs,rt⟩:=rr
    obtain rfl:=rs
    obtain rfl:=rt
    refine AL (x:=h9.1) (AB (Sub.trans (Sub.refl _) bf.sub) (hb 0 _ rfl)) rfl ?_
    obtain ⟨ru,bh4,hc,bh5,rv⟩:=bf.at7.open
    obtain rfl:r2=ru:=by simpa using hc
    clear hc
    have rx:=rv.at1
    obtain ⟨bh6,bh7,rfl,bh8,ds⟩:=rx.pair
    obtain ⟨he,ry⟩:=ds.rowCs
    subst ry
    have bh9:=ds.rowLen
    have rz:=ds.at1
    obtain ⟨bi0,bi1,rfl,bi2,dt⟩:=rz.pair
    obtain ⟨hf,s1⟩:=dt.rowCs
    subst s1
    have bi3:=dt.rowLen
    have s2:=dt.at1
    obtain ⟨bi4,bi5,rfl,bi6,du⟩:=s2.pair
    obtain ⟨hg,s3⟩:=du.rowCs
    subst s3
    have bi7:=du.rowLen
    have s4:=du.at1
    obtain ⟨bi8,bi9,rfl,bj0,dv⟩:=s4.pair
    obtain ⟨hh,s5⟩:=dv.rowCs
    subst s5
    have bj1:=dv.rowLen
    have s6:=dv.at1
    obtain ⟨bj2,bj3,rfl,bj4,dw⟩:=s6.pair
    obtain ⟨hi,s7⟩:=dw.rowCs
    subst s7
    have bj5:=dw.rowLen
    have dx:=dw.at1
    obtain ⟨hj,s8⟩:=dx.rowCs
    subst s8
    have bj6:=dx.rowLen
    have s9:St b9 (cR 9 Ro.str hj av.2.2.2.2.2::cR 3 (Ro.int .i64) hi av.2.2.2.2.1::cR 3 (Ro.int .i64) hh av.2.2.2.1::cR 47 Aj hg av.2.2.1::cR 9 Ro.str hf av.2.1::cR 9 Ro.str he av.1::cW 32 r2 [sv he,sv hf,sv hg,sv hh,sv hi,sv hj] ::cR 9 Ro.str bu a1.2.1::cR 9 Ro.str c9 a1.2.2.2.2.2::cR 3 (Ro.int .i64) c8 a1.2.2.2.2.1::cR 3 (Ro.int .i64) bv a1.2.2.2.1::cR 47 Aj c7 a1.2.2.1::cR 9 Ro.str bt a1.1::cW 32 r19 [sv bt,sv bu,sv c7,sv bv,sv c8,sv c9] ::cW 66 r1 [sv g_0.1,sv g_0.2.1,sv g_0.2.2.1, .string g_0.2.2.2.1,sv g_0.2.2.2.2.1] ::F) _:=dx
    refine AJ s9.at6 rfl rfl fun bj7 sa=> ?_
    refine AJ sa rfl rfl fun bj8 sb=> ?_
    refine AJ sb rfl rfl fun bj9 sc=> ?_
    refine AJ sc rfl rfl fun bk0 sd=> ?_
    refine AJ sd rfl rfl fun bk1 se=> ?_
    refine AJ se rfl rfl fun bk2 ax=> ?_
    refine Ab (AB (Sub.trans (Sub.refl _) ax.sub) (hb 0 _ rfl)) ?_
    refine Ab (St.cell (b:=r1) (j:=0) ax.at14 rfl) ?_
    refine AA (x:=((none,0,0):Slc)) ax rfl ?_
    refine AA (x:=((none,0,0):Slc)) ax rfl ?_
    refine AA (x:=((none,0,0):Slc)) ax rfl ?_
    refine AA (x:=((none,0,0):Slc)) ax rfl ?_
    refine AA (x:=((none,0,0):Slc)) ax rfl ?_
    refine AA (x:=((none,0,0):Slc)) ax rfl ?_
    obtain rfl:=iS z
    obtain rfl:=qp _ rfl
    try dsimp only at hd
    obtain rfl:=iS hd
    have sf:=ax.tail
    have sg:=sf.tail
    have sh:=sg.tail
    have si:=sh.tail
    have sj:=si.tail
    have sk:=sj.tail
    have sl:=sk.tail
    have sm:=sl.tail
    have sn:=sm.tail
    have so:=sn.tail
    have sp:=so.tail
    have sq:=sp.tail
    have sr:=sq.tail
    have ss:=sr.tail
    have st:=ss.tail
    exact AU (AY (AC ⟨b9,((((none,0,0):Slc),((none,0,0):Slc),((none,0,0):Slc),((none,0,0):Slc),((none,0,0):Slc),((none,0,0):Slc),()),(15:Int),h9.1,()),([] :List ByteArray),([] :List ByteArray),([] :List Bu),([] :List Int),([] :List Int),([] :List ByteArray),(((w.trans a2).trans ai).trans aw),rfl,rfl,(Ro.SliceIs.nil Ro.str b9),(Ro.SliceIs.nil Ro.str b9),(Ro.SliceIs.nil Aj b9),(Ro.SliceIs.nil (Ro.int .i64) b9),(Ro.SliceIs.nil (Ro.int .i64) b9),(Ro.SliceIs.nil Ro.str b9),st⟩))
   refine AA (x:=bt) bf.at6 rfl ?_
   refine AA (x:=g_0.1) bf.at8 rfl ?_
   obtain ⟨dy,su,z⟩:=bS z
   obtain ⟨bk3,bk4,sw,sx,sy,sz⟩:=(b7.mono (((w.trans a2).trans ai).trans aw)).get su
   refine AG _ sw (AZ sx ?_)
   obtain ⟨_,_,rfl,t0,t1⟩:=sy
   obtain rfl:=t0
   obtain ⟨_,_,rfl,t2,t3⟩:=t1
   obtain rfl:=t2
   obtain ⟨_,_,rfl,t4,t5⟩:=t3
   obtain rfl:=t4
   obtain rfl:=t5
   refine AL (x:=dy.1) (AB (Sub.trans (Sub.refl _) bf.sub) (sz 0 _ rfl)) rfl ?_
   refine Ac (vs:= [.string dy.1]) bf fun r62 bk5 dz=> ?_
   refine Ab (St.cell (b:=r19) (j:=0) dz.at7 rfl) ?_
   have t6:=St.cells dz
   have t7:=dz.tail
   have t9:=t7.at5
   obtain ⟨hk,ta,z⟩:=bS z
   refine Aq (r:=Ro.str) (ms:=([dy.1] :List ByteArray)) By t9 rfl t6 (.cons (a:= [_]) rfl .nil) rfl ta ?_
   intro t63 bk6 hl
   have bk7:=hl.rowLen
   refine AJ hl.at6 rfl rfl fun bk8 ay=> ?_
   refine AA (x:=bv) ay rfl ?_
   refine AA (x:=g_0.1) ay.at8 rfl ?_
   refine AA (x:=g_0.2.1) ay.at8 rfl ?_
   refine AA (x:=g_0.2.2.1) ay.at8 rfl ?_
   refine AA (x:=g_0.2.2.2.1) ay.at8 rfl ?_
   refine AA (x:=g_0.2.2.2.2.1) ay.at8 rfl ?_
   refine AA (x:=g_0.1) ay.at8 rfl ?_
   obtain ⟨tb,tc,z⟩:=bS z
   obtain ⟨bk9,bl0,td,te,tf,tg⟩:=(b7.mono (((w.trans a2).trans ai).trans aw)).get tc
   refine AG _ td (AZ te ?_)
   obtain ⟨_,_,rfl,th,ti⟩:=tf
   obtain rfl:=th
   obtain ⟨_,_,rfl,tj,tk⟩:=ti
   obtain rfl:=tj
   obtain ⟨_,_,rfl,tl,tm⟩:=tk
   obtain rfl:=tl
   obtain rfl:=tm
   refine AL (x:=tb.1) (AB (Sub.trans (Sub.refl _) ay.sub) (tg 0 _ rfl)) rfl ?_
   obtain ⟨bl1,tn,z⟩:=bS z
   refine AK (DR (g_0:=(g_0.1,g_0.2.1,g_0.2.2.1,g_0.2.2.2.1,g_0.2.2.2.2.1,())) (b7.mono (((w.trans a2).trans ai).trans aw)) (c0.mono (((w.trans a2).trans ai).trans aw)) (bs.mono (((w.trans a2).trans ai).trans aw)) (b8.mono (((w.trans a2).trans ai).trans aw)) ay tn) ?_
   rintro _ bl2 ⟨hm,t73,tp,rfl,rfl,hn⟩
   refine ⟨t73,rfl,?_⟩
   refine Ab (St.cell (b:=r19) (j:=3) hn rfl) ?_
   refine Ac (vs:= [.int .i64 t73]) hn fun r74 bl3 e0=> ?_
   refine Ab (St.cell (b:=r19) (j:=3) e0.at1 rfl) ?_
   have tq:=St.cells e0
   have tr:=e0.tail
   have ts:=tr.at5
   obtain ⟨ho,tt,z⟩:=bS z
   refine Aq (r:=(Ro.int .i64)) (ms:=([t73] :List Int)) CT ts rfl tq (.cons (a:= [_]) rfl .nil) rfl tt ?_
   intro t75 bl4 hp
   have bl5:=hp.rowLen
   refine AJ hp.at1 rfl rfl fun bl6 tu=> ?_
   have tv:=tu.at2
   have tw:=tv.at3
   have tx:=tw.at6
   have ty:=tx.at4
   have tz:=ty.at6
   have u0:=tz.at6
   have u1:=u0.at1
   have u2:=St.unpair u1
   have u3:=u2.at1
   have u4:=St.unpair u3
   have u5:=u4.at1
   have u6:=St.unpair u5
   have u7:=u6.at1
   have u8:=St.unpair u7
   have u9:=u8.at1
   have ua:=St.unpair u9
   have ub:St hm (cO 32 (Rep.prod (Rep.row 9 Ro.str) (Rep.prod (Rep.row 9 Ro.str) (Rep.prod (Rep.row 47 Aj) (Rep.prod (Rep.row 3 (Ro.int .i64)) (Rep.prod (Rep.row 3 (Ro.int .i64)) (Rep.row 9 Ro.str)))))) (some ⟨r19,0,none⟩) (hk,a1.2.1,a1.2.2.1,ho,a1.2.2.2.2.1,a1.2.2.2.2.2)::cO 32 (Rep.prod (Rep.row 9 Ro.str) (Rep.prod (Rep.row 9 Ro.str) (Rep.prod (Rep.row 47 Aj) (Rep.prod (Rep.row 3 (Ro.int .i64)) (Rep.prod (Rep.row 3 (Ro.int .i64)) (Rep.row 9 Ro.str)))))) (some ⟨r2,0,none⟩) av::cW 66 r1 [sv g_0.1,sv g_0.2.1,sv g_0.2.2.1, .string g_0.2.2.2.1,sv g_0.2.2.2.2.1] ::F) _:=St.shut ua.at1
   have uc:=ub.at2
   have ud:=uc.at1
   have ue:=ud.at2
   obtain rfl:=iS z
   exact Ar ((IntKind.wrap .i64 (z42.1+(1:Int))),z42.2.1,z42.2.2.1,()) _ rfl rfl ⟨hm,av,(hk,a1.2.1,a1.2.2.1,ho,a1.2.2.2.2.1,a1.2.2.2.2.2),((ai.trans aw).trans tp),h7,rfl,ue⟩
  ·rintro _ z42 bl7 _ ⟨uf,ug,uh,ui,rfl,rfl,hq⟩ uj uk
   subst uk
   refine AA (x:=g_0.1) hq.at2 rfl ?_
   refine Al (by rw [g1]; exact decide_eq_false (Int.not_lt.2 uj)) ?_
   have ul:=hq.at2
   have um:=ul.at2
   have un:=um.at2
   exact AO (AS (z42.1,z42.2.1,z42.2.2.1,()) rfl ⟨uf,ug,uh,ui,rfl,un⟩)
 rintro z41 bl8 ⟨e1,bg,uo,aj,rfl,up⟩
 try dsimp only at hd
 have uq:=up.at2
 have ur:=uq.at1
 have us:=ur.at2
 obtain ⟨ut,uu,hd⟩:=bS hd
 refine Ad (fun (y:Int×Unit) w_ g=> ∃ψ:AE,∃hr:Au,Sub e1 ψ∧hr=g∧St ψ (cO 32 (Rep.prod (Rep.row 9 Ro.str) (Rep.prod (Rep.row 9 Ro.str) (Rep.prod (Rep.row 47 Aj) (Rep.prod (Rep.row 3 (Ro.int .i64)) (Rep.prod (Rep.row 3 (Ro.int .i64)) (Rep.row 9 Ro.str)))))) (some ⟨r19,0,none⟩) hr::cO 32 (Rep.prod (Rep.row 9 Ro.str) (Rep.prod (Rep.row 9 Ro.str) (Rep.prod (Rep.row 47 Aj) (Rep.prod (Rep.row 3 (Ro.int .i64)) (Rep.prod (Rep.row 3 (Ro.int .i64)) (Rep.row 9 Ro.str)))))) (some ⟨r2,0,none⟩) bg::cW 66 r1 [sv g_0.1,sv g_0.2.1,sv g_0.2.2.1, .string g_0.2.2.2.1,sv g_0.2.2.2.2.1] ::F) w_) (g:=ut) ?_ ?_
 ·refine D4 uu (fun uv (y:Int×Unit) w_ g=> ∃ψ:AE,∃hs:Au,Sub e1 ψ∧y.1=uv∧hs=g∧St ψ (cO 32 (Rep.prod (Rep.row 9 Ro.str) (Rep.prod (Rep.row 9 Ro.str) (Rep.prod (Rep.row 47 Aj) (Rep.prod (Rep.row 3 (Ro.int .i64)) (Rep.prod (Rep.row 3 (Ro.int .i64)) (Rep.row 9 Ro.str)))))) (some ⟨r19,0,none⟩) hs::cO 32 (Rep.prod (Rep.row 9 Ro.str) (Rep.prod (Rep.row 9 Ro.str) (Rep.prod (Rep.row 47 Aj) (Rep.prod (Rep.row 3 (Ro.int .i64)) (Rep.prod (Rep.row 3 (Ro.int .i64)) (Rep.row 9 Ro.str)))))) (some ⟨r2,0,none⟩) bg::cW 66 r1 [sv g_0.1,sv g_0.2.1,sv g_0.2.2.1, .string g_0.2.2.2.1,sv g_0.2.2.2.2.1] ::F) w_) ((0:Int),()) rfl ⟨e1,uo,(Sub.refl _),rfl,rfl,us⟩ ?_ ?_
  ·rintro _ z77 bl9 _ _ ⟨e2,a7,ht,rfl,rfl,hu⟩ bn uw hv hw
   try dsimp only at bn uw hv hw
   refine AA (x:=g_0.2.2.1) hu.at2 rfl ?_
   refine Az (by rw [g2]; exact decide_eq_true hv) ?_
   obtain ⟨ux,bm0,hx,bm1,uy⟩:=hu.open
   obtain rfl:r19=ux:=by simpa using hx
   clear hx
   have uz:=uy.at1
   obtain ⟨bm2,bm3,rfl,bm4,e3⟩:=uz.pair
   obtain ⟨hy,v0⟩:=e3.rowCs
   subst v0
   have bm5:=e3.rowLen
   have v1:=e3.at1
   obtain ⟨bm6,bm7,rfl,bm8,e4⟩:=v1.pair
   obtain ⟨hz,v2⟩:=e4.rowCs
   subst v2
   have bm9:=e4.rowLen
   have v3:=e4.at1
   obtain ⟨bn0,bn1,rfl,bn2,e5⟩:=v3.pair
   obtain ⟨i0,v4⟩:=e5.rowCs
   subst v4
   have bn3:=e5.rowLen
   have v5:=e5.at1
   obtain ⟨bn4,bn5,rfl,bn6,e6⟩:=v5.pair
   obtain ⟨i1,v6⟩:=e6.rowCs
   subst v6
   have bn7:=e6.rowLen
   have v7:=e6.at1
   obtain ⟨bn8,bn9,rfl,bo0,e7⟩:=v7.pair
   obtain ⟨e8,v8⟩:=e7.rowCs
   subst v8
   have bo1:=e7.rowLen
   have e9:=e7.at1
   obtain ⟨i2,v9⟩:=e9.rowCs
   subst v9
   have bo2:=e9.rowLen
   have cb:St e2 (cR 9 Ro.str i2 a7.2.2.2.2.2::cR 3 (Ro.int .i64) e8 a7.2.2.2.2.1::cR 3 (Ro.int .i64) i1 a7.2.2.2.1::cR 47 Aj i0 a7.2.2.1::cR 9 Ro.str hz a7.2.1::cR 9 Ro.str hy a7.1::cW 32 r19 [sv hy,sv hz,sv i0,sv i1,sv e8,sv i2] ::cO 32 (Rep.prod (Rep.row 9 Ro.str) (Rep.prod (Rep.row 9 Ro.str) (Rep.prod (Rep.row 47 Aj) (Rep.prod (Rep.row 3 (Ro.int .i64)) (Rep.prod (Rep.row 3 (Ro.int .i64)) (Rep.row 9 Ro.str)))))) (some ⟨r2,0,none⟩) bg::cW 66 r1 [sv g_0.1,sv g_0.2.1,sv g_0.2.2.1, .string g_0.2.2.2.1,sv g_0.2.2.2.2.1] ::F) _:=e9
   refine AA (x:=e8) cb.at6 rfl ?_
   refine AA (x:=g_0.2.2.1) cb.at8 rfl ?_
   obtain ⟨ea,va,bn⟩:=bS bn
   obtain ⟨bo3,bo4,vb,vc,vd,ve⟩:=(bs.mono (((w.trans a2).trans aj).trans ht)).get va
   refine AG _ vb (AZ vc ?_)
   obtain ⟨_,_,rfl,vf,vg⟩:=vd
   obtain rfl:=vf
   obtain ⟨bo5,rfl,vh⟩:=vg
   have bo6:=vh.length
   refine AL (x:=ea.1) (AB (Sub.trans (Sub.refl _) cb.sub) (ve 0 _ rfl)) rfl ?_
   refine Ac (vs:= [.int .i64 ea.1]) cb fun r83 bo7 eb=> ?_
   refine Ab (St.cell (b:=r19) (j:=4) eb.at7 rfl) ?_
   have vi:=St.cells eb
   have vj:=eb.tail
   have vk:=vj.at1
   obtain ⟨i3,vl,bn⟩:=bS bn
   refine Aq (r:=(Ro.int .i64)) (ms:=([ea.1] :List Int)) CT vk rfl vi (.cons (a:= [_]) rfl .nil) rfl vl ?_
   intro t84 bo8 i4
   have bo9:=i4.rowLen
   refine AJ i4.at6 rfl rfl fun bp0 vm=> ?_
   have vn:=vm.at6
   have vo:=vn.at6
   have vp:=vo.at6
   have vq:=vp.at6
   have vr:=vq.at5
   have vt:=vr.at6
   have vu:=vt.at1
   have vv:=St.unpair vu
   have vw:=vv.at1
   have vx:=St.unpair vw
   have vy:=vx.at1
   have vz:=St.unpair vy
   have w0:=vz.at1
   have w1:=St.unpair w0
   have w2:=w1.at1
   have w3:=St.unpair w2
   have w4:St e2 (cO 32 (Rep.prod (Rep.row 9 Ro.str) (Rep.prod (Rep.row 9 Ro.str) (Rep.prod (Rep.row 47 Aj) (Rep.prod (Rep.row 3 (Ro.int .i64)) (Rep.prod (Rep.row 3 (Ro.int .i64)) (Rep.row 9 Ro.str)))))) (some ⟨r19,0,none⟩) (a7.1,a7.2.1,a7.2.2.1,a7.2.2.2.1,i3,a7.2.2.2.2.2)::cO 32 (Rep.prod (Rep.row 9 Ro.str) (Rep.prod (Rep.row 9 Ro.str) (Rep.prod (Rep.row 47 Aj) (Rep.prod (Rep.row 3 (Ro.int .i64)) (Rep.prod (Rep.row 3 (Ro.int .i64)) (Rep.row 9 Ro.str)))))) (some ⟨r2,0,none⟩) bg::cW 66 r1 [sv g_0.1,sv g_0.2.1,sv g_0.2.2.1, .string g_0.2.2.2.1,sv g_0.2.2.2.2.1] ::F) _:=St.shut w3.at1
   have w5:=w4.at2
   have w6:=w5.at2
   have w7:=w6.at2
   obtain rfl:=iS bn
   exact Ar ((IntKind.wrap .i64 (z77.1+(1:Int))),()) _ rfl rfl ⟨e2,(a7.1,a7.2.1,a7.2.2.1,a7.2.2.2.1,i3,a7.2.2.2.2.2),ht,hw,rfl,w7⟩
  ·rintro _ z77 bp1 ⟨w8,w9,wa,rfl,rfl,i5⟩ wb
   refine AA (x:=g_0.2.2.1) i5.at2 rfl ?_
   refine Al (by rw [g2]; exact decide_eq_false (Int.not_lt.2 wb)) ?_
   have wc:=i5.at2
   have wd:=wc.at2
   have we:=wd.at2
   exact AO (AS (z77.1,()) rfl ⟨w8,w9,wa,rfl,we⟩)
 rintro z76 bp2 ⟨wf,e,az,rfl,wg⟩
 try dsimp only at hd
 obtain ⟨wh,bp3,i6,bp4,wi⟩:=wg.open
 obtain rfl:r19=wh:=by simpa using i6
 clear i6
 have wj:=wi.at1
 obtain ⟨bp5,bp6,rfl,bp7,ec⟩:=wj.pair
 obtain ⟨bo,wk⟩:=ec.rowCs
 subst wk
 have wl:=ec.rowLen
 have wm:=ec.at1
 obtain ⟨bp8,bp9,rfl,bq0,ed⟩:=wm.pair
 obtain ⟨bp,wn⟩:=ed.rowCs
 subst wn
 have wo:=ed.rowLen
 have wp:=ed.at1
 obtain ⟨bq1,bq2,rfl,bq3,ee⟩:=wp.pair
 obtain ⟨s,wq⟩:=ee.rowCs
 subst wq
 have bq4:=ee.rowLen
 have wr:=ee.at1
 obtain ⟨bq5,bq6,rfl,bq7,ef⟩:=wr.pair
 obtain ⟨cc,ws⟩:=ef.rowCs
 subst ws
 have bq8:=ef.rowLen
 have wt:=ef.at1
 obtain ⟨bq9,br0,rfl,br1,eg⟩:=wt.pair
 obtain ⟨cd,wu⟩:=eg.rowCs
 subst wu
 have br2:=eg.rowLen
 have eh:=eg.at1
 obtain ⟨ce,wv⟩:=eh.rowCs
 subst wv
 have br3:=eh.rowLen
 have ak:St wf (cR 9 Ro.str ce e.2.2.2.2.2::cR 3 (Ro.int .i64) cd e.2.2.2.2.1::cR 3 (Ro.int .i64) cc e.2.2.2.1::cR 47 Aj s e.2.2.1::cR 9 Ro.str bp e.2.1::cR 9 Ro.str bo e.1::cW 32 r19 [sv bo,sv bp,sv s,sv cc,sv cd,sv ce] ::cO 32 (Rep.prod (Rep.row 9 Ro.str) (Rep.prod (Rep.row 9 Ro.str) (Rep.prod (Rep.row 47 Aj) (Rep.prod (Rep.row 3 (Ro.int .i64)) (Rep.prod (Rep.row 3 (Ro.int .i64)) (Rep.row 9 Ro.str)))))) (some ⟨r2,0,none⟩) bg::cW 66 r1 [sv g_0.1,sv g_0.2.1,sv g_0.2.2.1, .string g_0.2.2.2.1,sv g_0.2.2.2.2.1] ::F) _:=eh
 refine AA (x:=bo) ak.at6 rfl ?_
 refine AA (x:=bp) ak.at6 rfl ?_
 refine AA (x:=bo) ak.at6 rfl ?_
 refine AA (x:=bp) ak.at6 rfl ?_
 refine AA (x:=s) ak.at6 rfl ?_
 refine AA (x:=cc) ak.at6 rfl ?_
 refine AA (x:=cd) ak.at6 rfl ?_
 refine AA (x:=ce) ak.at6 rfl ?_
 refine AA (x:=g_0.2.2.2.1) ak.at8 rfl ?_
 have ww:=ak.at5
 have wx:=ww.at5
 have wy:=wx.at1
 obtain ⟨br4,wz,hd⟩:=bS hd
 refine AK (CJ (p_0:=(bo,bp,s,cc,cd,ce,())) wy wz) ?_
 rintro _ br5 ⟨br6,t94,b0,rfl,rfl,x0⟩
 refine ⟨t94,rfl,?_⟩
 refine Ac (vs:= [.int .i64 t94]) x0 fun r95 br7 x1=> ?_
 refine Ac (vs:= [.int .i64 (IntKind.wrap .i64 (((bo.2.1:Nat):Int) +((bp.2.1:Nat):Int))), .slice (some ⟨r95,0,none⟩) 1 1, .int .i64 (0:Int)]) x1 fun r96 br8 x2=> ?_
 refine AJ x2.at8 rfl rfl fun br9 x3=> ?_
 have x4:=x3.at3
 have x5:=x4.at4
 have x6:=St.lit (r:=(Ro.int .i64)) (l:=([t94] :List Int)) (n:=1) x5.at4 (.cons (a:= [_]) rfl .nil) rfl (by decide)
 obtain ⟨cf,b1,x7,x8⟩:=St.freezeRow (t:=((some ⟨r95,0,none⟩,1,1):Slc)) x6
 have x9:=St.lit (r:=Aj) (l:=([((IntKind.wrap .i64 ((((List.length e.1):Nat):Int) +(((List.length e.2.1):Nat):Int))),([t94] :List Int),(0:Int))] :List Bu)) (n:=1) x8.at3 (.cons (a:= [_,_,_]) ⟨[_],_,rfl,(show _=_ by rw [wl,wo]; rfl),⟨[_],_,rfl,⟨((some ⟨r95,0,none⟩,1,1):Slc),rfl,x7⟩,rfl⟩⟩ .nil) rfl (by decide)
 have xa:=x9.at6
 have xb:=xa.at6
 have xc:=xb.at6
 have xd:=xc.at1
 have xe:=St.unpair xd
 have xf:=xe.at1
 have xg:=St.unpair xf
 have xh:=xg.at1
 have xi:=St.unpair xh
 have xj:=xi.at1
 have xk:=St.unpair xj
 have xl:=xk.at1
 have xm:=St.unpair xl
 have xn:St cf (cO 32 (Rep.prod (Rep.row 9 Ro.str) (Rep.prod (Rep.row 9 Ro.str) (Rep.prod (Rep.row 47 Aj) (Rep.prod (Rep.row 3 (Ro.int .i64)) (Rep.prod (Rep.row 3 (Ro.int .i64)) (Rep.row 9 Ro.str)))))) (some ⟨r19,0,none⟩) (e.1,e.2.1,([((IntKind.wrap .i64 ((((List.length e.1):Nat):Int) +(((List.length e.2.1):Nat):Int))),([t94] :List Int),(0:Int))] :List Bu),e.2.2.2.1,e.2.2.2.2.1,e.2.2.2.2.2)::cR 47 Aj s e.2.2.1::cO 32 (Rep.prod (Rep.row 9 Ro.str) (Rep.prod (Rep.row 9 Ro.str) (Rep.prod (Rep.row 47 Aj) (Rep.prod (Rep.row 3 (Ro.int .i64)) (Rep.prod (Rep.row 3 (Ro.int .i64)) (Rep.row 9 Ro.str)))))) (some ⟨r2,0,none⟩) bg::cW 66 r1 [sv g_0.1,sv g_0.2.1,sv g_0.2.2.1, .string g_0.2.2.2.1,sv g_0.2.2.2.2.1] ::F) _:=St.shut xm.at1
 have xo:=xn.at3
 have xp:=xo.at2
 have xq:=xp.at2
 have xr:=xq.at3
 obtain ⟨xs,xt,hd⟩:=bS hd
 refine Ad (fun (y:Int×ByteArray×Int×Unit) w_ g=> ∃ψ:AE,∃i7:Au,∃i8:Au,Sub cf ψ∧AR.next (i7,i8)=g∧St ψ (cO 32 (Rep.prod (Rep.row 9 Ro.str) (Rep.prod (Rep.row 9 Ro.str) (Rep.prod (Rep.row 47 Aj) (Rep.prod (Rep.row 3 (Ro.int .i64)) (Rep.prod (Rep.row 3 (Ro.int .i64)) (Rep.row 9 Ro.str)))))) (some ⟨r2,0,none⟩) i7::cO 32 (Rep.prod (Rep.row 9 Ro.str) (Rep.prod (Rep.row 9 Ro.str) (Rep.prod (Rep.row 47 Aj) (Rep.prod (Rep.row 3 (Ro.int .i64)) (Rep.prod (Rep.row 3 (Ro.int .i64)) (Rep.row 9 Ro.str)))))) (some ⟨r19,0,none⟩) i8::cR 47 Aj s e.2.2.1::cW 66 r1 [sv g_0.1,sv g_0.2.1,sv g_0.2.2.1, .string g_0.2.2.2.1,sv g_0.2.2.2.2.1] ::F) w_) (g:=xs) ?_ ?_
 ·refine BQ xt (fun xu (y:Int×ByteArray×Int×Unit) w_ g=> ∃ψ:AE,∃i9:Au,∃ia:Au,Sub cf ψ∧y.1=xu∧(i9,ia)=g∧St ψ (cO 32 (Rep.prod (Rep.row 9 Ro.str) (Rep.prod (Rep.row 9 Ro.str) (Rep.prod (Rep.row 47 Aj) (Rep.prod (Rep.row 3 (Ro.int .i64)) (Rep.prod (Rep.row 3 (Ro.int .i64)) (Rep.row 9 Ro.str)))))) (some ⟨r2,0,none⟩) i9::cO 32 (Rep.prod (Rep.row 9 Ro.str) (Rep.prod (Rep.row 9 Ro.str) (Rep.prod (Rep.row 47 Aj) (Rep.prod (Rep.row 3 (Ro.int .i64)) (Rep.prod (Rep.row 3 (Ro.int .i64)) (Rep.row 9 Ro.str)))))) (some ⟨r19,0,none⟩) ia::cR 47 Aj s e.2.2.1::cW 66 r1 [sv g_0.1,sv g_0.2.1,sv g_0.2.2.1, .string g_0.2.2.2.1,sv g_0.2.2.2.2.1] ::F) w_) ((0:Int),z41.2.1,z41.2.2.1,()) rfl ⟨cf,bg,(e.1,e.2.1,([((IntKind.wrap .i64 ((((List.length e.1):Nat):Int) +(((List.length e.2.1):Nat):Int))),([t94] :List Int),(0:Int))] :List Bu),e.2.2.2.1,e.2.2.2.2.1,e.2.2.2.2.2),(Sub.refl _),rfl,rfl,xr⟩ ?_ ?_
  ·rintro _ z98 bs0 _ _ ⟨xv,ei,c,ba,rfl,rfl,bh⟩ a3 xw ib ic ie
   try dsimp only at a3 xw ib ic
   refine AA (x:=g_0.2.2.2.2.1) bh.at3 rfl ?_
   refine Az (by rw [c1]; exact decide_eq_true ib) ?_
   refine AA (x:=g_0.2.2.2.2.1) bh.at3 rfl ?_
   obtain ⟨d,xx,a3⟩:=bS a3
   obtain ⟨bs1,bs2,xy,xz,y0,cg⟩:=(b8.mono ((((((w.trans a2).trans aj).trans az).trans b0).trans b1).trans ba)).get xx
   refine AG _ xy (AZ xz ?_)
   obtain ⟨_,_,rfl,y1,y2⟩:=y0
   obtain rfl:=y1
   obtain ⟨_,_,rfl,y3,y4⟩:=y2
   obtain ⟨a0,rfl,ej⟩:=y3
   have ig:=ej.length
   obtain ⟨_,_,rfl,y5,y6⟩:=y4
   obtain rfl:=y5
   obtain rfl:=y6
   refine AL (x:=d.1) (AB (Sub.trans (Sub.refl _) bh.sub) (cg 0 _ rfl)) rfl ?_
   refine AL (x:=a0) (by rw [AV]; exact (AB (Sub.trans (Sub.refl _) bh.sub) (cg 1 _ rfl))) rfl ?_
   refine AL (x:=d.2.2.1) (by rw [AV]; exact (AB (Sub.trans (Sub.refl _) bh.sub) (cg 2 _ rfl))) rfl ?_
   refine AL (x:=d.2.2.2) (by rw [AV]; exact (AB (Sub.trans (Sub.refl _) bh.sub) (cg 3 _ rfl))) rfl ?_
   refine Ac (vs:= [.string ({data:= #[] }), .slice none 0 0, .string ({data:= #[] }), .string ({data:= #[] })]) bh fun r106 bs3 y7=> ?_
   refine AJ y7 rfl rfl fun bs4 y8=> ?_
   refine AJ y8 rfl rfl fun bs5 y9=> ?_
   refine AJ y9 rfl rfl fun bs6 ya=> ?_
   refine AJ ya rfl rfl fun bs7 yb=> ?_
   obtain ⟨yc,bs8,ih,bs9,yd⟩:=yb.at2.open
   obtain rfl:r19=yc:=by simpa using ih
   clear ih
   have ye:=yd.at1
   obtain ⟨bt0,bt1,rfl,bt2,ek⟩:=ye.pair
   obtain ⟨f,yf⟩:=ek.rowCs
   subst yf
   have yg:=ek.rowLen
   have yh:=ek.at1
   obtain ⟨bt3,bt4,rfl,bt5,el⟩:=yh.pair
   obtain ⟨o,yi⟩:=el.rowCs
   subst yi
   have bt6:=el.rowLen
   have yj:=el.at1
   obtain ⟨bt7,bt8,rfl,bt9,em⟩:=yj.pair
   obtain ⟨i,yk⟩:=em.rowCs
   subst yk
   have bu0:=em.rowLen
   have yl:=em.at1
   obtain ⟨bu1,bu2,rfl,bu3,en⟩:=yl.pair
   obtain ⟨k,ym⟩:=en.rowCs
   subst ym
   have bu4:=en.rowLen
   have yn:=en.at1
   obtain ⟨bu5,bu6,rfl,bu7,eo⟩:=yn.pair
   obtain ⟨p,yo⟩:=eo.rowCs
   subst yo
   have bu8:=eo.rowLen
   have ep:=eo.at1
   obtain ⟨q,yp⟩:=ep.rowCs
   subst yp
   have bu9:=ep.rowLen
   have bb:St xv (cR 9 Ro.str q c.2.2.2.2.2::cR 3 (Ro.int .i64) p c.2.2.2.2.1::cR 3 (Ro.int .i64) k c.2.2.2.1::cR 47 Aj i c.2.2.1::cR 9 Ro.str o c.2.1::cR 9 Ro.str f c.1::cW 32 r19 [sv f,sv o,sv i,sv k,sv p,sv q] ::cW 90 r106 [.string d.1,sv a0, .string d.2.2.1, .string d.2.2.2] ::cO 32 (Rep.prod (Rep.row 9 Ro.str) (Rep.prod (Rep.row 9 Ro.str) (Rep.prod (Rep.row 47 Aj) (Rep.prod (Rep.row 3 (Ro.int .i64)) (Rep.prod (Rep.row 3 (Ro.int .i64)) (Rep.row 9 Ro.str)))))) (some ⟨r2,0,none⟩) ei::cR 47 Aj s e.2.2.1::cW 66 r1 [sv g_0.1,sv g_0.2.1,sv g_0.2.2.1, .string g_0.2.2.2.1,sv g_0.2.2.2.2.1] ::F) _:=ep
   refine AA (x:=f) bb.at6 rfl ?_
   refine AA (x:=o) bb.at6 rfl ?_
   refine AA (x:=i) bb.at6 rfl ?_
   refine AA (x:=k) bb.at6 rfl ?_
   refine AA (x:=p) bb.at6 rfl ?_
   refine AA (x:=q) bb.at6 rfl ?_
   refine AA (x:=d.1) bb.at7 rfl ?_
   have yq:=bb.at5
   have yr:=yq.at5
   have ys:=yr.at1
   obtain ⟨bv0,yt,a3⟩:=bS a3
   refine AK (CJ (p_0:=(f,o,i,k,p,q,())) ys yt) ?_
   rintro _ bv1 ⟨ch,t114,b2,rfl,rfl,yu⟩
   refine ⟨t114,rfl,?_⟩
   refine Ac (vs:= [.int .i64 (0:Int), .slice none 0 0, .int .i64 (0:Int)]) yu fun r115 bv2 yv=> ?_
   refine AJ yv rfl rfl fun bv3 yw=> ?_
   refine AJ yw rfl rfl fun bv4 yx=> ?_
   refine AJ yx rfl rfl fun bv5 yy=> ?_
   have yz:=yy.nil 3 (Ro.int .i64)
   have z0:=St.unro (r:=(Ro.int .i64)) (cs:= [.int .i64 (0:Int)]) (x:=(0:Int)) yz rfl
   have z1:=z0.at1
   have z2:=St.unpair z1
   have z3:=St.unro (r:=(Ro.int .i64)) (cs:= [.int .i64 t114]) (x:=t114) z2 rfl
   have z4:=St.unpair z3
   have z5:St ch (cO 47 (Rep.prod (Rep.ro (Ro.int .i64)) (Rep.prod (Rep.row 3 (Ro.int .i64)) (Rep.ro (Ro.int .i64)))) (some ⟨r115,0,none⟩) (t114,([] :List Int),(0:Int))::cR 9 Ro.str f c.1::cR 9 Ro.str o c.2.1::cR 9 Ro.str q c.2.2.2.2.2::cR 3 (Ro.int .i64) p c.2.2.2.2.1::cR 3 (Ro.int .i64) k c.2.2.2.1::cR 47 Aj i c.2.2.1::cW 32 r19 [sv f,sv o,sv i,sv k,sv p,sv q] ::cW 90 r106 [.string d.1,sv a0, .string d.2.2.1, .string d.2.2.2] ::cO 32 (Rep.prod (Rep.row 9 Ro.str) (Rep.prod (Rep.row 9 Ro.str) (Rep.prod (Rep.row 47 Aj) (Rep.prod (Rep.row 3 (Ro.int .i64)) (Rep.prod (Rep.row 3 (Ro.int .i64)) (Rep.row 9 Ro.str)))))) (some ⟨r2,0,none⟩) ei::cR 47 Aj s e.2.2.1::cW 66 r1 [sv g_0.1,sv g_0.2.1,sv g_0.2.2.1, .string g_0.2.2.2.1,sv g_0.2.2.2.2.1] ::F) _:=St.shut z4.at1
   have z6:=z5.at11
   have z7:=z6.at11
   have z8:=z7.at10
   have z9:=z8.at10
   have za:=z9.at10
   have zb:=za.at10
   have zc:=zb.at10
   have zd:=zc.at10
   have ze:=zd.at10
   have zf:=ze.at10
   have zg:=zf.at10
   have zh:=zg.at11
   obtain ⟨zi,zj,a3⟩:=bS a3
   refine Ad (fun (y:Int×ByteArray×Int×Unit) w_ g=> ∃ψ:AE,∃ii:Au,∃ij:Bu,Sub ch ψ∧AR.next (ii,ij)=g∧St ψ (cO 32 (Rep.prod (Rep.row 9 Ro.str) (Rep.prod (Rep.row 9 Ro.str) (Rep.prod (Rep.row 47 Aj) (Rep.prod (Rep.row 3 (Ro.int .i64)) (Rep.prod (Rep.row 3 (Ro.int .i64)) (Rep.row 9 Ro.str)))))) (some ⟨r2,0,none⟩) ii::cO 47 (Rep.prod (Rep.ro (Ro.int .i64)) (Rep.prod (Rep.row 3 (Ro.int .i64)) (Rep.ro (Ro.int .i64)))) (some ⟨r115,0,none⟩) ij::cR 9 Ro.str f c.1::cR 9 Ro.str o c.2.1::cR 9 Ro.str q c.2.2.2.2.2::cR 3 (Ro.int .i64) p c.2.2.2.2.1::cR 3 (Ro.int .i64) k c.2.2.2.1::cR 47 Aj i c.2.2.1::cW 32 r19 [sv f,sv o,sv i,sv k,sv p,sv q] ::cW 90 r106 [.string d.1,sv a0, .string d.2.2.1, .string d.2.2.2] ::cR 47 Aj s e.2.2.1::cW 66 r1 [sv g_0.1,sv g_0.2.1,sv g_0.2.2.1, .string g_0.2.2.2.1,sv g_0.2.2.2.2.1] ::F) w_) (g:=zi) ?_ ?_
   ·refine BQ zj (fun zk (y:Int×ByteArray×Int×Unit) w_ g=> ∃ψ:AE,∃ik:Au,∃il:Bu,Sub ch ψ∧y.1=zk∧(ik,il)=g∧St ψ (cO 32 (Rep.prod (Rep.row 9 Ro.str) (Rep.prod (Rep.row 9 Ro.str) (Rep.prod (Rep.row 47 Aj) (Rep.prod (Rep.row 3 (Ro.int .i64)) (Rep.prod (Rep.row 3 (Ro.int .i64)) (Rep.row 9 Ro.str)))))) (some ⟨r2,0,none⟩) ik::cO 47 (Rep.prod (Rep.ro (Ro.int .i64)) (Rep.prod (Rep.row 3 (Ro.int .i64)) (Rep.ro (Ro.int .i64)))) (some ⟨r115,0,none⟩) il::cR 9 Ro.str f c.1::cR 9 Ro.str o c.2.1::cR 9 Ro.str q c.2.2.2.2.2::cR 3 (Ro.int .i64) p c.2.2.2.2.1::cR 3 (Ro.int .i64) k c.2.2.2.1::cR 47 Aj i c.2.2.1::cW 32 r19 [sv f,sv o,sv i,sv k,sv p,sv q] ::cW 90 r106 [.string d.1,sv a0, .string d.2.2.1, .string d.2.2.2] ::cR 47 Aj s e.2.2.1::cW 66 r1 [sv g_0.1,sv g_0.2.1,sv g_0.2.2.1, .string g_0.2.2.2.1,sv g_0.2.2.2.2.1] ::F) w_) ((0:Int),z98.2.1,z98.2.2.1,()) rfl ⟨ch,ei,(t114,([] :List Int),(0:Int)),(Sub.refl _),rfl,rfl,zh⟩ ?_ ?_
    ·rintro _ z117 bv6 _ _ ⟨bv7,ab,a4,ci,rfl,rfl,al⟩ a5 zl im io zm
     try dsimp only at a5 zl im io
     refine AA (x:=a0) al.at9 rfl ?_
     refine Az (by rw [ig]; exact decide_eq_true im) ?_
     refine AA (x:=f) al.at8 rfl ?_
     refine AA (x:=o) al.at8 rfl ?_
     refine AA (x:=i) al.at8 rfl ?_
     refine AA (x:=k) al.at8 rfl ?_
     refine AA (x:=p) al.at8 rfl ?_
     refine AA (x:=q) al.at8 rfl ?_
     refine AA (x:=a0) al.at9 rfl ?_
     obtain ⟨zn,zo,a5⟩:=bS a5
     obtain ⟨bv8,bv9,zp,zq,zr,zs⟩:=(ej.mono (b2.trans ci)).get zo
     refine AG _ zp (AZ zq ?_)
     obtain rfl:=zr
     refine AL (x:=zn) (AB (Sub.trans (Sub.refl _) al.sub) (zs 0 _ rfl)) rfl ?_
     have zt:=al.at2
     have zu:=zt.at3
     have zv:=zu.at1
     obtain ⟨bw0,zw,a5⟩:=bS a5
     refine AK (CJ (p_0:=(f,o,i,k,p,q,())) zv zw) ?_
     rintro _ bw1 ⟨a8,t128,er,rfl,rfl,cj⟩
     refine ⟨t128,rfl,?_⟩
     refine AH a5 rfl (fun _ a5=> ?_) (fun _ a5=> ?_)
     ·refine AA (x:=a0) cj.at9 rfl ?_
      obtain ⟨ip,zx,a5⟩:=bS a5
      obtain ⟨bw2,bw3,zy,zz,a00,iq⟩:=(ej.mono ((b2.trans ci).trans er)).get zx
      refine AG _ zy (AZ zz ?_)
      obtain rfl:=a00
      refine AL (x:=ip) (AB (Sub.trans (Sub.refl _) cj.sub) (iq 0 _ rfl)) rfl ?_
      obtain ⟨a01,bw4,ir,bw5,a02⟩:=cj.at2.open
      obtain rfl:r2=a01:=by simpa using ir
      clear ir
      have a03:=a02.at1
      obtain ⟨bw6,bw7,rfl,bw8,es⟩:=a03.pair
      obtain ⟨it,a04⟩:=es.rowCs
      subst a04
      have bw9:=es.rowLen
      have a05:=es.at1
      obtain ⟨bx0,bx1,rfl,bx2,eu⟩:=a05.pair
      obtain ⟨iu,a06⟩:=eu.rowCs
      subst a06
      have bx3:=eu.rowLen
      have a07:=eu.at1
      obtain ⟨bx4,bx5,rfl,bx6,ev⟩:=a07.pair
      obtain ⟨iv,a08⟩:=ev.rowCs
      subst a08
      have bx7:=ev.rowLen
      have a09:=ev.at1
      obtain ⟨bx8,bx9,rfl,by0,ew⟩:=a09.pair
      obtain ⟨iw,a10⟩:=ew.rowCs
      subst a10
      have by1:=ew.rowLen
      have a11:=ew.at1
      obtain ⟨by2,by3,rfl,by4,ex⟩:=a11.pair
      obtain ⟨ix,a12⟩:=ex.rowCs
      subst a12
      have by5:=ex.rowLen
      have ey:=ex.at1
      obtain ⟨iy,a13⟩:=ey.rowCs
      subst a13
      have by6:=ey.rowLen
      have a14:St a8 (cR 9 Ro.str iy ab.2.2.2.2.2::cR 3 (Ro.int .i64) ix ab.2.2.2.2.1::cR 3 (Ro.int .i64) iw ab.2.2.2.1::cR 47 Aj iv ab.2.2.1::cR 9 Ro.str iu ab.2.1::cR 9 Ro.str it ab.1::cW 32 r2 [sv it,sv iu,sv iv,sv iw,sv ix,sv iy] ::cR 9 Ro.str f c.1::cR 9 Ro.str o c.2.1::cO 47 (Rep.prod (Rep.ro (Ro.int .i64)) (Rep.prod (Rep.row 3 (Ro.int .i64)) (Rep.ro (Ro.int .i64)))) (some ⟨r115,0,none⟩) a4::cR 9 Ro.str q c.2.2.2.2.2::cR 3 (Ro.int .i64) p c.2.2.2.2.1::cR 3 (Ro.int .i64) k c.2.2.2.1::cR 47 Aj i c.2.2.1::cW 32 r19 [sv f,sv o,sv i,sv k,sv p,sv q] ::cW 90 r106 [.string d.1,sv a0, .string d.2.2.1, .string d.2.2.2] ::cR 47 Aj s e.2.2.1::cW 66 r1 [sv g_0.1,sv g_0.2.1,sv g_0.2.2.1, .string g_0.2.2.2.1,sv g_0.2.2.2.2.1] ::F) _:=ey
      refine AJ a14.at6 rfl rfl fun by7 a15=> ?_
      refine AJ a15 rfl rfl fun by8 a16=> ?_
      refine AJ a16 rfl rfl fun by9 a17=> ?_
      refine AJ a17 rfl rfl fun bz0 a18=> ?_
      refine AJ a18 rfl rfl fun bz1 a19=> ?_
      refine AJ a19 rfl rfl fun bz2 b3=> ?_
      refine Ab (AB (Sub.trans (Sub.refl _) b3.sub) (iq 0 _ rfl)) ?_
      refine Ab (St.cell (b:=r106) (j:=1) b3.at15 rfl) ?_
      refine AA (x:=((none,0,0):Slc)) b3 rfl ?_
      refine AA (x:=((none,0,0):Slc)) b3 rfl ?_
      refine AA (x:=((none,0,0):Slc)) b3 rfl ?_
      refine AA (x:=((none,0,0):Slc)) b3 rfl ?_
      refine AA (x:=((none,0,0):Slc)) b3 rfl ?_
      refine AA (x:=((none,0,0):Slc)) b3 rfl ?_
      obtain rfl:=iS a5
      obtain rfl:=zm _ rfl
      try dsimp only at a3
      obtain rfl:=iS a3
      obtain rfl:=ie _ rfl
      try dsimp only at hd
      obtain rfl:=iS hd
      have a20:=b3.tail
      have a21:=a20.tail
      have a22:=a21.tail
      have a23:=a22.tail
      have a24:=a23.tail
      have a25:=a24.tail
      have a26:=a25.tail
      have a27:=a26.tail
      have a28:=a27.tail
      have a29:=a28.tail
      have a30:=a29.tail
      have a31:=a30.tail
      have a32:=a31.tail
      have a33:=a32.tail
      have a34:=a33.tail
      have a35:=a34.tail
      have a36:=a35.tail
      have a37:=a36.tail
      exact AU (AY (AU (AY (AC ⟨a8,((((none,0,0):Slc),((none,0,0):Slc),((none,0,0):Slc),((none,0,0):Slc),((none,0,0):Slc),((none,0,0):Slc),()),(16:Int),ip,()),([] :List ByteArray),([] :List ByteArray),([] :List Bu),([] :List Int),([] :List Int),([] :List ByteArray),(((((((((w.trans a2).trans aj).trans az).trans b0).trans b1).trans ba).trans b2).trans ci).trans er),rfl,rfl,(Ro.SliceIs.nil Ro.str a8),(Ro.SliceIs.nil Ro.str a8),(Ro.SliceIs.nil Aj a8),(Ro.SliceIs.nil (Ro.int .i64) a8),(Ro.SliceIs.nil (Ro.int .i64) a8),(Ro.SliceIs.nil Ro.str a8),a37⟩))))
     obtain ⟨a38,bz3,iz,bz4,a39⟩:=cj.at3.open
     obtain rfl:r115=a38:=by simpa using iz
     clear iz
     have a40:=a39.at1
     obtain ⟨bz5,bz6,rfl,bz7,a41⟩:=a40.pair
     obtain ⟨a42,a43⟩:=a41.ro
     subst a42
     obtain ⟨bz8,bz9,rfl,c00,ez⟩:=a43.pair
     obtain ⟨f0,a44⟩:=ez.rowCs
     subst a44
     have c01:=ez.rowLen
     have a45:=ez.at1
     obtain ⟨a46,a47⟩:=a45.ro
     subst a46
     have j0:St a8 (cR 3 (Ro.int .i64) f0 a4.2.1::cW 47 r115 [.int .i64 (a4.1),sv f0, .int .i64 (a4.2.2)] ::cR 9 Ro.str f c.1::cR 9 Ro.str o c.2.1::cO 32 (Rep.prod (Rep.row 9 Ro.str) (Rep.prod (Rep.row 9 Ro.str) (Rep.prod (Rep.row 47 Aj) (Rep.prod (Rep.row 3 (Ro.int .i64)) (Rep.prod (Rep.row 3 (Ro.int .i64)) (Rep.row 9 Ro.str)))))) (some ⟨r2,0,none⟩) ab::cR 9 Ro.str q c.2.2.2.2.2::cR 3 (Ro.int .i64) p c.2.2.2.2.1::cR 3 (Ro.int .i64) k c.2.2.2.1::cR 47 Aj i c.2.2.1::cW 32 r19 [sv f,sv o,sv i,sv k,sv p,sv q] ::cW 90 r106 [.string d.1,sv a0, .string d.2.2.1, .string d.2.2.2] ::cR 47 Aj s e.2.2.1::cW 66 r1 [sv g_0.1,sv g_0.2.1,sv g_0.2.2.1, .string g_0.2.2.2.1,sv g_0.2.2.2.2.1] ::F) _:=a47
     refine AA (x:=f0) j0.at1 rfl ?_
     refine Ac (vs:= [.int .i64 t128]) j0 fun r139 c02 j1=> ?_
     have a48:=St.cells j1
     have a49:=j1.tail
     obtain ⟨bw,a50,a5⟩:=bS a5
     refine Aq (r:=(Ro.int .i64)) (ms:=([t128] :List Int)) CT a49 rfl a48 (.cons (a:= [_]) rfl .nil) rfl a50 ?_
     intro t140 c03 j2
     have c04:=j2.rowLen
     refine AJ j2.at1 rfl rfl fun c05 j3=> ?_
     refine AA (x:=f) j3.at9 rfl ?_
     have a51:=j3.at1
     have a52:=St.unro (r:=(Ro.int .i64)) (cs:= [.int .i64 (a4.2.2)]) (x:=(a4.2.2)) a51 rfl
     have a53:=a52.at1
     have a54:=St.unpair a53
     have a55:=St.unro (r:=(Ro.int .i64)) (cs:= [.int .i64 (a4.1)]) (x:=(a4.1)) a54 rfl
     have a56:=St.unpair a55
     have ck:St a8 (cO 47 (Rep.prod (Rep.ro (Ro.int .i64)) (Rep.prod (Rep.row 3 (Ro.int .i64)) (Rep.ro (Ro.int .i64)))) (some ⟨r115,0,none⟩) ((a4.1),bw,(a4.2.2))::cR 9 Ro.str f c.1::cR 9 Ro.str o c.2.1::cO 32 (Rep.prod (Rep.row 9 Ro.str) (Rep.prod (Rep.row 9 Ro.str) (Rep.prod (Rep.row 47 Aj) (Rep.prod (Rep.row 3 (Ro.int .i64)) (Rep.prod (Rep.row 3 (Ro.int .i64)) (Rep.row 9 Ro.str)))))) (some ⟨r2,0,none⟩) ab::cR 9 Ro.str q c.2.2.2.2.2::cR 3 (Ro.int .i64) p c.2.2.2.2.1::cR 3 (Ro.int .i64) k c.2.2.2.1::cR 47 Aj i c.2.2.1::cW 32 r19 [sv f,sv o,sv i,sv k,sv p,sv q] ::cW 90 r106 [.string d.1,sv a0, .string d.2.2.1, .string d.2.2.2] ::cR 47 Aj s e.2.2.1::cW 66 r1 [sv g_0.1,sv g_0.2.1,sv g_0.2.2.1, .string g_0.2.2.2.1,sv g_0.2.2.2.2.1] ::F) _:=St.shut a56.at1
     obtain ⟨a57,bi,a5⟩:=bS a5
     refine Ak (fun (y:Unit) w_ g=> ∃ψ:AE,∃j4:Bu,Sub a8 ψ∧j4=g∧St ψ (cO 47 (Rep.prod (Rep.ro (Ro.int .i64)) (Rep.prod (Rep.row 3 (Ro.int .i64)) (Rep.ro (Ro.int .i64)))) (some ⟨r115,0,none⟩) j4::cR 9 Ro.str f c.1::cR 9 Ro.str o c.2.1::cO 32 (Rep.prod (Rep.row 9 Ro.str) (Rep.prod (Rep.row 9 Ro.str) (Rep.prod (Rep.row 47 Aj) (Rep.prod (Rep.row 3 (Ro.int .i64)) (Rep.prod (Rep.row 3 (Ro.int .i64)) (Rep.row 9 Ro.str)))))) (some ⟨r2,0,none⟩) ab::cR 9 Ro.str q c.2.2.2.2.2::cR 3 (Ro.int .i64) p c.2.2.2.2.1::cR 3 (Ro.int .i64) k c.2.2.2.1::cR 47 Aj i c.2.2.1::cW 32 r19 [sv f,sv o,sv i,sv k,sv p,sv q] ::cW 90 r106 [.string d.1,sv a0, .string d.2.2.1, .string d.2.2.2] ::cR 47 Aj s e.2.2.1::cW 66 r1 [sv g_0.1,sv g_0.2.1,sv g_0.2.2.1, .string g_0.2.2.2.1,sv g_0.2.2.2.2.1] ::F) w_) (g:=a57) ?_ ?_
     ·refine AH bi (by rw [yg] <;>rfl) (fun _ bi=> ?_) (fun _ bi=> ?_)
      ·refine AA (x:=k) ck.at8 rfl ?_
       obtain ⟨bx,a58,bi⟩:=bS bi
       obtain ⟨c06,c07,a59,a60,a61,a62⟩:=(ck.at6).get a58
       refine AG _ a59 (AZ a60 ?_)
       obtain rfl:=a61
       refine AL (x:=bx) (a62 0 _ rfl) rfl ?_
       obtain ⟨a63,c08,j5,c09,a64⟩:=ck.open
       obtain rfl:r115=a63:=by simpa using j5
       clear j5
       have a65:=a64.at1
       obtain ⟨c10,c11,rfl,c12,a66⟩:=a65.pair
       obtain ⟨a67,a68⟩:=a66.ro
       subst a67
       obtain ⟨c13,c14,rfl,c15,f1⟩:=a68.pair
       obtain ⟨j6,a69⟩:=f1.rowCs
       subst a69
       have c16:=f1.rowLen
       have a70:=f1.at1
       obtain ⟨a71,a72⟩:=a70.ro
       subst a71
       have a73:St a8 (cR 3 (Ro.int .i64) j6 bw::cW 47 r115 [.int .i64 ((a4.1)),sv j6, .int .i64 ((a4.2.2))] ::cR 9 Ro.str f c.1::cR 9 Ro.str o c.2.1::cO 32 (Rep.prod (Rep.row 9 Ro.str) (Rep.prod (Rep.row 9 Ro.str) (Rep.prod (Rep.row 47 Aj) (Rep.prod (Rep.row 3 (Ro.int .i64)) (Rep.prod (Rep.row 3 (Ro.int .i64)) (Rep.row 9 Ro.str)))))) (some ⟨r2,0,none⟩) ab::cR 9 Ro.str q c.2.2.2.2.2::cR 3 (Ro.int .i64) p c.2.2.2.2.1::cR 3 (Ro.int .i64) k c.2.2.2.1::cR 47 Aj i c.2.2.1::cW 32 r19 [sv f,sv o,sv i,sv k,sv p,sv q] ::cW 90 r106 [.string d.1,sv a0, .string d.2.2.1, .string d.2.2.2] ::cR 47 Aj s e.2.2.1::cW 66 r1 [sv g_0.1,sv g_0.2.1,sv g_0.2.2.1, .string g_0.2.2.2.1,sv g_0.2.2.2.2.1] ::F) _:=a72
       refine AJ a73.at1 rfl rfl fun c17 a74=> ?_
       have a75:=a74.at1
       have a76:=St.unro (r:=(Ro.int .i64)) (cs:= [.int .i64 bx]) (x:=bx) a75 rfl
       have a77:=a76.at1
       have a78:=St.unpair a77
       have a79:=St.unro (r:=(Ro.int .i64)) (cs:= [.int .i64 ((a4.1))]) (x:=((a4.1))) a78 rfl
       have a80:=St.unpair a79
       have a81:St a8 (cO 47 (Rep.prod (Rep.ro (Ro.int .i64)) (Rep.prod (Rep.row 3 (Ro.int .i64)) (Rep.ro (Ro.int .i64)))) (some ⟨r115,0,none⟩) (((a4.1)),bw,bx)::cR 9 Ro.str f c.1::cR 9 Ro.str o c.2.1::cO 32 (Rep.prod (Rep.row 9 Ro.str) (Rep.prod (Rep.row 9 Ro.str) (Rep.prod (Rep.row 47 Aj) (Rep.prod (Rep.row 3 (Ro.int .i64)) (Rep.prod (Rep.row 3 (Ro.int .i64)) (Rep.row 9 Ro.str)))))) (some ⟨r2,0,none⟩) ab::cR 9 Ro.str q c.2.2.2.2.2::cR 3 (Ro.int .i64) p c.2.2.2.2.1::cR 3 (Ro.int .i64) k c.2.2.2.1::cR 47 Aj i c.2.2.1::cW 32 r19 [sv f,sv o,sv i,sv k,sv p,sv q] ::cW 90 r106 [.string d.1,sv a0, .string d.2.2.1, .string d.2.2.2] ::cR 47 Aj s e.2.2.1::cW 66 r1 [sv g_0.1,sv g_0.2.1,sv g_0.2.2.1, .string g_0.2.2.2.1,sv g_0.2.2.2.2.1] ::F) _:=St.shut a80.at1
       have a82:=a81.at11
       have a83:=a82.at11
       have a84:=a83.at11
       have a85:=a84.at11
       have a86:=a85.at11
       have a87:=a86.at11
       have a88:=a87.at11
       have a89:=a88.at11
       have a90:=a89.at11
       have a91:=a90.at11
       have a92:=a91.at11
       have a93:=a92.at11
       obtain rfl:=iS bi
       exact AN (()) rfl ⟨a8,(((a4.1)),bw,bx),(Sub.refl _),rfl,a93⟩
      have a94:=ck.at11
      have a95:=a94.at11
      have a96:=a95.at11
      have a97:=a96.at11
      have a98:=a97.at11
      have a99:=a98.at11
      have aa0:=a99.at11
      have aa1:=aa0.at11
      have aa2:=aa1.at11
      have aa3:=aa2.at11
      have aa4:=aa3.at11
      have aa5:=aa4.at11
      obtain rfl:=iS bi
      exact AN (()) rfl ⟨a8,((a4.1),bw,(a4.2.2)),(Sub.refl _),rfl,aa5⟩
     rintro z142 c18 ⟨aa6,aa7,aa8,rfl,aa9⟩
     try dsimp only at a5
     have ab0:=aa9.at11
     have ab1:=ab0.at11
     have ab2:=ab1.at11
     have ab3:=ab2.at11
     have ab4:=ab3.at11
     have ab5:=ab4.at11
     have ab6:=ab5.at11
     have ab7:=ab6.at11
     have ab8:=ab7.at10
     have ab9:=ab8.at10
     have ac0:=ab9.at10
     have ac1:=ac0.at11
     obtain rfl:=iS a5
     exact Ar ((IntKind.wrap .i64 (z117.1+(1:Int))),z117.2.1,z117.2.2.1,()) _ rfl rfl ⟨aa6,ab,aa7,((ci.trans er).trans aa8),io,rfl,ac1⟩
    ·rintro _ z117 c19 _ ⟨ac2,ac3,ac4,ac5,rfl,rfl,j7⟩ ac6 ac7
     subst ac7
     refine AA (x:=a0) j7.at9 rfl ?_
     refine Al (by rw [ig]; exact decide_eq_false (Int.not_lt.2 ac6)) ?_
     have ac8:=j7.at11
     have ac9:=ac8.at11
     have ad0:=ac9.at11
     have ad1:=ad0.at11
     have ad2:=ad1.at11
     have ad3:=ad2.at11
     have ad4:=ad3.at11
     have ad5:=ad4.at11
     have ad6:=ad5.at11
     have ad7:=ad6.at11
     have ad8:=ad7.at11
     have ad9:=ad8.at11
     exact AO (AS (z117.1,z117.2.1,z117.2.2.1,()) rfl ⟨ac2,ac3,ac4,ac5,rfl,ad9⟩)
   rintro z116 c20 ⟨j8,am,ac,bq,rfl,b4⟩
   try dsimp only at a3
   refine AA (x:=d.2.2.1) b4.at9 rfl ?_
   obtain ⟨ae0,af,a3⟩:=bS a3
   refine Ak (fun (y:ByteArray×Int×Unit) w_ g=> ∃ψ:AE,∃j9:Bu,∃ja:Au,Sub j8 ψ∧AR.next (j9,ja)=g∧St ψ (cO 47 (Rep.prod (Rep.ro (Ro.int .i64)) (Rep.prod (Rep.row 3 (Ro.int .i64)) (Rep.ro (Ro.int .i64)))) (some ⟨r115,0,none⟩) j9::cO 32 (Rep.prod (Rep.row 9 Ro.str) (Rep.prod (Rep.row 9 Ro.str) (Rep.prod (Rep.row 47 Aj) (Rep.prod (Rep.row 3 (Ro.int .i64)) (Rep.prod (Rep.row 3 (Ro.int .i64)) (Rep.row 9 Ro.str)))))) (some ⟨r2,0,none⟩) ja::cR 9 Ro.str f c.1::cR 9 Ro.str o c.2.1::cR 9 Ro.str q c.2.2.2.2.2::cR 3 (Ro.int .i64) p c.2.2.2.2.1::cR 3 (Ro.int .i64) k c.2.2.2.1::cR 47 Aj i c.2.2.1::cW 32 r19 [sv f,sv o,sv i,sv k,sv p,sv q] ::cW 90 r106 [.string d.1,sv a0, .string d.2.2.1, .string d.2.2.2] ::cR 47 Aj s e.2.2.1::cW 66 r1 [sv g_0.1,sv g_0.2.1,sv g_0.2.2.1, .string g_0.2.2.2.1,sv g_0.2.2.2.2.1] ::F) w_) (g:=ae0) ?_ ?_
   ·refine AH af rfl (fun _ af=> ?_) (fun _ af=> ?_)
    ·refine AA (x:=g_0.1) b4.at11 rfl ?_
     refine AA (x:=g_0.2.1) b4.at11 rfl ?_
     refine AA (x:=g_0.2.2.1) b4.at11 rfl ?_
     refine AA (x:=g_0.2.2.2.1) b4.at11 rfl ?_
     refine AA (x:=g_0.2.2.2.2.1) b4.at11 rfl ?_
     refine AA (x:=d.2.2.1) b4.at9 rfl ?_
     obtain ⟨c21,ae1,af⟩:=bS af
     refine AK (DR (g_0:=(g_0.1,g_0.2.1,g_0.2.2.1,g_0.2.2.2.1,g_0.2.2.2.2.1,())) (b7.mono ((((((((w.trans a2).trans aj).trans az).trans b0).trans b1).trans ba).trans b2).trans bq)) (c0.mono ((((((((w.trans a2).trans aj).trans az).trans b0).trans b1).trans ba).trans b2).trans bq)) (bs.mono ((((((((w.trans a2).trans aj).trans az).trans b0).trans b1).trans ba).trans b2).trans bq)) (b8.mono ((((((((w.trans a2).trans aj).trans az).trans b0).trans b1).trans ba).trans b2).trans bq)) b4 ae1) ?_
     rintro _ c22 ⟨ag,t154,jb,rfl,rfl,ae2⟩
     refine ⟨t154,rfl,?_⟩
     obtain ⟨ae3,c23,jc,c24,ae4⟩:=ae2.at1.open
     obtain rfl:r115=ae3:=by simpa using jc
     clear jc
     have ae5:=ae4.at1
     obtain ⟨c25,c26,rfl,c27,ae6⟩:=ae5.pair
     obtain ⟨ae7,ae8⟩:=ae6.ro
     subst ae7
     obtain ⟨c28,c29,rfl,c30,f2⟩:=ae8.pair
     obtain ⟨cl,ae9⟩:=f2.rowCs
     subst ae9
     have c31:=f2.rowLen
     have af0:=f2.at1
     obtain ⟨af1,af2⟩:=af0.ro
     subst af1
     have af3:St ag (cR 3 (Ro.int .i64) cl ac.2.1::cW 47 r115 [.int .i64 (ac.1),sv cl, .int .i64 (ac.2.2)] ::cO 32 (Rep.prod (Rep.row 9 Ro.str) (Rep.prod (Rep.row 9 Ro.str) (Rep.prod (Rep.row 47 Aj) (Rep.prod (Rep.row 3 (Ro.int .i64)) (Rep.prod (Rep.row 3 (Ro.int .i64)) (Rep.row 9 Ro.str)))))) (some ⟨r2,0,none⟩) am::cR 9 Ro.str f c.1::cR 9 Ro.str o c.2.1::cR 9 Ro.str q c.2.2.2.2.2::cR 3 (Ro.int .i64) p c.2.2.2.2.1::cR 3 (Ro.int .i64) k c.2.2.2.1::cR 47 Aj i c.2.2.1::cW 32 r19 [sv f,sv o,sv i,sv k,sv p,sv q] ::cW 90 r106 [.string d.1,sv a0, .string d.2.2.1, .string d.2.2.2] ::cR 47 Aj s e.2.2.1::cW 66 r1 [sv g_0.1,sv g_0.2.1,sv g_0.2.2.1, .string g_0.2.2.2.1,sv g_0.2.2.2.2.1] ::F) _:=af2
     refine AJ af3.at1 rfl rfl fun c32 cm=> ?_
     refine AA (x:=t154) cm rfl ?_
     refine AH af rfl (fun _ af=> ?_) (fun _ af=> ?_)
     ·refine AA (x:=d.2.2.1) cm.at10 rfl ?_
      obtain ⟨af4,c33,jd,c34,af5⟩:=cm.at2.open
      obtain rfl:r2=af4:=by simpa using jd
      clear jd
      have af6:=af5.at1
      obtain ⟨c35,c36,rfl,c37,f3⟩:=af6.pair
      obtain ⟨je,af7⟩:=f3.rowCs
      subst af7
      have c38:=f3.rowLen
      have af8:=f3.at1
      obtain ⟨c39,c40,rfl,c41,f4⟩:=af8.pair
      obtain ⟨jf,af9⟩:=f4.rowCs
      subst af9
      have c42:=f4.rowLen
      have ag0:=f4.at1
      obtain ⟨c43,c44,rfl,c45,f5⟩:=ag0.pair
      obtain ⟨jg,ag1⟩:=f5.rowCs
      subst ag1
      have c46:=f5.rowLen
      have ag2:=f5.at1
      obtain ⟨c47,c48,rfl,c49,f6⟩:=ag2.pair
      obtain ⟨jh,ag3⟩:=f6.rowCs
      subst ag3
      have c50:=f6.rowLen
      have ag4:=f6.at1
      obtain ⟨c51,c52,rfl,c53,f7⟩:=ag4.pair
      obtain ⟨ji,ag5⟩:=f7.rowCs
      subst ag5
      have c54:=f7.rowLen
      have f8:=f7.at1
      obtain ⟨jj,ag6⟩:=f8.rowCs
      subst ag6
      have c55:=f8.rowLen
      have ag7:St ag (cR 9 Ro.str jj am.2.2.2.2.2::cR 3 (Ro.int .i64) ji am.2.2.2.2.1::cR 3 (Ro.int .i64) jh am.2.2.2.1::cR 47 Aj jg am.2.2.1::cR 9 Ro.str jf am.2.1::cR 9 Ro.str je am.1::cW 32 r2 [sv je,sv jf,sv jg,sv jh,sv ji,sv jj] ::cW 47 r115 [.int .i64 (ac.1),sv cl, .int .i64 t154] ::cR 3 (Ro.int .i64) cl ac.2.1::cR 9 Ro.str f c.1::cR 9 Ro.str o c.2.1::cR 9 Ro.str q c.2.2.2.2.2::cR 3 (Ro.int .i64) p c.2.2.2.2.1::cR 3 (Ro.int .i64) k c.2.2.2.1::cR 47 Aj i c.2.2.1::cW 32 r19 [sv f,sv o,sv i,sv k,sv p,sv q] ::cW 90 r106 [.string d.1,sv a0, .string d.2.2.1, .string d.2.2.2] ::cR 47 Aj s e.2.2.1::cW 66 r1 [sv g_0.1,sv g_0.2.1,sv g_0.2.2.1, .string g_0.2.2.2.1,sv g_0.2.2.2.2.1] ::F) _:=f8
      refine AJ ag7.at6 rfl rfl fun c56 ag8=> ?_
      refine AJ ag8 rfl rfl fun h5 ag9=> ?_
      refine AJ ag9 rfl rfl fun c57 ah0=> ?_
      refine AJ ah0 rfl rfl fun c58 ah1=> ?_
      refine AJ ah1 rfl rfl fun c59 ah2=> ?_
      refine AJ ah2 rfl rfl fun c60 bc=> ?_
      refine Ab (St.cell (b:=r106) (j:=2) bc.at16 rfl) ?_
      refine AA (x:=((none,0,0):Slc)) bc rfl ?_
      refine AA (x:=((none,0,0):Slc)) bc rfl ?_
      refine AA (x:=((none,0,0):Slc)) bc rfl ?_
      refine AA (x:=((none,0,0):Slc)) bc rfl ?_
      refine AA (x:=((none,0,0):Slc)) bc rfl ?_
      refine AA (x:=((none,0,0):Slc)) bc rfl ?_
      obtain rfl:=iS af
      try dsimp only at a3
      obtain rfl:=iS a3
      obtain rfl:=ie _ rfl
      try dsimp only at hd
      obtain rfl:=iS hd
      have ah3:=bc.tail
      have ah4:=ah3.tail
      have ah5:=ah4.tail
      have ah6:=ah5.tail
      have ah7:=ah6.tail
      have ah8:=ah7.tail
      have ah9:=ah8.tail
      have ai0:=ah9.tail
      have ai1:=ai0.tail
      have ai2:=ai1.tail
      have ai3:=ai2.tail
      have ai4:=ai3.tail
      have ai5:=ai4.tail
      have ai6:=ai5.tail
      have ai7:=ai6.tail
      have ai8:=ai7.tail
      have ai9:=ai8.tail
      have aj0:=ai9.tail
      have aj1:=aj0.tail
      exact Lz (AU (AY (AC ⟨ag,((((none,0,0):Slc),((none,0,0):Slc),((none,0,0):Slc),((none,0,0):Slc),((none,0,0):Slc),((none,0,0):Slc),()),(16:Int),d.2.2.1,()),([] :List ByteArray),([] :List ByteArray),([] :List Bu),([] :List Int),([] :List Int),([] :List ByteArray),(((((((((w.trans a2).trans aj).trans az).trans b0).trans b1).trans ba).trans b2).trans bq).trans jb),rfl,rfl,(Ro.SliceIs.nil Ro.str ag),(Ro.SliceIs.nil Ro.str ag),(Ro.SliceIs.nil Aj ag),(Ro.SliceIs.nil (Ro.int .i64) ag),(Ro.SliceIs.nil (Ro.int .i64) ag),(Ro.SliceIs.nil Ro.str ag),aj1⟩)))
     have aj2:=cm.at1
     have aj3:=St.unro (r:=(Ro.int .i64)) (cs:= [.int .i64 t154]) (x:=t154) aj2 rfl
     have aj4:=aj3.at1
     have aj5:=St.unpair aj4
     have aj6:=St.unro (r:=(Ro.int .i64)) (cs:= [.int .i64 (ac.1)]) (x:=(ac.1)) aj5 rfl
     have aj7:=St.unpair aj6
     have aj8:St ag (cO 47 (Rep.prod (Rep.ro (Ro.int .i64)) (Rep.prod (Rep.row 3 (Ro.int .i64)) (Rep.ro (Ro.int .i64)))) (some ⟨r115,0,none⟩) ((ac.1),ac.2.1,t154)::cO 32 (Rep.prod (Rep.row 9 Ro.str) (Rep.prod (Rep.row 9 Ro.str) (Rep.prod (Rep.row 47 Aj) (Rep.prod (Rep.row 3 (Ro.int .i64)) (Rep.prod (Rep.row 3 (Ro.int .i64)) (Rep.row 9 Ro.str)))))) (some ⟨r2,0,none⟩) am::cR 9 Ro.str f c.1::cR 9 Ro.str o c.2.1::cR 9 Ro.str q c.2.2.2.2.2::cR 3 (Ro.int .i64) p c.2.2.2.2.1::cR 3 (Ro.int .i64) k c.2.2.2.1::cR 47 Aj i c.2.2.1::cW 32 r19 [sv f,sv o,sv i,sv k,sv p,sv q] ::cW 90 r106 [.string d.1,sv a0, .string d.2.2.1, .string d.2.2.2] ::cR 47 Aj s e.2.2.1::cW 66 r1 [sv g_0.1,sv g_0.2.1,sv g_0.2.2.1, .string g_0.2.2.2.1,sv g_0.2.2.2.2.1] ::F) _:=St.shut aj7.at1
     have aj9:=aj8.at11
     have ak0:=aj9.at11
     have ak1:=ak0.at11
     have ak2:=ak1.at11
     have ak3:=ak2.at11
     have ak4:=ak3.at11
     have ak5:=ak4.at11
     have ak6:=ak5.at11
     have ak7:=ak6.at11
     have ak8:=ak7.at11
     have ak9:=ak8.at11
     have al0:=ak9.at11
     obtain rfl:=iS af
     exact AN (z116.2.1,z116.2.2.1,()) rfl ⟨ag,((ac.1),ac.2.1,t154),am,jb,rfl,al0⟩
    have al1:=b4.at11
    have al2:=al1.at11
    have al3:=al2.at11
    have al4:=al3.at11
    have al5:=al4.at11
    have al6:=al5.at11
    have al7:=al6.at11
    have al8:=al7.at11
    have al9:=al8.at11
    have am0:=al9.at11
    have am1:=am0.at10
    have am2:=am1.at11
    obtain rfl:=iS af
    exact AN (z116.2.1,z116.2.2.1,()) rfl ⟨j8,ac,am,(Sub.refl _),rfl,am2⟩
   rintro z147 c61 ⟨am3,ad,f9,am4,rfl,jk⟩
   try dsimp only at a3
   refine AA (x:=i) jk.at8 rfl ?_
   obtain ⟨am5,c62,jl,c63,am6⟩:=jk.open
   obtain rfl:r115=am5:=by simpa using jl
   clear jl
   have am7:=am6.at1
   obtain ⟨c64,c65,rfl,c66,am8⟩:=am7.pair
   obtain ⟨am9,an0⟩:=am8.ro
   subst am9
   obtain ⟨c67,c68,rfl,c69,fa⟩:=an0.pair
   obtain ⟨bj,an1⟩:=fa.rowCs
   subst an1
   have c70:=fa.rowLen
   have an2:=fa.at1
   obtain ⟨an3,an4⟩:=an2.ro
   subst an3
   have cn:St am3 (cR 3 (Ro.int .i64) bj ad.2.1::cW 47 r115 [.int .i64 (ad.1),sv bj, .int .i64 (ad.2.2)] ::cO 32 (Rep.prod (Rep.row 9 Ro.str) (Rep.prod (Rep.row 9 Ro.str) (Rep.prod (Rep.row 47 Aj) (Rep.prod (Rep.row 3 (Ro.int .i64)) (Rep.prod (Rep.row 3 (Ro.int .i64)) (Rep.row 9 Ro.str)))))) (some ⟨r2,0,none⟩) f9::cR 9 Ro.str f c.1::cR 9 Ro.str o c.2.1::cR 9 Ro.str q c.2.2.2.2.2::cR 3 (Ro.int .i64) p c.2.2.2.2.1::cR 3 (Ro.int .i64) k c.2.2.2.1::cR 47 Aj i c.2.2.1::cW 32 r19 [sv f,sv o,sv i,sv k,sv p,sv q] ::cW 90 r106 [.string d.1,sv a0, .string d.2.2.1, .string d.2.2.2] ::cR 47 Aj s e.2.2.1::cW 66 r1 [sv g_0.1,sv g_0.2.1,sv g_0.2.2.1, .string g_0.2.2.2.1,sv g_0.2.2.2.2.1] ::F) _:=an4
   refine AA (x:=(ad.1)) cn.at1 rfl ?_
   refine AA (x:=bj) cn.at1 rfl ?_
   refine AA (x:=(ad.2.2)) cn.at1 rfl ?_
   refine Ac (vs:= [.int .i64 (ad.1),sv bj, .int .i64 (ad.2.2)]) cn fun r167 c71 an5=> ?_
   have an6:=an5.at1
   obtain ⟨jm,an7,an8,jn⟩:=St.freezeRow (t:=bj) an6
   have an9:=St.cells jn
   have ao0:=jn.tail
   have ao1:=ao0.at7
   obtain ⟨jo,ao2,a3⟩:=bS a3
   refine Aq (r:=Aj) (ms:=([((ad.1),ad.2.1,(ad.2.2))] :List Bu)) KS ao1 rfl an9 (.cons (a:= [_,_,_]) ⟨[_],_,rfl,rfl,⟨[_],_,rfl,⟨bj,rfl,an8⟩,rfl⟩⟩ .nil) rfl ao2 ?_
   intro t168 c72 jp
   have c73:=jp.rowLen
   refine AJ jp.at8 rfl rfl fun c74 ao3=> ?_
   have ao4:=ao3.at4
   have ao5:=ao4.at5
   have ao6:=ao5.at3
   have ao7:=ao6.at8
   have ao8:=ao7.at8
   have ao9:=ao8.at8
   have ap0:=ao9.at1
   have ap1:=St.unpair ap0
   have ap2:=ap1.at1
   have ap3:=St.unpair ap2
   have ap4:=ap3.at1
   have ap5:=St.unpair ap4
   have ap6:=ap5.at1
   have ap7:=St.unpair ap6
   have ap8:=ap7.at1
   have ap9:=St.unpair ap8
   have aq0:St jm (cO 32 (Rep.prod (Rep.row 9 Ro.str) (Rep.prod (Rep.row 9 Ro.str) (Rep.prod (Rep.row 47 Aj) (Rep.prod (Rep.row 3 (Ro.int .i64)) (Rep.prod (Rep.row 3 (Ro.int .i64)) (Rep.row 9 Ro.str)))))) (some ⟨r19,0,none⟩) (c.1,c.2.1,jo,c.2.2.2.1,c.2.2.2.2.1,c.2.2.2.2.2)::cW 47 r115 [.int .i64 (ad.1),sv bj, .int .i64 (ad.2.2)] ::cO 32 (Rep.prod (Rep.row 9 Ro.str) (Rep.prod (Rep.row 9 Ro.str) (Rep.prod (Rep.row 47 Aj) (Rep.prod (Rep.row 3 (Ro.int .i64)) (Rep.prod (Rep.row 3 (Ro.int .i64)) (Rep.row 9 Ro.str)))))) (some ⟨r2,0,none⟩) f9::cW 90 r106 [.string d.1,sv a0, .string d.2.2.1, .string d.2.2.2] ::cR 47 Aj s e.2.2.1::cW 66 r1 [sv g_0.1,sv g_0.2.1,sv g_0.2.2.1, .string g_0.2.2.2.1,sv g_0.2.2.2.2.1] ::F) _:=St.shut ap9.at1
   have aq1:=aq0.at1.tail
   have aq2:=aq1.at2.tail
   have aq3:=aq2.at3
   have aq4:=aq3.at3
   have aq5:=aq4.at2
   have aq6:=aq5.at3
   obtain rfl:=iS a3
   exact Ar ((IntKind.wrap .i64 (z98.1+(1:Int))),z147.1,z147.2.1,()) _ rfl rfl ⟨jm,f9,(c.1,c.2.1,jo,c.2.2.2.1,c.2.2.2.2.1,c.2.2.2.2.2),((((ba.trans b2).trans bq).trans am4).trans an7),ic,rfl,aq6⟩
  ·rintro _ z98 c75 _ ⟨aq7,aq8,aq9,ar0,rfl,rfl,jq⟩ ar1 ar2
   subst ar2
   refine AA (x:=g_0.2.2.2.2.1) jq.at3 rfl ?_
   refine Al (by rw [c1]; exact decide_eq_false (Int.not_lt.2 ar1)) ?_
   have ar3:=jq.at3
   have ar4:=ar3.at3
   have ar5:=ar4.at3
   have ar6:=ar5.at3
   exact AO (AS (z98.1,z98.2.1,z98.2.2.1,()) rfl ⟨aq7,aq8,aq9,ar0,rfl,ar6⟩)
 rintro z97 c76 ⟨ar7,aa,u,jr,rfl,ar8⟩
 try dsimp only at hd
 obtain ⟨ar9,c77,js,c78,as0⟩:=ar8.at1.open
 obtain rfl:r19=ar9:=by simpa using js
 clear js
 have as1:=as0.at1
 obtain ⟨c79,c80,rfl,c81,fb⟩:=as1.pair
 obtain ⟨an,as2⟩:=fb.rowCs
 subst as2
 have c82:=fb.rowLen
 have as3:=fb.at1
 obtain ⟨c83,c84,rfl,c85,fc⟩:=as3.pair
 obtain ⟨ah,as4⟩:=fc.rowCs
 subst as4
 have c86:=fc.rowLen
 have as5:=fc.at1
 obtain ⟨c87,c88,rfl,c89,fd⟩:=as5.pair
 obtain ⟨ao,as6⟩:=fd.rowCs
 subst as6
 have c90:=fd.rowLen
 have as7:=fd.at1
 obtain ⟨c91,c92,rfl,c93,fe⟩:=as7.pair
 obtain ⟨ap,as8⟩:=fe.rowCs
 subst as8
 have c94:=fe.rowLen
 have as9:=fe.at1
 obtain ⟨c95,c96,rfl,c97,ff⟩:=as9.pair
 obtain ⟨aq,at0⟩:=ff.rowCs
 subst at0
 have c98:=ff.rowLen
 have fg:=ff.at1
 obtain ⟨ar,au0⟩:=fg.rowCs
 subst au0
 have c99:=fg.rowLen
 have fh:St ar7 (cR 9 Ro.str ar u.2.2.2.2.2::cR 3 (Ro.int .i64) aq u.2.2.2.2.1::cR 3 (Ro.int .i64) ap u.2.2.2.1::cR 47 Aj ao u.2.2.1::cR 9 Ro.str ah u.2.1::cR 9 Ro.str an u.1::cW 32 r19 [sv an,sv ah,sv ao,sv ap,sv aq,sv ar] ::cO 32 (Rep.prod (Rep.row 9 Ro.str) (Rep.prod (Rep.row 9 Ro.str) (Rep.prod (Rep.row 47 Aj) (Rep.prod (Rep.row 3 (Ro.int .i64)) (Rep.prod (Rep.row 3 (Ro.int .i64)) (Rep.row 9 Ro.str)))))) (some ⟨r2,0,none⟩) aa::cR 47 Aj s e.2.2.1::cW 66 r1 [sv g_0.1,sv g_0.2.1,sv g_0.2.2.1, .string g_0.2.2.2.1,sv g_0.2.2.2.2.1] ::F) _:=fg
 refine AA (x:=ah) fh.at6 rfl ?_
 refine AA (x:=g_0.2.2.2.1) fh.at9 rfl ?_
 have au1:=fh.at4
 obtain ⟨ca0,au2,hd⟩:=bS hd
 refine AK (BL au1 au2) ?_
 rintro _ ca1 ⟨b5,t171,jt,rfl,rfl,b6⟩
 refine ⟨t171,rfl,?_⟩
 refine AH hd rfl (fun _ hd=> ?_) (fun _ hd=> ?_)
 ·refine AA (x:=g_0.2.2.2.1) b6.at9 rfl ?_
  obtain ⟨au3,ca2,ju,ca3,au4⟩:=b6.at7.open
  obtain rfl:r2=au3:=by simpa using ju
  clear ju
  have au5:=au4.at1
  obtain ⟨ca4,ca5,rfl,ca6,fi⟩:=au5.pair
  obtain ⟨jv,au6⟩:=fi.rowCs
  subst au6
  have ca7:=fi.rowLen
  have au7:=fi.at1
  obtain ⟨ca8,ca9,rfl,cb0,fj⟩:=au7.pair
  obtain ⟨jw,au8⟩:=fj.rowCs
  subst au8
  have cb1:=fj.rowLen
  have au9:=fj.at1
  obtain ⟨cb2,cb3,rfl,cb4,fk⟩:=au9.pair
  obtain ⟨jx,av0⟩:=fk.rowCs
  subst av0
  have cb5:=fk.rowLen
  have av1:=fk.at1
  obtain ⟨cb6,cb7,rfl,cb8,fl⟩:=av1.pair
  obtain ⟨jy,av2⟩:=fl.rowCs
  subst av2
  have cb9:=fl.rowLen
  have av3:=fl.at1
  obtain ⟨cc0,cc1,rfl,cc2,fm⟩:=av3.pair
  obtain ⟨jz,av4⟩:=fm.rowCs
  subst av4
  have cc3:=fm.rowLen
  have fn:=fm.at1
  obtain ⟨k0,av5⟩:=fn.rowCs
  subst av5
  have cc4:=fn.rowLen
  have av6:St b5 (cR 9 Ro.str k0 aa.2.2.2.2.2::cR 3 (Ro.int .i64) jz aa.2.2.2.2.1::cR 3 (Ro.int .i64) jy aa.2.2.2.1::cR 47 Aj jx aa.2.2.1::cR 9 Ro.str jw aa.2.1::cR 9 Ro.str jv aa.1::cW 32 r2 [sv jv,sv jw,sv jx,sv jy,sv jz,sv k0] ::cR 9 Ro.str ah u.2.1::cR 9 Ro.str ar u.2.2.2.2.2::cR 3 (Ro.int .i64) aq u.2.2.2.2.1::cR 3 (Ro.int .i64) ap u.2.2.2.1::cR 47 Aj ao u.2.2.1::cR 9 Ro.str an u.1::cW 32 r19 [sv an,sv ah,sv ao,sv ap,sv aq,sv ar] ::cR 47 Aj s e.2.2.1::cW 66 r1 [sv g_0.1,sv g_0.2.1,sv g_0.2.2.1, .string g_0.2.2.2.1,sv g_0.2.2.2.2.1] ::F) _:=fn
  refine AJ av6.at6 rfl rfl fun cc5 av7=> ?_
  refine AJ av7 rfl rfl fun cc6 av8=> ?_
  refine AJ av8 rfl rfl fun cc7 av9=> ?_
  refine AJ av9 rfl rfl fun cc8 aw0=> ?_
  refine AJ aw0 rfl rfl fun cc9 aw1=> ?_
  refine AJ aw1 rfl rfl fun cd0 bd=> ?_
  refine Ab (St.cell (b:=r1) (j:=3) bd.at15 rfl) ?_
  refine AA (x:=((none,0,0):Slc)) bd rfl ?_
  refine AA (x:=((none,0,0):Slc)) bd rfl ?_
  refine AA (x:=((none,0,0):Slc)) bd rfl ?_
  refine AA (x:=((none,0,0):Slc)) bd rfl ?_
  refine AA (x:=((none,0,0):Slc)) bd rfl ?_
  refine AA (x:=((none,0,0):Slc)) bd rfl ?_
  obtain rfl:=iS hd
  have aw2:=bd.tail
  have aw3:=aw2.tail
  have aw4:=aw3.tail
  have aw5:=aw4.tail
  have aw6:=aw5.tail
  have aw7:=aw6.tail
  have aw8:=aw7.tail
  have aw9:=aw8.tail
  have ax0:=aw9.tail
  have ax1:=ax0.tail
  have ax2:=ax1.tail
  have ax3:=ax2.tail
  have ax4:=ax3.tail
  have ax5:=ax4.tail
  have ax6:=ax5.tail
  have ax7:=ax6.tail
  exact AC ⟨b5,((((none,0,0):Slc),((none,0,0):Slc),((none,0,0):Slc),((none,0,0):Slc),((none,0,0):Slc),((none,0,0):Slc),()),(16:Int),g_0.2.2.2.1,()),([] :List ByteArray),([] :List ByteArray),([] :List Bu),([] :List Int),([] :List Int),([] :List ByteArray),(((((((w.trans a2).trans aj).trans az).trans b0).trans b1).trans jr).trans jt),rfl,rfl,(Ro.SliceIs.nil Ro.str b5),(Ro.SliceIs.nil Ro.str b5),(Ro.SliceIs.nil Aj b5),(Ro.SliceIs.nil (Ro.int .i64) b5),(Ro.SliceIs.nil (Ro.int .i64) b5),(Ro.SliceIs.nil Ro.str b5),ax7⟩
 refine AA (x:=an) b6.at6 rfl ?_
 refine AA (x:=ah) b6.at6 rfl ?_
 refine AA (x:=ao) b6.at6 rfl ?_
 refine AA (x:=ap) b6.at6 rfl ?_
 refine AA (x:=aq) b6.at6 rfl ?_
 refine AA (x:=ar) b6.at6 rfl ?_
 obtain ⟨ax8,cd1,k1,cd2,ax9⟩:=b6.at7.open
 obtain rfl:r2=ax8:=by simpa using k1
 clear k1
 have ay0:=ax9.at1
 obtain ⟨cd3,cd4,rfl,cd5,fo⟩:=ay0.pair
 obtain ⟨k2,ay1⟩:=fo.rowCs
 subst ay1
 have cd6:=fo.rowLen
 have ay2:=fo.at1
 obtain ⟨cd7,cd8,rfl,cd9,fp⟩:=ay2.pair
 obtain ⟨k3,ay3⟩:=fp.rowCs
 subst ay3
 have ce0:=fp.rowLen
 have ay4:=fp.at1
 obtain ⟨ce1,ce2,rfl,ce3,fq⟩:=ay4.pair
 obtain ⟨k4,ay5⟩:=fq.rowCs
 subst ay5
 have ce4:=fq.rowLen
 have ay6:=fq.at1
 obtain ⟨ce5,ce6,rfl,ce7,fr⟩:=ay6.pair
 obtain ⟨k5,ay7⟩:=fr.rowCs
 subst ay7
 have ce8:=fr.rowLen
 have ay8:=fr.at1
 obtain ⟨ce9,cf0,rfl,cf1,fs⟩:=ay8.pair
 obtain ⟨k6,ay9⟩:=fs.rowCs
 subst ay9
 have cf2:=fs.rowLen
 have ft:=fs.at1
 obtain ⟨k7,az0⟩:=ft.rowCs
 subst az0
 have cf3:=ft.rowLen
 have az1:St b5 (cR 9 Ro.str k7 aa.2.2.2.2.2::cR 3 (Ro.int .i64) k6 aa.2.2.2.2.1::cR 3 (Ro.int .i64) k5 aa.2.2.2.1::cR 47 Aj k4 aa.2.2.1::cR 9 Ro.str k3 aa.2.1::cR 9 Ro.str k2 aa.1::cW 32 r2 [sv k2,sv k3,sv k4,sv k5,sv k6,sv k7] ::cR 9 Ro.str ah u.2.1::cR 9 Ro.str ar u.2.2.2.2.2::cR 3 (Ro.int .i64) aq u.2.2.2.2.1::cR 3 (Ro.int .i64) ap u.2.2.2.1::cR 47 Aj ao u.2.2.1::cR 9 Ro.str an u.1::cW 32 r19 [sv an,sv ah,sv ao,sv ap,sv aq,sv ar] ::cR 47 Aj s e.2.2.1::cW 66 r1 [sv g_0.1,sv g_0.2.1,sv g_0.2.2.1, .string g_0.2.2.2.1,sv g_0.2.2.2.2.1] ::F) _:=ft
 refine AJ az1.at6 rfl rfl fun cf4 az2=> ?_
 refine AJ az2 rfl rfl fun cf5 az3=> ?_
 refine AJ az3 rfl rfl fun cf6 az4=> ?_
 refine AJ az4 rfl rfl fun cf7 az5=> ?_
 refine AJ az5 rfl rfl fun cf8 az6=> ?_
 refine AJ az6 rfl rfl fun cf9 bk=> ?_
 refine AA (x:=an) bk rfl ?_
 refine AA (x:=ah) bk rfl ?_
 refine AA (x:=ao) bk rfl ?_
 refine AA (x:=ap) bk rfl ?_
 refine AA (x:=aq) bk rfl ?_
 refine AA (x:=ar) bk rfl ?_
 have az7:=bk.at12
 obtain ⟨cg0,az8,az9,b00⟩:=St.freezeRow (t:=an) az7
 have b01:=b00.at7
 obtain ⟨cg1,k8,b02,b03⟩:=St.freezeRow (t:=ah) b01
 have b04:=b03.at10
 obtain ⟨cg2,fu,b05,b06⟩:=St.freezeRow (t:=ao) b04
 have b07:=b06.at9
 obtain ⟨cg3,co,b08,b09⟩:=St.freezeRow (t:=ap) b07
 have b10:=b09.at8
 obtain ⟨cg4,bz,b11,b12⟩:=St.freezeRow (t:=aq) b10
 have b13:=b12.at7
 obtain ⟨b14,br,b15,b16⟩:=St.freezeRow (t:=ar) b13
 obtain rfl:=iS hd
 have b17:=b16.tail
 have b18:=b17.tail
 have b19:=b18.tail
 have b20:=b19.tail
 have b21:=b20.tail
 have b22:=b21.tail
 have b23:=b22.tail
 have b24:=b23.tail
 have b25:=b24.tail
 have b26:=b25.tail
 exact AC ⟨b14,((an,ah,ao,ap,aq,ar,()),(0:Int),{data:= #[] },()),u.1,u.2.1,u.2.2.1,u.2.2.2.1,u.2.2.2.2.1,u.2.2.2.2.2,(((((((((((((w.trans a2).trans aj).trans az).trans b0).trans b1).trans jr).trans jt).trans az8).trans k8).trans fu).trans co).trans bz).trans br),rfl,rfl,(az9.mono ((((k8.trans fu).trans co).trans bz).trans br)),(b02.mono (((fu.trans co).trans bz).trans br)),(b05.mono ((co.trans bz).trans br)),(b08.mono (bz.trans br)),(b11.mono br),b15,b26⟩
noncomputable def Ae (s_0:Gv):Option (List ByteArray×List ByteArray×List Bu×List Int×List Int×List ByteArray):=
 (A6 (s_0.1,s_0.2.1,s_0.2.2.1,s_0.2.2.2.1,s_0.2.2.2.2.1,s_0.2.2.2.2.2.1,s_0.2.2.2.2.2.2)).bind fun t10=>
 (CH (t10.1,t10.2.1,t10.2.2.1,t10.2.2.2.1,t10.2.2.2.2)).bind fun t11=>
 some (t11.1,t11.2.1,t11.2.2.1,t11.2.2.2.1,t11.2.2.2.2.1,t11.2.2.2.2.2.1)
theorem A0 {φ:AE} {h:AF} {F:List Chk} {s_0:Int×Int×(Option Addr×Nat×Nat)×(Option Addr×Nat×Nat)×(Option Addr×Nat×Nat)×(Option Addr×Nat×Nat)×(Option Addr×Nat×Nat)×Unit} {d:List Int} {e:List (List Int)} {f:List Int} {g:List Int} {i:List Int} (j:Ro.SliceIs (Ro.int .u8) φ s_0.2.2.1 d) (k:Ro.SliceIs (Ro.list (Ro.int .u8)) φ s_0.2.2.2.1 e) (l:Ro.SliceIs (Ro.int .u8) φ s_0.2.2.2.2.1 f) (m:Ro.SliceIs (Ro.int .u8) φ s_0.2.2.2.2.2.1 g) (n:Ro.SliceIs (Ro.int .u8) φ s_0.2.2.2.2.2.2.1 i) (s0:St φ (F) h) {r:(List ByteArray×List ByteArray×List Bu×List Int×List Int×List ByteArray)} (hd:Ae (s_0.1,s_0.2.1,d,e,f,g,i)=some r):
 CallsH Tryd.prog 10 [(.agg #[(.int .u8 s_0.1),(.int .u8 s_0.2.1),(.slice s_0.2.2.1.1 s_0.2.2.1.2.1 s_0.2.2.1.2.2),(.slice s_0.2.2.2.1.1 s_0.2.2.2.1.2.1 s_0.2.2.2.1.2.2),(.slice s_0.2.2.2.2.1.1 s_0.2.2.2.2.1.2.1 s_0.2.2.2.2.1.2.2),(.slice s_0.2.2.2.2.2.1.1 s_0.2.2.2.2.2.1.2.1 s_0.2.2.2.2.2.1.2.2),(.slice s_0.2.2.2.2.2.2.1.1 s_0.2.2.2.2.2.2.1.2.1 s_0.2.2.2.2.2.2.1.2.2)])] h (BO fun v h'=> ∃ψ:AE,∃y:(Option Addr×Nat×Nat)×(Option Addr×Nat×Nat)×(Option Addr×Nat×Nat)×(Option Addr×Nat×Nat)×(Option Addr×Nat×Nat)×(Option Addr×Nat×Nat)×Unit,∃o:List ByteArray,∃p:List ByteArray,∃q:List Bu,∃s:List Int,∃t:List Int,∃u:List ByteArray,Sub φ ψ∧v=((.one (.agg [.slice, .slice, .slice, .slice, .slice, .slice])):Sh).val y∧(o,p,q,s,t,u)=r∧Ro.SliceIs Ro.str ψ y.1 o∧Ro.SliceIs Ro.str ψ y.2.1 p∧Ro.SliceIs Aj ψ y.2.2.1 q∧Ro.SliceIs (Ro.int .i64) ψ y.2.2.2.1 s∧Ro.SliceIs (Ro.int .i64) ψ y.2.2.2.2.1 t∧Ro.SliceIs Ro.str ψ y.2.2.2.2.2.1 u∧St ψ (F) h'):=by
 refine Aa mixed Tryd.func10 ?_
 rw [EQ]
 unfold Cs
 unfold Ae at hd
 have b2:s_0.2.2.1.2.1=List.length d:=j.length
 have b3:s_0.2.2.2.1.2.1=List.length e:=k.length
 have b4:s_0.2.2.2.2.1.2.1=List.length f:=l.length
 have b5:s_0.2.2.2.2.2.1.2.1=List.length g:=m.length
 have b6:s_0.2.2.2.2.2.2.1.2.1=List.length i:=n.length
 refine Ac (vs:= [.int .u8 s_0.1, .int .u8 s_0.2.1,sv s_0.2.2.1,sv s_0.2.2.2.1,sv s_0.2.2.2.2.1,sv s_0.2.2.2.2.2.1,sv s_0.2.2.2.2.2.2.1]) s0 fun r1 b7 a8=> ?_
 refine Ac (vs:= [.slice none 0 0, .slice none 0 0, .slice none 0 0, .slice none 0 0, .slice none 0 0, .slice none 0 0]) a8 fun r2 b8 a=> ?_
 refine AA (x:=s_0.1) a.at1 rfl ?_
 refine AA (x:=s_0.2.1) a.at1 rfl ?_
 refine AA (x:=s_0.2.2.1) a.at1 rfl ?_
 refine AA (x:=s_0.2.2.2.1) a.at1 rfl ?_
 refine AA (x:=s_0.2.2.2.2.1) a.at1 rfl ?_
 refine AA (x:=s_0.2.2.2.2.2.1) a.at1 rfl ?_
 refine AA (x:=s_0.2.2.2.2.2.2.1) a.at1 rfl ?_
 obtain ⟨b9,a9,hd⟩:=bS hd
 refine AK (Df (s_0:=(s_0.1,s_0.2.1,s_0.2.2.1,s_0.2.2.2.1,s_0.2.2.2.2.1,s_0.2.2.2.2.2.1,s_0.2.2.2.2.2.2.1,())) j k l m n a a9) ?_
 rintro _ ba ⟨bb,t10,bc,bd,be,bf,aa,rfl,rfl,w,z,a0,a1,ab⟩
 refine ⟨t10,rfl,?_⟩
 try dsimp only at hd
 have bg:=w.length
 have bh:=z.length
 have bi:=a0.length
 have bj:=a1.length
 obtain ⟨bk,ac,hd⟩:=bS hd
 refine AK (Gc (g_0:=(t10.1,t10.2.1,t10.2.2.1,t10.2.2.2.1,t10.2.2.2.2.1,())) w z a0 a1 ab ac) ?_
 rintro _ bl ⟨ad,t11,ae,af,ag,ah,ai,aj,ak,rfl,rfl,a2,a3,a4,a5,a6,a7,al⟩
 refine ⟨t11,rfl,?_⟩
 try dsimp only at hd
 have bm:=a2.length
 have bn:=a3.length
 have bo:=a4.length
 have bp:=a5.length
 have bq:=a6.length
 have br:=a7.length
 refine Ac (vs:= [.slice none 0 0, .slice none 0 0, .slice none 0 0, .slice none 0 0, .slice none 0 0, .slice none 0 0]) al fun r12 bs am=> ?_
 refine AJ am rfl rfl fun bt an=> ?_
 refine AJ an rfl rfl fun bu ao=> ?_
 refine AJ ao rfl rfl fun bv ap=> ?_
 refine AJ ap rfl rfl fun bw aq=> ?_
 refine AJ aq rfl rfl fun bx ar=> ?_
 refine AJ ar rfl rfl fun bz b=> ?_
 refine AA (x:=t11.1.1) b rfl ?_
 refine AA (x:=t11.1.2.1) b rfl ?_
 refine AA (x:=t11.1.2.2.1) b rfl ?_
 refine AA (x:=t11.1.2.2.2.1) b rfl ?_
 refine AA (x:=t11.1.2.2.2.2.1) b rfl ?_
 refine AA (x:=t11.1.2.2.2.2.2.1) b rfl ?_
 refine AJ b.at1 rfl rfl fun c0 au=> ?_
 refine AJ au rfl rfl fun c1 av=> ?_
 refine AJ av rfl rfl fun c2 aw=> ?_
 refine AJ aw rfl rfl fun c3 ax=> ?_
 refine AJ ax rfl rfl fun c4 ay=> ?_
 refine AJ ay rfl rfl fun c5 c=> ?_
 refine AA (x:=t11.1.1) c rfl ?_
 refine AA (x:=t11.1.2.1) c rfl ?_
 refine AA (x:=t11.1.2.2.1) c rfl ?_
 refine AA (x:=t11.1.2.2.2.1) c rfl ?_
 refine AA (x:=t11.1.2.2.2.2.1) c rfl ?_
 refine AA (x:=t11.1.2.2.2.2.2.1) c rfl ?_
 obtain rfl:=iS hd
 have az:=c.tail
 have b0:=az.tail
 have b1:=b0.tail
 exact AC ⟨ad,(t11.1.1,t11.1.2.1,t11.1.2.2.1,t11.1.2.2.2.1,t11.1.2.2.2.2.1,t11.1.2.2.2.2.2.1,()),ae,af,ag,ah,ai,aj,(aa.trans ak),rfl,rfl,a2,a3,a4,a5,a6,a7,b1⟩
end Go.Proofs.YtnkmpgldbddnkaaDoor
namespace Go.Eng
open Go
theorem Di {α:Type} (l:List α) (k:Nat):idx l (k:Int)=l[k]? :=by
 unfold idx
 rw [if_pos (by omega),Int.toNat_natCast]
theorem NR {α:Type} {l m:List α} (h:l.length+m.length≤1073741824):app l m=some (l++m):=by unfold app; rw [if_pos h]
theorem NS {α:Type} {l:List α} {a b:Int} (h0:0≤a) (h1:a≤b) (h2:b≤(l.length:Int)):cut l a b=some ((l.take b.toNat).drop a.toNat):=by unfold cut; rw [if_pos ⟨h0,h1,h2⟩]
theorem Mr {α:Type} {l:List α} {i:Int} {x:α} (h0:0≤i) (h1:i< (l.length:Int)):Gq l i x=some (l.set i.toNat x):=by unfold Gq; rw [if_pos ⟨h0,h1⟩]
theorem KT {σ:Type} {f:Int→σ→Option σ} (I:Int→σ→Prop): ∀(n:Nat) (i:Int) (s:σ),I i s→(∀j s,i≤j→j<i+n→I j s→ ∃s',f j s=some s'∧I (j+1) s')→ ∃s',Gr f n i s=some s'∧I (i+n) s':=by
 intro n
 induction n with
 | zero=>intro i s hI _; exact ⟨s,rfl,by simpa using hI⟩
 | succ n ih=>
  intro i s hI hs
  obtain ⟨s',h1,h2⟩:=hs i s (Int.le_refl _) (by omega) hI
  obtain ⟨s'',h3,h4⟩:=ih (i+1) s' h2 fun j s hj hj'=>hs j s (by omega) (by omega)
  refine ⟨s'',by simp only [Gr]; rw [h1]; exact h3,?_⟩
  rw [show i+(n+1:Nat)=i+1+n by omega]
  exact h4
theorem L5 {σ:Type} {f:Int→σ→Option σ} {n:Nat} (I:Nat→σ→Prop) (hn:n≤9223372036854775807) {s:σ} (h0:I 0 s) (hs: ∀k s,k<n→I k s→ ∃s',f (k:Int) s=some s'∧I (k+1) s'): ∃s',Fe 0 (n:Int) s f=some s'∧I n s':=by
 unfold Fe
 rw [if_pos ⟨by omega,by omega⟩]
 obtain ⟨s',h1,h2⟩:=KT (f:=f) (fun i s=>I i.toNat s) ((n:Int) - 0).toNat 0 s (by simpa using h0) fun j s hj hj' hI=>by
  obtain ⟨s',h1,h2⟩:=hs j.toNat s (by omega) hI
  refine ⟨s',by rw [← h1,show ((j.toNat:Nat):Int)=j by omega],by rw [show (j+1).toNat=j.toNat+1 by omega]; exact h2⟩
 refine ⟨s',h1,?_⟩
 have e:((0:Int) +(((n:Int) - 0).toNat:Nat)).toNat=n:=by omega
 rw [e] at h2
 exact h2
theorem LS {σ β:Type} {f:Int→σ→Option (AR σ β)} (I:Int→σ→Prop) (B:β→Prop): ∀(n:Nat) (i:Int) (s:σ),I i s→(∀j s,i≤j→j<i+n→I j s→(∃s',f j s=some (.next s')∧I (j+1) s')∨ ∃b,f j s=some (.done b)∧B b)→
 (∃s',Fb f n i s=some (.next s')∧I (i+n) s')∨ ∃b,Fb f n i s=some (.done b)∧B b:=by
 intro n
 induction n with
 | zero=>intro i s hI _; exact .inl ⟨s,rfl,by simpa using hI⟩
 | succ n ih=>
  intro i s hI hs
  rcases hs i s (Int.le_refl _) (by omega) hI with ⟨s',h1,h2⟩ | ⟨b,h1,h2⟩
  ·rcases ih (i+1) s' h2 fun j s hj hj'=>hs j s (by omega) (by omega) with ⟨s'',h3,h4⟩ | ⟨b,h3,h4⟩
   ·left
    refine ⟨s'',by simp only [Fb]; rw [h1]; exact h3,?_⟩
    rw [show i+(n+1:Nat)=i+1+n by omega]
    exact h4
   ·exact .inr ⟨b,by simp only [Fb]; rw [h1]; exact h3,h4⟩
  ·exact .inr ⟨b,by simp only [Fb]; rw [h1]; rfl,h2⟩
theorem Jp {σ β:Type} {f:Int→σ→Option (AR σ β)} {n:Nat} (I:Nat→σ→Prop) (B:β→Prop) (hn:n≤9223372036854775807) {s:σ} (h0:I 0 s)
 (hs: ∀k s,k<n→I k s→(∃s',f (k:Int) s=some (.next s')∧I (k+1) s')∨ ∃b,f (k:Int) s=some (.done b)∧B b):
 (∃s',CI 0 (n:Int) s f=some (.next s')∧I n s')∨ ∃b,CI 0 (n:Int) s f=some (.done b)∧B b:=by
 unfold CI
 rw [if_pos ⟨by omega,by omega⟩]
 rcases LS (fun i s=>I i.toNat s) B ((n:Int) - 0).toNat 0 s (by simpa using h0) (fun j s hj hj' hI=>by
  have e:((j.toNat:Nat):Int)=j:=by omega
  rcases hs j.toNat s (by omega) hI with ⟨s',h1,h2⟩ | ⟨b,h1,h2⟩
  ·exact .inl ⟨s',by rw [← h1,e],by rw [show (j+1).toNat=j.toNat+1 by omega]; exact h2⟩
  ·exact .inr ⟨b,by rw [← h1,e],h2⟩) with ⟨s',h1,h2⟩ | h
 ·left
  refine ⟨s',h1,?_⟩
  have e:((0:Int) +(((n:Int) - 0).toNat:Nat)).toNat=n:=by omega
  rw [e] at h2
  exact h2
 ·exact .inr h
theorem L6 {σ β:Type} {f:Int→σ→Option (AR σ β)} {n:Nat} (I:Nat→σ→Prop) (hn:n≤9223372036854775807) {s:σ} (h0:I 0 s)
 (hs: ∀k s,k<n→I k s→ ∃s',f (k:Int) s=some (.next s')∧I (k+1) s'): ∃s',CI 0 (n:Int) s f=some (.next s')∧I n s':=by
 rcases Jp I (fun _=>False) hn h0 (fun k s hk hI=> .inl (hs k s hk hI)) with h | ⟨_,_,h⟩
 ·exact h
 ·exact h.elim
theorem L7 {σ β:Type} {f:σ→Option (AR σ β)} (I:σ→Prop) (μ:σ→Nat) (B:β→Prop) (hs: ∀s,I s→(∃s',f s=some (.next s')∧I s'∧μ s'<μ s)∨ ∃b,f s=some (.done b)∧B b): ∀ {s:σ},I s→ ∃b,loop s f=some b∧B b:=by
 intro s
 generalize hm:μ s=m
 induction m using Nat.strongRecOn generalizing s with
 | ind m ih=>
  intro hI
  rw [JC]
  rcases hs s hI with ⟨s',h1,h2,h3⟩ | ⟨b,h1,h2⟩
  ·rw [h1]
   exact ih (μ s') (by omega) rfl h2
  ·rw [h1]
   exact ⟨b,rfl,h2⟩
def Ok {α:Type} (o:Option α) (P:α→Prop):Prop:= ∃x,o=some x∧P x
section
variable {α β γ σ:Type} {P:γ→Prop} {k:α→Option γ}
theorem Ok.eq {o:Option α} {x:α} (h:Ok o (· =x)):o=some x:=by obtain ⟨y,h1,h2⟩:=h; rw [h1]; exact congrArg some h2
theorem Ok.of {o:Option α} {x:α} {Q:α→Prop} (h:o=some x) (hq:Q x):Ok o Q:=⟨x,h,hq⟩
theorem Ok.mono {o:Option α} {Q R:α→Prop} (h:Ok o Q) (hq: ∀x,Q x→R x):Ok o R:=by obtain ⟨x,h1,h2⟩:=h; exact ⟨x,h1,hq x h2⟩
theorem AD {x:γ} (h:P x):Ok (some x) P:=⟨x,rfl,h⟩
theorem AM {o:Option α} {Q:α→Prop} (h:Ok o Q) (hk: ∀x,Q x→Ok (k x) P):Ok (o.bind k) P:=by
 obtain ⟨x,h1,h2⟩:=h
 rw [h1]
 exact hk x h2
theorem AI {o:Option α} {x:α} (h:o=some x) (hk:Ok (k x) P):Ok (o.bind k) P:=by rw [h]; exact hk
theorem Bw {p:Prop} {d:Decidable p} {o:Option γ} (h:p) (hk:Ok o P):Ok (@need γ p d o) P:=by
 have: @need γ p d o=o:=by unfold need; exact if_pos h
 rw [this]; exact hk
theorem As {c:Bool} {x y:Option γ} (h:c=true) (hk:Ok x P):Ok (cond c x y) P:=by subst h; exact hk
theorem AT {c:Bool} {x y:Option γ} (h:c=false) (hk:Ok y P):Ok (cond c x y) P:=by subst h; exact hk
theorem Ah {c:Bool} {x y:Option γ} (h1:c=true→Ok x P) (h2:c=false→Ok y P):Ok (cond c x y) P:=by
 cases c with
 | true=>exact h1 rfl
 | false=>exact h2 rfl
theorem CY {l:List α} {i:Int} {x:α} (h0:0≤i) (h:l[i.toNat]? =some x) (hk:Ok (k x) P):Ok ((idx l i).bind k) P:=by
 unfold idx
 rw [if_pos h0,h]
 exact hk
theorem AX {l:List α} {i:Nat} {x:α} (h:l[i]? =some x) (hk:Ok (k x) P):Ok ((idx l (i:Int)).bind k) P:=by
 rw [Di,h]
 exact hk
theorem Bg {l m:List α} {k:List α→Option γ} (h:l.length+m.length≤1073741824) (hk:Ok (k (l++m)) P):Ok ((app l m).bind k) P:=by
 rw [NR h]
 exact hk
theorem HM {l:List α} {i:Int} {x:α} {k:List α→Option γ} (h0:0≤i) (h1:i< (l.length:Int)) (hk:Ok (k (l.set i.toNat x)) P):Ok ((Gq l i x).bind k) P:=by
 rw [Mr h0 h1]
 exact hk
theorem DU {f:Int→σ→Option σ} {n:Nat} {s:σ} {k:σ→Option γ} (I:Nat→σ→Prop) (hn:n≤9223372036854775807) (h0:I 0 s) (hs: ∀j s,j<n→I j s→Ok (f (j:Int) s) (I (j+1))) (hk: ∀s',I n s'→Ok (k s') P):
 Ok ((Fe 0 (n:Int) s f).bind k) P:=by
 obtain ⟨s',h1,h2⟩:=L5 I hn h0 hs
 rw [h1]
 exact hk s' h2
theorem B5 {f:Int→σ→Option (AR σ β)} {n:Nat} {s:σ} {k:AR σ β→Option γ} (I:Nat→σ→Prop) (hn:n≤9223372036854775807) (h0:I 0 s) (hs: ∀j s,j<n→I j s→Ok (f (j:Int) s) (fun e=> ∃s',e= .next s'∧I (j+1) s')) (hk: ∀s',I n s'→Ok (k (.next s')) P):
 Ok ((CI 0 (n:Int) s f).bind k) P:=by
 obtain ⟨s',h1,h2⟩:=L6 I hn h0 (fun j s hj hI=>by
  obtain ⟨e,h1,s',rfl,h2⟩:=hs j s hj hI
  exact ⟨s',h1,h2⟩)
 rw [h1]
 exact hk s' h2
theorem IN {f:Int→σ→Option (AR σ β)} {n:Nat} {s:σ} {k:AR σ β→Option γ} (I:Nat→σ→Prop) (B:β→Prop) (hn:n≤9223372036854775807) (h0:I 0 s) (hs: ∀j s,j<n→I j s→Ok (f (j:Int) s) (fun e=>(∃s',e= .next s'∧I (j+1) s')∨ ∃b,e= .done b∧B b))
 (hk: ∀s',I n s'→Ok (k (.next s')) P) (hb: ∀b,B b→Ok (k (.done b)) P):
 Ok ((CI 0 (n:Int) s f).bind k) P:=by
 rcases Jp I B hn h0 (fun j s hj hI=>by
  obtain ⟨e,h1,h2⟩:=hs j s hj hI
  rcases h2 with ⟨s',rfl,h2⟩ | ⟨b,rfl,h2⟩
  ·exact .inl ⟨s',h1,h2⟩
  ·exact .inr ⟨b,h1,h2⟩) with ⟨s',h1,h2⟩ | ⟨b,h1,h2⟩
 ·rw [h1]; exact hk s' h2
 ·rw [h1]; exact hb b h2
theorem Eo {f:σ→Option (AR σ β)} {s:σ} {k:β→Option γ} (I:σ→Prop) (μ:σ→Nat) (B:β→Prop) (h0:I s) (hs: ∀s,I s→Ok (f s) (fun e=>(∃s',e= .next s'∧I s'∧μ s'<μ s)∨ ∃b,e= .done b∧B b)) (hk: ∀b,B b→Ok (k b) P):
 Ok ((loop s f).bind k) P:=by
 obtain ⟨b,h1,h2⟩:=L7 I μ B (fun s hI=>by
  obtain ⟨e,h1,h2⟩:=hs s hI
  rcases h2 with ⟨s',rfl,h2⟩ | ⟨b,rfl,h2⟩
  ·exact .inl ⟨s',h1,h2⟩
  ·exact .inr ⟨b,h1,h2⟩) h0
 rw [h1]
 exact hk b h2
theorem CA {s:σ} {Q:σ→Prop} (h:Q s):Ok (some (AR.next s:AR σ β)) (fun e=> ∃s',e= .next s'∧Q s'):=⟨_,rfl,s,rfl,h⟩
theorem DV {s:σ} {Q:σ→Prop} {B:β→Prop} (h:Q s):Ok (some (AR.next s:AR σ β)) (fun e=>(∃s',e= .next s'∧Q s')∨ ∃b,e= .done b∧B b):=⟨_,rfl, .inl ⟨s,rfl,h⟩⟩
theorem C5 {b:β} {Q:σ→Prop} {B:β→Prop} (h:B b):Ok (some (AR.done b:AR σ β)) (fun e=>(∃s',e= .next s'∧Q s')∨ ∃b,e= .done b∧B b):=⟨_,rfl, .inr ⟨b,rfl,h⟩⟩
end
theorem Ep {α β γ:Type} {P:γ→Prop} {f:Int→Unit→Option (AR Unit β)} {k:AR Unit β→Option γ} (l:List α) (q:Nat→α→Bool) (d:Nat→α→β) (hl:l.length≤9223372036854775807)
 (hf: ∀(j:Nat) x,l[j]? =some x→f (j:Int) ()=some (if q j x then .done (d j x) else .next ()))
 (h1:(∀(j:Nat) x,l[j]? =some x→q j x=false)→Ok (k (.next ())) P) (h2: ∀(j:Nat) x,l[j]? =some x→q j x=true→(∀(i:Nat) y,i<j→l[i]? =some y→q i y=false)→Ok (k (.done (d j x))) P):
 Ok ((CI (0:Int) ((l.length:Nat):Int) () f).bind k) P:=by
 refine IN (fun i _=> ∀(j:Nat) y,j<i→l[j]? =some y→q j y=false) (fun b=> ∃(j:Nat) (x:α),l[j]? =some x∧q j x=true∧(∀(i:Nat) y,i<j→l[i]? =some y→q i y=false)∧b=d j x) hl (fun j y h=>by omega) (fun i _ hi hI=> ?_) (fun _ h=>h1 fun j x hx=>h j x (List.getElem?_eq_some_iff.1 hx).1 hx) (fun b ⟨j,x,g1,g2,g3,g4⟩=>by rw [g4]; exact h2 j x g1 g2 g3)
 have hx:=List.getElem?_eq_getElem hi
 rw [hf i _ hx]
 cases hq:q i l[i] with
 | true=>exact ⟨_,rfl, .inr ⟨_,rfl,i,_,hx,hq,hI,rfl⟩⟩
 | false=>
  refine ⟨_,rfl, .inl ⟨(),rfl,fun j y hj hy=> ?_⟩⟩
  rcases Nat.lt_succ_iff_lt_or_eq.1 hj with h | rfl
  ·exact hI j y h hy
  ·rw [hx] at hy; cases hy; exact hq
end Go.Eng
namespace Go.Proofs.YtnkmpgldbddnkaaDoor
open Go Go.Eng
set_option linter.unusedVariables false
set_option maxRecDepth 100000
theorem Hp (b:ByteArray):b.toList=b.data.toList:=by
 have hsz:b.size=b.data.toList.length:=by rw [Array.length_toList]; rfl
 have key: ∀(n i:Nat) (r:List UInt8),b.size - i=n→ByteArray.toList.loop b i r=r.reverse++b.data.toList.drop i:=by
  intro n
  induction n with
  | zero=>
   intro i r h
   rw [ByteArray.toList.loop.eq_1,if_neg (by omega),List.drop_eq_nil_of_le (by omega),List.append_nil]
  | succ n ih=>
   intro i r h
   have hi:i<b.size:=by omega
   rw [ByteArray.toList.loop.eq_1,if_pos hi,ih (i+1) _ (by omega)]
   have hi':i<b.data.toList.length:=by omega
   rw [List.drop_eq_getElem_cons hi',List.reverse_cons,List.append_assoc]
   have:b.get! i=b.data.toList[i] :=by
    cases b with
    | mk a=>
     show a[i]! =_
     rw [getElem!_pos a i (by simpa using hi')]
     rw [Array.getElem_toList]
   rw [this]
   rfl
 unfold ByteArray.toList
 rw [key _ 0 [] rfl]
 rfl
theorem Cp (a b:ByteArray):(a.toList==b.toList)=decide (a=b):=by
 rw [Hp,Hp]
 by_cases h:a=b
 ·subst h; simp
 ·rw [decide_eq_false h]
  refine beq_eq_false_iff_ne.2 fun e=>h ?_
  cases a; cases b
  simp only [ByteArray.mk.injEq]
  exact Array.toList_inj.1 e
theorem Eg {l:List ByteArray} {s:ByteArray} (hl:l.length≤9223372036854775807):Ok (Ai l s) fun k=>(k= -1∧s ∉ l)∨ ∃j:Nat,k=j∧l[j]? =some s:=by
 unfold Ai
 refine Ep l (fun _ x=>decide (x=s)) (fun k _=>k) hl (fun k x hx=> ?_) (fun h=> ?_) fun j x hx hq _=> ?_
 ·rw [Di,hx,Option.bind_some,Cp]
  cases decide (x=s) <;>rfl
 ·refine AD (.inl ⟨rfl,fun hm=> ?_⟩)
  obtain ⟨j,hj⟩:=List.getElem?_of_mem hm
  have:=h j s hj
  simp at this
 ·refine AD (.inr ⟨j,rfl,?_⟩)
  rw [hx,of_decide_eq_true hq]
def nm (c i:Nat):ByteArray:=⟨#[UInt8.ofNat (c+i)]⟩
theorem Gz {c i d j:Nat} (h1:c+i<256) (h2:d+j<256) (h:nm c i=nm d j):c+i=d+j:=by
 unfold nm at h
 simp only [ByteArray.mk.injEq,Array.mk.injEq,List.cons.injEq,and_true] at h
 have:=congrArg UInt8.toNat h
 simp at this
 omega
theorem NT {i:Nat} (h:i<5):ByteArray.extract {data:= #[97,98,99,100,101] } i (i+1)=nm 97 i:=by
 match i,h with
 | 0,_ | 1,_ | 2,_ | 3,_ | 4,_=>decide
theorem NU {i:Nat} (h:i<5):ByteArray.extract {data:= #[112,113,114,115,116] } i (i+1)=nm 112 i:=by
 match i,h with
 | 0,_ | 1,_ | 2,_ | 3,_ | 4,_=>decide
theorem NV {i:Nat} (h:i<4):ByteArray.extract {data:= #[83,84,85,86] } i (i+1)=nm 83 i:=by
 match i,h with
 | 0,_ | 1,_ | 2,_ | 3,_=>decide
inductive Nm:ByteArray→Prop
 | tok {i:Nat} :i<5→Nm (nm 97 i)
 | lev {i:Nat} :i<5→Nm (nm 112 i)
 | var {i:Nat} :i<4→Nm (nm 83 i)
theorem Kp {c i:Nat} (h:(65≤c+i∧c+i≤90)∨(97≤c+i∧c+i≤122)):Ay (nm c i)=some true:=by
 generalize e:c+i=n at h
 have:nm c i=⟨#[UInt8.ofNat n]⟩:=by unfold nm; rw [e]
 rw [this]
 have all: ∀m:Fin 123,((65≤m.1∧m.1≤90)∨(97≤m.1∧m.1≤122))→(Bk ((UInt8.toNat (UInt8.ofNat m.1):Nat):Int))=some true:=by
  have: ∀m:Fin 123,((65≤m.1∧m.1≤90)∨(97≤m.1∧m.1≤122))→(match Bk ((UInt8.toNat (UInt8.ofNat m.1):Nat):Int) with | some true=>true | _=>false)=true:=by
   decide+kernel
  intro m hm
  have:=this m hm
  split at this
  ·assumption
  ·cases this
 have hl:=all ⟨n,by omega⟩ h
 refine Ok.eq ?_
 unfold Ay CM
 have hs:ByteArray.size {data:= #[UInt8.ofNat n] } =1:=rfl
 rw [hs]
 refine AM (Q:=fun x=>x=true) (As rfl (AM (Q:=fun x=>x=true) ?_ fun _ h=>AD h)) fun _ h=>AD h
 refine B5 (fun _ _=>True) (by omega) trivial (fun j s hj _=> ?_) fun s _=> ?_
 ·obtain rfl:j=0:=by omega
  refine AM (Q:=fun x=>x=false) (Bw (by omega) (AI hl (AT rfl (AD rfl)))) fun _ h=> ?_
  subst h
  exact CA trivial
 ·rw [Cp,decide_eq_false (fun h=>by simp at h)]
  exact AD rfl
theorem Nm.name {s:ByteArray} (h:Nm s):Ay s=some true:=by
 cases h with
 | tok h | lev h | var h=>exact Kp (by omega)
theorem Nm.ne {s:ByteArray} (h:Nm s):s ≠ ⟨#[]⟩:=by
 cases h with
 | tok h | lev h | var h=>intro e; unfold nm at e; simp at e
theorem Nm.size {s:ByteArray} (h:Nm s):s.size=1:=by
 cases h with
 | tok h | lev h | var h=>rfl
theorem KU:(ByteArray.toList {data:= #[] } ==ByteArray.toList {data:= #[] })=true:=by rw [Cp]; rfl
theorem HN:Bm {data:= #[] } =some true:=by rfl
theorem JG {s:ByteArray} (h:Nm s):BP (s,{data:= #[] },false)=some true:=by
 unfold BP
 dsimp only
 have e:=h.size
 rw [KU,Cp,decide_eq_false h.ne,e]
 rfl
theorem Kq {l:List ByteArray} (hl:l.length≤9223372036854775807) (h: ∀x ∈ l,Nm x) (hn:l.Nodup):BB l=some true:=by
 refine Ok.eq ?_
 unfold BB
 refine B5 (fun _ _=>True) hl trivial (fun k s hk _=> ?_) fun _ _=>AD rfl
 have hk':=List.getElem?_eq_getElem hk
 refine AX hk' (AI (h _ (List.getElem_mem hk)).name ?_)
 refine AT rfl ?_
 refine B5 (fun _ _=>True) (by omega) trivial (fun j s hj _=> ?_) fun _ _=>CA trivial
 have hj':=List.getElem?_eq_getElem (show j<l.length by omega)
 refine AX hj' (AX hk' ?_)
 rw [Cp,decide_eq_false (List.pairwise_iff_getElem.1 (List.nodup_iff_pairwise_ne.1 hn) j k (by omega) hk hj)]
 exact CA trivial
end Go.Proofs.YtnkmpgldbddnkaaDoor
