/-
  SimUa, Aw, M3, put together.
  Conditions: none; each part tells its own.
-/
import Derived.Test.YteolcjbobmpdiaaGreatDoorKb2
import Derived.Test.YteolcjbobmpdiaaGreatDoorKb5
import Derived.KernelRfl
namespace Go.Proofs.YteolcjbobmpdiaaGreatDoor
open Go Go.Eng
set_option linter.unusedVariables false
set_option maxRecDepth 100000
noncomputable def CK:Option Bool:=
 (Df).bind fun t1=>
 (Bk (t1.1,t1.2.1,t1.2.2.1,t1.2.2.2.1,t1.2.2.2.2.1,t1.2.2.2.2.2.1,t1.2.2.2.2.2.2)).bind fun t2=>
 (cond (!t2.2.2.2.2.2.2.2.2)
 (some true)
 (some ((((List.length t2.2.2.1):Nat):Int) !=(6:Int)))).bind fun z4=>
 cond z4
 (some false)
 (t2.2.2.2.2.2.2.1.bind fun e81=>
  (BT e81 (0:Int) (5:Int)).bind fun t6=>
  (cond (decide (t6>(0:Int)))
  ((Gu t2.2.2.2.2.2.2.2.1 t6).bind fun t8=>
   (Cx t8 ([(5:Int)] :List Int)).bind fun t10=>
   cond t10
   ((L9 t2.2.2.2.2.2.2.2.1 t6 (5:Int)).bind fun t11=>
    (Cx t11 ([(0:Int)] :List Int)).bind fun t13=>
    cond t13
    ((Hw t2.2.2.2.2.2.2.2.1 t6 (5:Int)).bind fun t14=>
     some ((((List.length t14):Nat):Int)==(1:Int)))
    (some false))
   (some false))
  (some false)).bind fun z7=>
  some z7)
theorem Ej {φ:AC} {h:AH} {F:List Chk} (gk:KE φ) (s0:St φ (F) h) {r:Bool} (hd:CK=some r):
 CallsH Tryz.prog 13 [] h (Ar fun v h'=> ∃ψ:AC,∃y:Bool,Sub φ ψ∧v=((.one aB):Sh).val y∧y=r∧St ψ (F) h'):=by
 refine AR mixed Tryz.func13 ?_
 rw [H4]
 unfold FV
 unfold CK at hd
 obtain ⟨bp,a5,hd⟩:=bS hd
 refine AI (H9 s0 a5) ?_
 rintro _ bq ⟨br,t1,bs,bt,bu,bv,bw,f,rfl,rfl,a6,a7,a8,a9,aa,ab⟩
 refine ⟨t1,rfl,?_⟩
 try dsimp only at hd
 obtain ⟨bx,ac,hd⟩:=bS hd
 refine AI (DI (small_0:=(t1.1,t1.2.1,t1.2.2.1,t1.2.2.2.1,t1.2.2.2.2.1,t1.2.2.2.2.2.1,t1.2.2.2.2.2.2.1,())) (gk.mono f) a6 a7 a8 a9 aa ab ac) ?_
 rintro _ bz ⟨m,t2,c0,c1,c2,c3,c4,c5,c6,s,o,rfl,rfl,c7,c8,ad,c9,ca,cb,ae,af⟩
 refine ⟨t2,rfl,?_⟩
 try dsimp only at hd
 have ag:=ad.length
 refine AY (vs:= [.slice none 0 0, .slice none 0 0, .slice none 0 0, .slice none 0 0, .slice none 0 0, .slice none 0 0]) af fun r3 cc ah=> ?_
 refine AQ ah rfl rfl fun cd ai=> ?_
 refine AQ ai rfl rfl fun ce aj=> ?_
 refine AQ aj rfl rfl fun cf ak=> ?_
 refine AQ ak rfl rfl fun cg al=> ?_
 refine AQ al rfl rfl fun ch am=> ?_
 refine AQ am rfl rfl fun ci p=> ?_
 obtain ⟨an,d,hd⟩:=bS hd
 refine Ao (fun (y:Bool×Unit) w_ g=> ∃ψ:AC,Sub m ψ∧y.1=g∧St ψ (cW 32 r3 [sv t2.1.1,sv t2.1.2.1,sv t2.1.2.2.1,sv t2.1.2.2.2.1,sv t2.1.2.2.2.2.1,sv t2.1.2.2.2.2.2.1] ::⟨BO, [.pointer t2.2.2.1],s⟩::F) w_) (g:=an) ?_ ?_
 ·refine AL d rfl (fun _ d=> ?_) (fun _ d=> ?_)
  ·have ao:=p.at1
   obtain rfl:=iS d
   exact AS (true,()) rfl ⟨m,(Sub.refl _),rfl,ao.at1⟩
  refine AA (x:=t2.1.2.2.1) p rfl ?_
  have ap:=p.at1.at1
  obtain rfl:=iS d
  exact AS ((((t2.1.2.2.1.2.1:Nat):Int) !=(6:Int)),()) rfl ⟨m,(Sub.refl _),(by rw [ag]),ap⟩
 rintro z4 cj ⟨aq,i,rfl,u⟩
 try dsimp only at hd
 refine AL hd rfl (fun _ hd=> ?_) (fun _ hd=> ?_)
 ·obtain rfl:=iS hd
  exact AB ⟨aq,false,((f.trans o).trans i),rfl,rfl,u.tail.tail⟩
 obtain ⟨ck,ar,hd⟩:=bS hd
 obtain ⟨cl,au,hd⟩:=bS hd
 refine AI (C9 (((ae.mono i)).get ar) u au) ?_
 rintro _ cm ⟨w,t6,z,rfl,rfl,a0⟩
 refine ⟨t6,rfl,?_⟩
 obtain ⟨av,c,hd⟩:=bS hd
 refine Ao (fun (y:Bool×Unit) w_ g=> ∃ψ:AC,Sub w ψ∧y.1=g∧St ψ (cW 32 r3 [sv t2.1.1,sv t2.1.2.1,sv t2.1.2.2.1,sv t2.1.2.2.2.1,sv t2.1.2.2.2.2.1,sv t2.1.2.2.2.2.2.1] ::⟨BO, [.pointer t2.2.2.1],s⟩::F) w_) (g:=av) ?_ ?_
 ·refine AL c rfl (fun _ c=> ?_) (fun _ c=> ?_)
  ·have aw:=a0.at1
   obtain ⟨cn,ax,c⟩:=bS c
   refine AI (GR aw ax) ?_
   rintro _ co ⟨cp,t8,cq,j,rfl,rfl,ay,az⟩
   refine ⟨t8,rfl,?_⟩
   refine AY (vs:= [.int .i64 (5:Int)]) az fun r9 cr b0=> ?_
   have b1:=St.lit (r:=(Ro.int .i64)) (l:=([(5:Int)] :List Int)) (n:=1) b0 (.cons (a:= [_]) rfl .nil) rfl (by decide)
   obtain ⟨cs,e,b2,b3⟩:=St.freezeRow (t:=((some ⟨r9,0,none⟩,1,1):Slc)) b1
   obtain ⟨ct,b4,c⟩:=bS c
   refine AI (Eu (ay.mono e) b2 b3 b4) ?_
   rintro _ cu ⟨b5,t10,k,rfl,rfl,a1⟩
   refine ⟨t10,rfl,?_⟩
   refine AL c rfl (fun _ c=> ?_) (fun _ c=> ?_)
   ·obtain ⟨cv,b6,c⟩:=bS c
    refine AI (JS (gk.b.mono ((((((f.trans o).trans i).trans z).trans j).trans e).trans k)) a1 b6) ?_
    rintro _ cw ⟨cx,t11,cy,a2,rfl,rfl,b7,b8⟩
    refine ⟨t11,rfl,?_⟩
    refine AY (vs:= [.int .i64 (0:Int)]) b8 fun r12 cz b9=> ?_
    have ba:=St.lit (r:=(Ro.int .i64)) (l:=([(0:Int)] :List Int)) (n:=1) b9 (.cons (a:= [_]) rfl .nil) rfl (by decide)
    obtain ⟨d0,q,bb,bc⟩:=St.freezeRow (t:=((some ⟨r12,0,none⟩,1,1):Slc)) ba
    obtain ⟨d1,bd,c⟩:=bS c
    refine AI (Eu (b7.mono q) bb bc bd) ?_
    rintro _ d2 ⟨be,t13,a3,rfl,rfl,a4⟩
    refine ⟨t13,rfl,?_⟩
    refine AL c rfl (fun _ c=> ?_) (fun _ c=> ?_)
    ·obtain ⟨d3,bf,c⟩:=bS c
     refine AI (Hx a4 bf) ?_
     rintro _ d4 ⟨bg,t14,d5,bh,rfl,rfl,bi,bj⟩
     refine ⟨t14,rfl,?_⟩
     have bk:=bi.length
     have bl:=bj.at1
     obtain rfl:=iS c
     exact AS ((((t14.2.1:Nat):Int)==(1:Int)),()) rfl ⟨bg,((((((j.trans e).trans k).trans a2).trans q).trans a3).trans bh),(by rw [bk]),bl⟩
    obtain rfl:=iS c
    exact AS (false,()) rfl ⟨be,(((((j.trans e).trans k).trans a2).trans q).trans a3),rfl,a4.at1⟩
   obtain rfl:=iS c
   exact AS (false,()) rfl ⟨b5,((j.trans e).trans k),rfl,a1.at1⟩
  obtain rfl:=iS c
  exact AS (false,()) rfl ⟨w,(Sub.refl _),rfl,a0.at1.at1⟩
 rintro z7 d6 ⟨bm,bn,rfl,bo⟩
 try dsimp only at hd
 obtain rfl:=iS hd
 exact AB ⟨bm,z7.1,((((f.trans o).trans i).trans z).trans bn),rfl,rfl,bo.tail.tail⟩
set_option maxRecDepth 1000000
theorem NC:CK=some true:=by kernel_rfl
end Go.Proofs.YteolcjbobmpdiaaGreatDoor
namespace Go.Proofs.YteolcjbobmpdiaaGreatDoor
open Go Go.Eng Dg
set_option linter.unusedVariables false
set_option maxRecDepth 100000
theorem N0 {β γ:Type} {P:γ→Prop} {f:Int→Option (AU Int (AU Unit β))} {k:AU Unit β→Option γ} (n:Nat) (hn:n≤1000000) (hs: ∀i:Nat,i<n→Ok (f (i:Int)) (fun e=>e= .next ((i+1:Nat):Int))) (he:f (n:Int)=some (.done (.next ()))) (hk:Ok (k (.next ())) P):Ok ((loop (0:Int) f).bind k) P:=by
 refine DL (fun z=> ∃i:Nat,z=(i:Int)∧i≤n) (fun z=>n - z.toNat) (fun b=>b= .next ()) ⟨0,rfl,Nat.zero_le _⟩ (fun z hz=> ?_) fun b hb=>by rw [hb]; exact hk
 obtain ⟨i,rfl,hi⟩:=hz
 rcases Nat.lt_or_eq_of_le hi with h | rfl
 ·obtain ⟨e,e1,rfl⟩:=hs i h
  exact ⟨_,e1, .inl ⟨_,rfl,⟨i+1,rfl,h⟩,by omega⟩⟩
 ·exact ⟨_,he, .inr ⟨_,rfl,rfl⟩⟩
theorem wr1 {i n:Nat} (h:i<n) (hn:n≤1000000):IntKind.wrap .i64 ((i:Int) +(1:Int))=((i+1:Nat):Int):=by rw [w64 (by omega) (by omega)]; omega
theorem IB {β γ:Type} {P:γ→Prop} {f:Int→Unit→Option (AU Unit β)} {k:AU Unit β→Option γ} (n:Nat) (hn:n≤1000000000) (hs: ∀i:Nat,i<n→f (i:Int) ()=some (.next ())) (hk:Ok (k (.next ())) P):Ok ((Cf (0:Int) (n:Int) () f).bind k) P:=by
 refine HJ (fun _ _=>True) (fun _=>False) (by omega) trivial (fun j _ hj _=>⟨_,hs j hj, .inl ⟨(),rfl,trivial⟩⟩) (fun _ _=>hk) fun b hb=>hb.elim
section
variable {p:dtP} {B:List dtK} {E:List (List Edge)} {d:LkD} {tt:Int}
theorem Jm {l:List Int} {b:dtK} (M:MkI p B E d tt) {n:Nat} (hb:B[n]? =some b):(FY p.2.2.1 b.2.1).length≤10100:=by
 have:=Nz p.2.2.1 b.2.1
 have:=(M.all.fin.good M.all.vp hb).2.2.2.2
 omega
theorem Jn (M:MkI p B E d tt) {n:Nat} {b:dtK} (hb:B[n]? =some b) {i:Nat} {k:Int} (h:(FY p.2.2.1 b.2.1)[i]? =some k): ∃(k':Nat) (r:BC),k=(k':Int)∧p.2.2.1[k']? =some r∧It p.2.2.1 (KB B) n k' r.2.1.length:=(NB M hb).1 (List.mem_of_getElem? h)
end
end Go.Proofs.YteolcjbobmpdiaaGreatDoor
