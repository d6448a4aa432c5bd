/-
  Laws, Clone, Sim3, Sim4, Cmp, SortItems, Sim5, Add, BuildL, G3, G4, P1, P2, P3, P4, P5, T1, T2, LookD, DgTarjan, DgTarjanB, DgP1, F1, F2, put together.
  Conditions: none; each part tells its own.
-/
import Derived.Test.YteolcjbobmpdiaaGreatDoorKa3
import Derived.Test.YteolcjbobmpdiaaGreatDoorRows
import Derived.MakeChecks
import Derived.Stop.LaidErr
import Derived.Lib.LaidTab
import Derived.Test.YteolcjbobmpdiaaGreatDoorKa2
import Derived.KernelRfl
import Derived.Lib.Walk
import Derived.StillTailTactics
import Derived.Sort.Grow
namespace Go.Proofs.YteolcjbobmpdiaaGreatDoor
open Go Go.Eng
set_option linter.unusedVariables false
set_option maxRecDepth 100000
theorem glob_of {W:World} (hL:laidMetH Tryz.prog Rows.lookDoneRow.laid W):Lb (BJ W.heap):=by
 rw [MakeChecks.laidMetH_plain _ _ _ (by kernel_rfl)] at hL
 refine ⟨?_,?_⟩
 ·have h1:laidMet Tryz.prog (("internal/strconv.uint64pow10",Lib.tabData .u64 Lib.pow10Tab):: []) W:=hL.tail.tail
  have hg:Tryz.prog.globalNamed "internal/strconv.uint64pow10" =some 1:=by kernel_rfl
  have h2:=Lib.tabIs_of_head hg (by kernel_rfl) Tryz.underlying285 Tryz.underlying237 (by kernel_rfl) (by kernel_rfl) h1
  unfold Lib.TabIs World.var? at h2
  rw [hg,Option.bind_some] at h2
  cases hb:W.heap[1]? with
  | none=>rw [hb] at h2; cases h2
  | some o=>
   rw [hb] at h2
   cases o with
   | cells cs t f=>cases h2; exact ⟨1,t,f,hg,hb⟩
   | _=>cases h2
 ·have h1:laidMet Tryz.prog (("math/bits.deBruijn64tab",Lib.tabData .u8 (Lib.deBruijn64tab.map fun (z:Nat)=>(z:Int)))::("internal/strconv.uint64pow10",Lib.tabData .u64 Lib.pow10Tab):: []) W:=hL.tail
  have hg:Tryz.prog.globalNamed "math/bits.deBruijn64tab" =some 0:=by kernel_rfl
  have h2:=Lib.tabIs_of_head hg (by kernel_rfl) Tryz.underlying251 Tryz.underlying5 (by kernel_rfl) (by kernel_rfl) h1
  unfold Lib.TabIs World.var? at h2
  rw [hg,Option.bind_some] at h2
  cases hb:W.heap[0]? with
  | none=>rw [hb] at h2; cases h2
  | some o=>
   rw [hb] at h2
   cases o with
   | cells cs t f=>
    refine ⟨t,f,?_⟩
    show W.heap[0]? =_
    rw [hb]
    have h3:=Option.some.inj h2
    rw [h3,List.map_map]
    rfl
   | _=>cases h2
theorem wf8 {x:Int} (h:(Lit.int .u8 x).wf=true):0≤x∧x<256:=by
 simp only [Lit.wf,Bool.and_eq_true,decide_eq_true_eq] at h
 have e1:IntKind.min .u8=0:=rfl
 have e2:IntKind.max .u8=255:=rfl
 omega
theorem Wf {α:Type} {cs:List α} (h:cs.length=7): ∃a b c d e f g,cs= [a,b,c,d,e,f,g] :=by
 match cs,h with
 | [a,b,c,d,e,f,g],_=>exact ⟨a,b,c,d,e,f,g,rfl⟩
section
variable {h:AE}
theorem JG {n:Nat} {cs:List Value} (hr:FU Tryz.prog h n 22 cs): ∃(t:Slc) (l:List Int),cs= [.slice t.1 t.2.1 t.2.2] ∧Ro.SliceIs (Ro.int .u8) (BJ h) t l∧l.length≤9223372036854775807∧ ∀x ∈ l,0≤x∧x<256:=by
 obtain ⟨l,⟨t,e,hs⟩,h1,h2⟩:=(Gq Tryz.underlying22 (by kernel_rfl) (LY Tryz.underlying5)) n cs hr
 exact ⟨t,l,e,hs,h1,fun x hx=>wf8 (h2 x hx)⟩
theorem TC {n:Nat} {cs:List Value} (hr:FU Tryz.prog h n 23 cs): ∃(t:Slc) (l:List (List Int)),cs= [.slice t.1 t.2.1 t.2.2] ∧Ro.SliceIs (Ro.list (Ro.int .u8)) (BJ h) t l∧l.length≤9223372036854775807∧ ∀r ∈ l,r.length≤9223372036854775807∧ ∀x ∈ r,0≤x∧x<256:=by
 obtain ⟨l,⟨t,e,hs⟩,h1,h2⟩:=(Gq Tryz.underlying23 (by kernel_rfl) (Gq Tryz.underlying22 (by kernel_rfl) (LY Tryz.underlying5))) n cs hr
 exact ⟨t,l,e,hs,h1,fun r hr=>⟨(h2 r hr).1,fun x hx=>wf8 ((h2 r hr).2 x hx)⟩⟩
theorem TD {n:Nat} {cs:List Value} (H:FU Tryz.prog h n 25 cs): ∃(x:Int×Int×Slc×Slc×Slc×Slc×Slc×Unit) (d2:List Int) (d3:List (List Int)) (d4 d5 d6:List Int),
 cs= [.int .u8 x.1, .int .u8 x.2.1,sv x.2.2.1,sv x.2.2.2.1,sv x.2.2.2.2.1,sv x.2.2.2.2.2.1,sv x.2.2.2.2.2.2.1] ∧Ro.SliceIs (Ro.int .u8) (BJ h) x.2.2.1 d2∧Ro.SliceIs (Ro.list (Ro.int .u8)) (BJ h) x.2.2.2.1 d3∧
 Ro.SliceIs (Ro.int .u8) (BJ h) x.2.2.2.2.1 d4∧Ro.SliceIs (Ro.int .u8) (BJ h) x.2.2.2.2.2.1 d5∧Ro.SliceIs (Ro.int .u8) (BJ h) x.2.2.2.2.2.2.1 d6∧SmG (x.1,x.2.1,d2,d3,d4,d5,d6):=by
 cases n with
 | zero=>exact H.elim
 | succ n=>
  unfold FU at H
  rw [Tryz.underlying25] at H
  obtain ⟨hlen,hf⟩:=H
  have hlen:cs.length=7:=hlen.trans (by kernel_rfl)
  obtain ⟨a,b,c,d,e,f,g,rfl⟩:=Wf hlen
  have e1:Tryz.prog.cellsOf 5=1:=by kernel_rfl
  have e2:Tryz.prog.cellsOf 22=1:=by kernel_rfl
  have e3:Tryz.prog.cellsOf 23=1:=by kernel_rfl
  have f0:=hf _ (.head _)
  have f1:=hf _ (.tail _ (.head _))
  have f2:=hf _ (.tail _ (.tail _ (.head _)))
  have f3:=hf _ (.tail _ (.tail _ (.tail _ (.head _))))
  have f4:=hf _ (.tail _ (.tail _ (.tail _ (.tail _ (.head _)))))
  have f5:=hf _ (.tail _ (.tail _ (.tail _ (.tail _ (.tail _ (.head _))))))
  have f6:=hf _ (.tail _ (.tail _ (.tail _ (.tail _ (.tail _ (.tail _ (.head _)))))))
  dsimp only at f0 f1 f2 f3 f4 f5 f6
  rw [e1] at f0 f1
  rw [e2] at f2 f4 f5 f6
  rw [e3] at f3
  obtain ⟨x0,h0,w0⟩:=K8 Tryz.underlying5 f0
  obtain ⟨x1,h1,w1⟩:=K8 Tryz.underlying5 f1
  obtain ⟨t2,l2,h2,s2,n2,w2⟩:=JG f2
  obtain ⟨t3,l3,h3,s3,n3,w3⟩:=TC f3
  obtain ⟨t4,l4,h4,s4,n4,w4⟩:=JG f4
  obtain ⟨t5,l5,h5,s5,n5,w5⟩:=JG f5
  obtain ⟨t6,l6,h6,s6,n6,w6⟩:=JG f6
  have h0: [a] =_:=h0
  have h1: [b] =_:=h1
  have h2: [c] =_:=h2
  have h3: [d] =_:=h3
  have h4: [e] =_:=h4
  have h5: [f] =_:=h5
  have h6: [g] =_:=h6
  simp only [List.cons.injEq,and_true] at h0 h1 h2 h3 h4 h5 h6
  exact ⟨(x0,x1,t2,t3,t4,t5,t6,()),l2,l3,l4,l5,l6,by rw [h0,h1,h2,h3,h4,h5,h6],s2,s3,s4,s5,s6,⟨wf8 w0,wf8 w1,⟨n2,w2⟩,⟨n3,w3⟩,⟨n4,w4⟩,⟨n5,w5⟩,⟨n6,w6⟩⟩⟩
end
def cloneD {α:Type} (l:List α):Option (List α):=if l.length≤1073741824 then some l else none
theorem FB {α:Type} {l r:List α} (h:cloneD l=some r):l.length≤1073741824∧r=l:=by
 unfold cloneD at h
 split at h
 ·rename_i g; exact ⟨g,(Option.some.inj h).symm⟩
 ·cases h
theorem Wg:Gu Tryz.prog 67 67 70 2:=⟨Tryz.underlying67, .inl Tryz.underlying67,⟨Tryz.t70,by kernel_rfl,rfl,⟨_,rfl,rfl⟩,by decide,by decide⟩,by decide⟩
theorem WR:Gu Tryz.prog 54 54 73 2:=⟨Tryz.underlying54, .inl Tryz.underlying54,⟨Tryz.t73,by kernel_rfl,rfl,⟨_,rfl,rfl⟩,by decide,by decide⟩,by decide⟩
section
variable {φ:AC} {h:AE} {F:List Chk}
theorem Lc {t:Slc} {l r:List Bo} (k:Ro.SliceIs CR φ t l) (s0:St φ F h) (hd:cloneD l=some r):
 CallsH Tryz.prog 77 [.slice t.1 t.2.1 t.2.2] h (Aq fun v h'=> ∃ψ:AC,∃y:Slc,∃l1:List Bo,Sub φ ψ∧v=((.one aS):Sh).val y∧l1=r∧St ψ (cR 70 CR y l1::F) h'):=by
 obtain ⟨hb,rfl⟩:=FB hd
 refine AQ mixed Tryz.func77 ?_
 rw [D5]
 unfold Cc
 cases hp:t.1 with
 | none=>
  rw [k.2.2.2.1 hp]
  exact AB ⟨φ,(none,0,0), [],Sub.refl _,rfl,rfl,s0.nil _ _⟩
 | some a=>
  rw [Option.isNone_some]
  refine AU (vs:= []) s0 fun b h1 s1=> ?_
  have s2:=St.lit (r:=CR) (l:= []) (n:=0) s1 .nil rfl (by decide)
  obtain ⟨ws,ha,hc⟩:=k.heap s1.sub
  rw [hp] at hc
  refine Am (r:=CR) (ms:=r) (l':=r) Wg s2 rfl hc ha k.length.symm (by unfold app; rw [if_pos (by simpa using hb)]; rfl) fun y h2 s3=> ?_
  exact AB ⟨φ,y,_,Sub.refl _,rfl,rfl,s3⟩
theorem Oz {t:Slc} {l r:List Eb} (k:Ro.SliceIs Fe φ t l) (s0:St φ F h) (hd:cloneD l=some r):
 CallsH Tryz.prog 79 [.slice t.1 t.2.1 t.2.2] h (Aq fun v h'=> ∃ψ:AC,∃y:Slc,∃l1:List Eb,Sub φ ψ∧v=((.one aS):Sh).val y∧l1=r∧St ψ (cR 73 Fe y l1::F) h'):=by
 obtain ⟨hb,rfl⟩:=FB hd
 refine AQ mixed Tryz.func79 ?_
 rw [D6]
 unfold Cd
 cases hp:t.1 with
 | none=>
  rw [k.2.2.2.1 hp]
  exact AB ⟨φ,(none,0,0), [],Sub.refl _,rfl,rfl,s0.nil _ _⟩
 | some a=>
  rw [Option.isNone_some]
  refine AU (vs:= []) s0 fun b h1 s1=> ?_
  have s2:=St.lit (r:=Fe) (l:= []) (n:=0) s1 .nil rfl (by decide)
  obtain ⟨ws,ha,hc⟩:=k.heap s1.sub
  rw [hp] at hc
  refine Am (r:=Fe) (ms:=r) (l':=r) WR s2 rfl hc ha k.length.symm (by unfold app; rw [if_pos (by simpa using hb)]; rfl) fun y h2 s3=> ?_
  exact AB ⟨φ,y,_,Sub.refl _,rfl,rfl,s3⟩
end
theorem ML:Gu Tryz.prog 67 67 70 2:=⟨Tryz.underlying67, .inl Tryz.underlying67,⟨Tryz.t70,by kernel_rfl,rfl,⟨_,rfl,rfl⟩,by decide,by decide⟩,by decide⟩
noncomputable def Bk (a_0:Gm) (items_1:List Bo) (sym_2:Int):Option (List Bo):=
 (forS (σ:=List Bo) (0:Int) (((List.length items_1):Nat):Int) ([] :List Bo) fun i_z2 z2=>
  (idx items_1 i_z2).bind fun e31=>
  (Ba a_0 (e31.1,e31.2)).bind fun t9=>
  (cond (t9==sym_2)
  ((app z2 ([(e31.1,(IntKind.wrap .i64 (e31.2+(1:Int))))] :List Bo)).bind fun t14=>
   some t14)
  (some z2)).bind fun z10=>
  some z10).bind fun z1=>
 some z1
theorem Is {φ:AC} {h:AE} {F:List Chk} {a_0:Option Addr} {e:Gm} {items_1:Slc} {i:List Bo} {sym_2:Int} (m:Ro.SliceIs CR φ items_1 i) (s0:St φ (cO 131 (Rep.ro Bz) a_0 e::F) h) {r:(List Bo)} (hd:Bk e i sym_2=some r):
 CallsH Tryz.prog 104 [(.pointer a_0),(sv items_1),(.int .i64 sym_2)] h (Aq fun v h'=> ∃ψ:AC,∃y:Slc,∃n:List Bo,Sub φ ψ∧v=((.one aS):Sh).val y∧n=r∧Ro.SliceIs CR ψ y n∧St ψ (cO 131 (Rep.ro Bz) a_0 e::F) h'):=by
 refine AQ mixed Tryz.func104 ?_
 rw [Ia]
 unfold Fy
 unfold Bk at hd
 have o:items_1.2.1=List.length i:=m.length
 obtain ⟨a2,a3,hd⟩:=bS hd
 refine AV (fun (y:Int×Slc×Unit) w_ g=> ∃ψ:AC,∃p:List Bo,Sub φ ψ∧p=g∧St ψ (cR 70 CR y.2.1 p::cO 131 (Rep.ro Bz) a_0 e::F) w_) (g:=a2) ?_ ?_
 ·refine BL a3 (fun a4 (y:Int×Slc×Unit) w_ g=> ∃ψ:AC,∃q:List Bo,Sub φ ψ∧y.1=a4∧q=g∧St ψ (cR 70 CR y.2.1 q::cO 131 (Rep.ro Bz) a_0 e::F) w_) ((0:Int),((none,0,0):Slc),()) rfl ⟨φ,([] :List Bo),(Sub.refl _),rfl,rfl,(((s0.nil 70 CR).at1).at1)⟩ ?_ ?_
  ·rintro _ z2 b3 _ _ ⟨b4,a5,s,rfl,rfl,j⟩ c a6 u w
   try dsimp only at c a6 u w
   refine Ag (dT o u) ?_
   obtain ⟨b,a7,c⟩:=bS c
   obtain ⟨b5,b6,a8,a9,aa,z⟩:=(m.mono s).get a7
   refine AF _ a8 (Ac a9 ?_)
   obtain ⟨_,_,rfl,ab,ac⟩:=aa
   obtain rfl:=ab
   obtain rfl:=ac
   refine AH (x:=b.1) (AD j.sub (z 0 _ rfl)) rfl ?_
   refine AH (x:=b.2) (by rw [Ad]; exact (AD j.sub (z 1 _ rfl))) rfl ?_
   refine AU (vs:= [.int .i64 (0:Int), .int .i64 (0:Int)]) j fun r6 b7 ad=> ?_
   refine AP ad rfl rfl fun b8 ae=> ?_
   refine AP ae rfl rfl fun b9 k=> ?_
   refine AA (x:=b.1) k rfl ?_
   refine AA (x:=b.2) k rfl ?_
   obtain ⟨ba,af,c⟩:=bS c
   refine AI (Cz (x_1:=(b.1,b.2,())) k.at2 af) ?_
   rintro _ bb ⟨l,t9,ag,rfl,rfl,f⟩
   refine ⟨t9,rfl,?_⟩
   obtain ⟨ah,d,c⟩:=bS c
   refine Ao (fun (y:Slc×Unit) w_ g=> ∃ψ:AC,∃a0:List Bo,Sub l ψ∧a0=g∧St ψ (cR 70 CR y.1 a0::cO 131 (Rep.ro Bz) a_0 e::cW 70 r6 [.int .i64 b.1, .int .i64 b.2] ::F) w_) (g:=ah) ?_ ?_
   ·refine AK d rfl (fun _ d=> ?_) (fun _ d=> ?_)
    ·refine AA (x:=b.1) f.at1 rfl ?_
     refine AA (x:=b.2) f.at1 rfl ?_
     refine AU (vs:= [.int .i64 b.1, .int .i64 (wN b.2)]) f fun r13 bc a1=> ?_
     obtain ⟨ai,aj,d⟩:=bS d
     refine Am (r:=CR) (ms:=([(b.1,(wN b.2))] :List Bo)) ML a1.tail.at2 rfl (St.cells a1) (.cons (a:= [_,_]) ⟨[_],_,rfl,rfl,rfl⟩ .nil) rfl aj ?_
     intro t14 bd ak
     obtain rfl:=iS d
     exact AS (t14,()) rfl ⟨l,ai,(Sub.refl _),rfl,ak.at2.at2.at2⟩
    obtain rfl:=iS d
    exact AS (z2.2.1,()) rfl ⟨l,a5,(Sub.refl _),rfl,f.at2.at2.at2.at2⟩
   rintro z10 be ⟨al,am,an,rfl,ao⟩
   try dsimp only at c
   obtain rfl:=iS c
   exact Af ((wN z2.1),z10.1,()) _ rfl rfl ⟨al,am,((s.trans ag).trans an),w,rfl,ao.at2.tail.at1.at1⟩
  ·rintro _ z2 bf ⟨ap,aq,ar,rfl,rfl,au⟩ av
   refine AY (dF o av) ?_
   exact AJ (AM (z2.1,z2.2.1,()) rfl ⟨ap,aq,ar,rfl,au.at1.at1⟩)
 rintro z1 bg ⟨bh,aw,ax,rfl,ay⟩
 try dsimp only at hd
 obtain ⟨az,b0,b1,b2⟩:=St.freezeRow (t:=z1.2.1) ay
 obtain rfl:=iS hd
 exact AB ⟨az,z1.2.1,aw,(ax.trans b0),rfl,rfl,b1,b2⟩
noncomputable def B9 (a_0:DN) (n_1:Int):Option (List Bo×List Bo×List Eb×Int×Int):=
 (cond (decide (n_1< (0:Int)))
 (some true)
 (some (decide (n_1≥ (((List.length a_0.2.2.2.2.2.2.1):Nat):Int))))).bind fun z2=>
 cond z2
 (some (([] :List Bo),([] :List Bo),([] :List Eb),(0:Int),(0:Int)))
 ((idx a_0.2.2.2.2.2.2.1 n_1).bind fun e83=>
  some (e83.1,e83.2.1,e83.2.2.1,e83.2.2.2.1,e83.2.2.2.2))
theorem D8 {φ:AC} {h:AE} {F:List Chk} {a_0:Option Addr} {o:DN} {n_1:Int} (p:Pt Fu φ a_0 o) (s0:St φ (F) h) {r:(List Bo×List Bo×List Eb×Int×Int)} (hd:B9 o n_1=some r):
 CallsH Tryz.prog 78 [(.pointer a_0),(.int .i64 n_1)] h (Aq fun v h'=> ∃ψ:AC,∃y:Slc×Slc×Slc×Int×Int×Unit,∃q:List Bo,∃s:List Bo,∃t:List Eb,Sub φ ψ∧v=((.one (.agg [.slice, .slice, .slice,(.int .i64),(.int .i64)])):Sh).val y∧(q,s,t,y.2.2.2.1,y.2.2.2.2.1)=r∧Ro.SliceIs CR ψ y.1 q∧Ro.SliceIs CR ψ y.2.1 s∧Ro.SliceIs Fe ψ y.2.2.1 t∧St ψ (F) h'):=by
 refine AQ mixed Tryz.func78 ?_
 rw [J0]
 unfold Gy
 unfold B9 at hd
 refine AU (vs:= [.slice none 0 0, .slice none 0 0, .slice none 0 0, .int .i64 (0:Int), .int .i64 (0:Int)]) s0 fun r1 aw k=> ?_
 obtain ⟨w,e,hd⟩:=bS hd
 refine Ao (fun (y:Bool×Unit) w_ g=> ∃ψ:AC,Sub φ ψ∧y.1=g∧St ψ (cW 150 r1 [.slice none 0 0, .slice none 0 0, .slice none 0 0, .int .i64 (0:Int), .int .i64 (0:Int)] ::F) w_) (g:=w) ?_ ?_
 ·refine AK e rfl (fun _ e=> ?_) (fun _ e=> ?_)
  ·obtain rfl:=iS e
   exact AS (true,()) rfl ⟨φ,(Sub.refl _),rfl,k⟩
  obtain ⟨ax,ay,z,⟨_,_,rfl,⟨az,rfl,b0⟩,_,_,rfl,⟨b1,rfl,b2⟩,_,_,rfl,⟨b3,rfl,b4⟩,_,_,rfl,⟨b5,rfl,b6⟩,_,_,rfl,⟨b7,rfl,b8⟩,_,_,rfl,⟨b9,rfl,ba⟩,_,_,rfl,⟨u,rfl,a0⟩,rfl⟩,a1⟩:=id p
  have a2:=a0.length
  refine AF _ z ?_
  refine AH (x:=u) (AD k.sub (a1.at 6 rfl)) rfl ?_
  obtain rfl:=iS e
  exact AS ((decide (n_1≥ ((u.2.1:Nat):Int))),()) rfl ⟨φ,(Sub.refl _),(by rw [a2]),k⟩
 rintro z2 bb ⟨f,j,rfl,b⟩
 try dsimp only at hd
 refine AK hd rfl (fun _ hd=> ?_) (fun _ hd=> ?_)
 ·refine AP b rfl rfl fun bc a3=> ?_
  refine AP a3 rfl rfl fun bd a4=> ?_
  refine AP a4 rfl rfl fun be a5=> ?_
  refine AP a5 rfl rfl fun bf a6=> ?_
  refine AP a6 rfl rfl fun bg c=> ?_
  refine AA (x:=((none,0,0):Slc)) c rfl ?_
  refine AA (x:=((none,0,0):Slc)) c rfl ?_
  refine AA (x:=((none,0,0):Slc)) c rfl ?_
  refine AA (x:=(0:Int)) c rfl ?_
  refine AA (x:=(0:Int)) c rfl ?_
  obtain rfl:=iS hd
  exact AB ⟨f,(((none,0,0):Slc),((none,0,0):Slc),((none,0,0):Slc),(0:Int),(0:Int),()),([] :List Bo),([] :List Bo),([] :List Eb),j,rfl,rfl,(Ro.SliceIs.nil CR f),(Ro.SliceIs.nil CR f),(Ro.SliceIs.nil Fe f),c.tail⟩
 obtain ⟨bh,bi,a7,⟨_,_,rfl,⟨bj,rfl,bk⟩,_,_,rfl,⟨bl,rfl,bm⟩,_,_,rfl,⟨bn,rfl,bo⟩,_,_,rfl,⟨bp,rfl,bq⟩,_,_,rfl,⟨br,rfl,bs⟩,_,_,rfl,⟨bt,rfl,bu⟩,_,_,rfl,⟨a8,rfl,a9⟩,rfl⟩,aa⟩:=id p
 refine AF _ a7 ?_
 refine AH (x:=a8) (AD (Sub.trans j b.sub) (aa.at 6 rfl)) rfl ?_
 obtain ⟨a,ab,hd⟩:=bS hd
 obtain ⟨bv,bw,ac,ad,ae,i⟩:=(a9.mono j).get ab
 refine AF _ ac (Ac ad ?_)
 obtain ⟨_,_,rfl,af,ag⟩:=ae
 obtain ⟨l,rfl,ah⟩:=af
 obtain ⟨_,_,rfl,ai,aj⟩:=ag
 obtain ⟨m,rfl,ak⟩:=ai
 obtain ⟨_,_,rfl,al,am⟩:=aj
 obtain ⟨n,rfl,an⟩:=al
 obtain ⟨_,_,rfl,ao,ap⟩:=am
 obtain rfl:=ao
 obtain rfl:=ap
 refine AH (x:=l) (AD b.sub (i 0 _ rfl)) rfl ?_
 refine AH (x:=m) (by rw [Ad]; exact (AD b.sub (i 1 _ rfl))) rfl ?_
 refine AH (x:=n) (by rw [Ad]; exact (AD b.sub (i 2 _ rfl))) rfl ?_
 refine AH (x:=a.2.2.2.1) (by rw [Ad]; exact (AD b.sub (i 3 _ rfl))) rfl ?_
 refine AH (x:=a.2.2.2.2) (by rw [Ad]; exact (AD b.sub (i 4 _ rfl))) rfl ?_
 refine AP b rfl rfl fun bx aq=> ?_
 refine AP aq rfl rfl fun bz ar=> ?_
 refine AP ar rfl rfl fun c0 au=> ?_
 refine AP au rfl rfl fun c1 av=> ?_
 refine AP av rfl rfl fun c2 d=> ?_
 refine AA (x:=l) d rfl ?_
 refine AA (x:=m) d rfl ?_
 refine AA (x:=n) d rfl ?_
 refine AA (x:=a.2.2.2.1) d rfl ?_
 refine AA (x:=a.2.2.2.2) d rfl ?_
 obtain rfl:=iS hd
 exact AB ⟨f,(l,m,n,a.2.2.2.1,a.2.2.2.2,()),a.1,a.2.1,a.2.2.1,j,rfl,rfl,ah,ak,an,d.tail⟩
noncomputable def BW (a_0:DN):Option Int:=
 some (((List.length a_0.2.2.2.2.2.2.1):Nat):Int)
theorem CK {φ:AC} {h:AE} {F:List Chk} {a_0:Option Addr} {a:DN} (c:Pt Fu φ a_0 a) (s0:St φ (F) h) {r:Int} (hd:BW a=some r):
 CallsH Tryz.prog 20 [(.pointer a_0)] h (Aq fun v h'=> ∃ψ:AC,∃y:Int,Sub φ ψ∧v=((.one aI):Sh).val y∧y=r∧St ψ (F) h'):=by
 refine AQ mixed Tryz.func20 ?_
 rw [JP]
 unfold GT
 unfold BW at hd
 obtain ⟨i,j,d,⟨_,_,rfl,⟨k,rfl,l⟩,_,_,rfl,⟨m,rfl,n⟩,_,_,rfl,⟨o,rfl,p⟩,_,_,rfl,⟨q,rfl,s⟩,_,_,rfl,⟨t,rfl,u⟩,_,_,rfl,⟨w,rfl,z⟩,_,_,rfl,⟨b,rfl,e⟩,rfl⟩,f⟩:=id c
 have g:=e.length
 refine AF _ d ?_
 refine AH (x:=b) (AD s0.sub (f.at 6 rfl)) rfl ?_
 obtain rfl:=iS hd
 exact AB ⟨φ,((b.2.1:Nat):Int),(Sub.refl _),rfl,(by rw [g]),s0⟩
noncomputable def BO (a_0:DN) (n_1:Int) (sym_2:Int):Option Int:=
 (B9 a_0 n_1).bind fun t1=>
 (Cv (σ:=Unit) (β:=Int) (0:Int) (((List.length t1.2.2.1):Nat):Int) () fun i_z3 z3=>
  (idx t1.2.2.1 i_z3).bind fun e37=>
  cond (e37.1==sym_2)
  (some (AW.done e37.2))
  (some (AW.next ()))).bind fun e_z2=>match e_z2 with
 | .next z2=>
  some (-1:Int)
 | .done q60=>some q60
theorem C2 {φ:AC} {h:AE} {F:List Chk} {a_0:Option Addr} {i:DN} {n_1:Int} {sym_2:Int} (q:Pt Fu φ a_0 i) (s0:St φ (F) h) {r:Int} (hd:BO i n_1 sym_2=some r):
 CallsH Tryz.prog 41 [(.pointer a_0),(.int .i64 n_1),(.int .i64 sym_2)] h (Aq fun v h'=> ∃ψ:AC,∃y:Int,Sub φ ψ∧v=((.one aI):Sh).val y∧y=r∧St ψ (F) h'):=by
 refine AQ mixed Tryz.func41 ?_
 rw [Jz]
 unfold Gx
 unfold BO at hd
 obtain ⟨ai,s,hd⟩:=bS hd
 refine AI (D8 q s0 s) ?_
 rintro _ aj ⟨d,t1,ak,al,am,j,rfl,rfl,an,ao,k,t⟩
 refine ⟨t1,rfl,?_⟩
 try dsimp only at hd
 have l:=k.length
 obtain ⟨u,w,hd⟩:=bS hd
 refine AV (fun (y:Int×Int×Unit) w_ g=> ∃ψ:AC,Sub d ψ∧AW.next ()=g∧St ψ (F) w_) (g:=u) ?_ ?_
 ·refine Bq w (fun z (y:Int×Int×Unit) w_ g=> ∃ψ:AC,Sub d ψ∧y.1=z∧()=g∧St ψ (F) w_) ((0:Int),(0:Int),()) rfl ⟨d,(Sub.refl _),rfl,rfl,t⟩ ?_ ?_
  ·rintro _ z3 ap _ _ ⟨m,e,rfl,rfl,f⟩ a a0 n o a1
   try dsimp only at a a0 n o
   refine Ag (dT l n) ?_
   obtain ⟨b,a2,a⟩:=bS a
   obtain ⟨aq,ar,a3,a4,a5,p⟩:=(k.mono e).get a2
   refine AF _ a3 (Ac a4 ?_)
   obtain ⟨_,_,rfl,a6,a7⟩:=a5
   obtain rfl:=a6
   obtain rfl:=a7
   refine AH (x:=b.1) (AD f.sub (p 0 _ rfl)) rfl ?_
   refine AH (x:=b.2) (by rw [Ad]; exact (AD f.sub (p 1 _ rfl))) rfl ?_
   refine AU (vs:= [.int .i64 (0:Int), .int .i64 (0:Int)]) f fun r7 au a8=> ?_
   refine AP a8 rfl rfl fun av a9=> ?_
   refine AP a9 rfl rfl fun aw c=> ?_
   refine AA (x:=b.1) c rfl ?_
   refine AK a rfl (fun _ a=> ?_) (fun _ a=> ?_)
   ·refine AA (x:=b.2) c rfl ?_
    obtain rfl:=iS a
    obtain rfl:=a1 _ rfl
    try dsimp only at hd
    obtain rfl:=iS hd
    exact Ah (An (AB ⟨m,b.2,(j.trans e),rfl,rfl,c.tail⟩))
   obtain rfl:=iS a
   exact Af ((wN z3.1),z3.2.1,()) _ rfl rfl ⟨m,e,o,rfl,c.tail⟩
  ·rintro _ z3 ax _ ⟨aa,ab,rfl,rfl,ac⟩ ad ae
   subst ae
   refine AY (dF l ad) ?_
   exact AJ (AM (z3.1,z3.2.1,()) rfl ⟨aa,ab,rfl,ac⟩)
 rintro z2 ay ⟨af,ag,rfl,ah⟩
 try dsimp only at hd
 obtain rfl:=iS hd
 exact AB ⟨af,(-1:Int),(j.trans ag),rfl,rfl,ah⟩
noncomputable def Bl (a_0:DN) (n_1:Int) (seq_2:List Int):Option Int:=
 (cond (decide (n_1< (0:Int)))
 (some true)
 (some (decide (n_1≥ (((List.length a_0.2.2.2.2.2.2.1):Nat):Int))))).bind fun z1=>
 cond z1
 (some (-1:Int))
 (((Cv (σ:=Int) (β:=Int) (0:Int) (((List.length seq_2):Nat):Int) n_1 fun i_z5 z5=>
  (idx seq_2 i_z5).bind fun e53=>
  (BO a_0 z5 e53).bind fun t8=>
  cond (decide (t8< (0:Int)))
  (some (AW.done t8))
  (some (AW.next t8))).map AW.get).bind fun z4=>
  some z4)
theorem DW {φ:AC} {h:AE} {F:List Chk} {a_0:Option Addr} {i:DN} {n_1:Int} {seq_2:Slc} {f:List Int} (j:Pt Fu φ a_0 i) (k:Ro.SliceIs (Ro.int .i64) φ seq_2 f) (s0:St φ (F) h) {r:Int} (hd:Bl i n_1 f=some r):
 CallsH Tryz.prog 72 [(.pointer a_0),(.int .i64 n_1),(sv seq_2)] h (Aq fun v h'=> ∃ψ:AC,∃y:Int,Sub φ ψ∧v=((.one aI):Sh).val y∧y=r∧St ψ (F) h'):=by
 refine AQ mixed Tryz.func72 ?_
 rw [IZ]
 unfold Fx
 unfold Bl at hd
 have l:seq_2.2.1=List.length f:=k.length
 obtain ⟨w,b,hd⟩:=bS hd
 refine Ao (fun (y:Bool×Unit) w_ g=> ∃ψ:AC,Sub φ ψ∧y.1=g∧St ψ (F) w_) (g:=w) ?_ ?_
 ·refine AK b rfl (fun _ b=> ?_) (fun _ b=> ?_)
  ·obtain rfl:=iS b
   exact AS (true,()) rfl ⟨φ,(Sub.refl _),rfl,s0⟩
  obtain ⟨al,am,z,⟨_,_,rfl,⟨an,rfl,ao⟩,_,_,rfl,⟨ap,rfl,aq⟩,_,_,rfl,⟨ar,rfl,au⟩,_,_,rfl,⟨av,rfl,aw⟩,_,_,rfl,⟨ax,rfl,ay⟩,_,_,rfl,⟨az,rfl,b0⟩,_,_,rfl,⟨m,rfl,a0⟩,rfl⟩,a1⟩:=id j
  have a2:=a0.length
  refine AF _ z ?_
  refine AH (x:=m) (AD s0.sub (a1.at 6 rfl)) rfl ?_
  obtain rfl:=iS b
  exact AS ((decide (n_1≥ ((m.2.1:Nat):Int))),()) rfl ⟨φ,(Sub.refl _),(by rw [a2]),s0⟩
 rintro z1 b1 ⟨c,d,rfl,n⟩
 try dsimp only at hd
 refine AK hd rfl (fun _ hd=> ?_) (fun _ hd=> ?_)
 ·obtain rfl:=iS hd
  exact AB ⟨c,(-1:Int),d,rfl,rfl,n⟩
 obtain ⟨b2,a3,hd⟩:=bS hd
 obtain ⟨a4,a5,a6⟩:=Option.map_eq_some_iff.1 a3
 subst a6
 refine AV (fun (y:Int×Int×Unit) w_ g=> ∃ψ:AC,Sub c ψ∧y.2.1=g∧St ψ (F) w_) (g:=(AW.get a4)) ?_ ?_
 ·refine Bq a5 (fun a7 (y:Int×Int×Unit) w_ g=> ∃ψ:AC,Sub c ψ∧y.1=a7∧y.2.1=g∧St ψ (F) w_) ((0:Int),n_1,()) rfl ⟨c,(Sub.refl _),rfl,rfl,n⟩ ?_ ?_
  ·rintro _ z5 b3 _ _ ⟨b4,e,rfl,rfl,o⟩ a a8 p q a9
   try dsimp only at a a8 p q
   refine Ag (dT l p) ?_
   obtain ⟨b5,aa,a⟩:=bS a
   refine DM k aa (Sub.trans (d.trans e) o.sub) ?_
   obtain ⟨b6,ab,a⟩:=bS a
   refine AI (C2 (j.mono (d.trans e)) o ab) ?_
   rintro _ b7 ⟨s,t8,t,rfl,rfl,u⟩
   refine ⟨t8,rfl,?_⟩
   refine AK a rfl (fun _ a=> ?_) (fun _ a=> ?_)
   ·obtain rfl:=iS a
    obtain rfl:=a9 _ rfl
    exact AJ (AM (z5.1,t8,()) rfl ⟨s,(e.trans t),rfl,u⟩)
   obtain rfl:=iS a
   exact Af ((wN z5.1),t8,()) _ rfl rfl ⟨s,(e.trans t),q,rfl,u⟩
  ·rintro _ z5 b8 _ ⟨ac,ad,rfl,rfl,ae⟩ af ag
   subst ag
   refine AY (dF l af) ?_
   exact AJ (AM (z5.1,z5.2.1,()) rfl ⟨ac,ad,rfl,ae⟩)
 rintro z4 b9 ⟨ah,ai,aj,ak⟩
 rw [← aj] at hd
 try dsimp only at hd
 obtain rfl:=iS hd
 exact AB ⟨ah,z4.2.1,(d.trans ai),rfl,rfl,ak⟩
theorem MM:Gu Tryz.prog 22 22 5 1:=⟨Tryz.underlying22, .inl Tryz.underlying22,⟨Tryz.t5,by kernel_rfl,rfl,⟨_,rfl,rfl⟩,by decide,by decide⟩,by decide⟩
noncomputable def Df (kernel_0:List Bo):Option ByteArray:=
 (forS (σ:=List Int) (0:Int) (((List.length kernel_0):Nat):Int) ([] :List Int) fun i_z2 z2=>
  (idx kernel_0 i_z2).bind fun e28=>
  (DV z2 e28.1 (10:Int)).bind fun t8=>
  (app t8 ([(46:Int)] :List Int)).bind fun t10=>
  (DV t10 e28.2 (10:Int)).bind fun t12=>
  (app t12 ([(32:Int)] :List Int)).bind fun t14=>
  some t14).bind fun z1=>
 (Qe z1).bind fun t15=>
 some t15
theorem Lg {h:AE} {kernel_0:Slc} {d:List Bo} (gk:Glob (BJ h)) (f:Ro.SliceIs CR (BJ h) kernel_0 d) (s0:St (BJ h) [] h) {r:ByteArray} (hd:Df d=some r):
 CallsH Tryz.prog 100 [(sv kernel_0)] h (Aq fun v h'=> ∃ψ:AC,∃y:ByteArray,Sub (BJ h) ψ∧v=((.one (.atom .string)):Sh).val y∧y=r∧St ψ [] h'):=by
 refine AQ mixed Tryz.func100 ?_
 rw [L4]
 unfold KL
 unfold Df at hd
 have i:kernel_0.2.1=List.length d:=f.length
 obtain ⟨z,a0,hd⟩:=bS hd
 refine AV (fun (y:Int×Slc×Unit) w_ g=> ∃ψ:AC,∃j:List Int,Sub (BJ h) ψ∧ψ=(BJ h)∧j=g∧St ψ (cR 5 (Ro.int .u8) y.2.1 j:: []) w_) (g:=z) ?_ ?_
 ·refine BL a0 (fun a1 (y:Int×Slc×Unit) w_ g=> ∃ψ:AC,∃k:List Int,Sub (BJ h) ψ∧ψ=(BJ h)∧y.1=a1∧k=g∧St ψ (cR 5 (Ro.int .u8) y.2.1 k:: []) w_) ((0:Int),((none,0,0):Slc),()) rfl ⟨(BJ h),([] :List Int),(Sub.refl _),rfl,rfl,rfl,(s0.nil 5 (Ro.int .u8))⟩ ?_ ?_
  ·rintro _ z2 ar _ _ ⟨au,av,l,rfl,rfl,rfl,e⟩ b a2 m n
   try dsimp only at b a2 m n
   refine Ag (dT i m) ?_
   obtain ⟨c,a3,b⟩:=bS b
   obtain ⟨aw,ax,a4,a5,a6,o⟩:=(f.mono l).get a3
   refine AF _ a4 (Ac a5 ?_)
   obtain ⟨_,_,rfl,a7,a8⟩:=a6
   obtain rfl:=a7
   obtain rfl:=a8
   refine AH (x:=c.1) (AD e.sub (o 0 _ rfl)) rfl ?_
   refine AH (x:=c.2) (by rw [Ad]; exact (AD e.sub (o 1 _ rfl))) rfl ?_
   refine AU (vs:= [.int .i64 (0:Int), .int .i64 (0:Int)]) e fun r6 ay a9=> ?_
   refine AP a9 rfl rfl fun az aa=> ?_
   refine AP aa rfl rfl fun b0 p=> ?_
   refine AA (x:=c.1) p rfl ?_
   obtain ⟨b1,ab,b⟩:=bS b
   refine AI (Jm gk p.at1 ab) ?_
   rintro _ b2 ⟨b3,t8,b4,ac,rfl,rfl,rfl,ad⟩
   refine ⟨t8,rfl,?_⟩
   refine AU (vs:= [.int .u8 (46:Int)]) ad fun r9 b5 q=> ?_
   obtain ⟨b6,ae,b⟩:=bS b
   refine Am (r:=(Ro.int .u8)) (ms:=([(46:Int)] :List Int)) MM q.tail rfl (St.cells q) (.cons (a:= [_]) rfl .nil) rfl ae ?_
   intro t10 b7 s
   refine AA (x:=c.2) s.at1 rfl ?_
   obtain ⟨b8,af,b⟩:=bS b
   refine AI (Jm gk s af) ?_
   rintro _ b9 ⟨ba,t12,bb,ag,rfl,rfl,rfl,ah⟩
   refine ⟨t12,rfl,?_⟩
   refine AU (vs:= [.int .u8 (32:Int)]) ah fun r13 bc t=> ?_
   obtain ⟨ai,aj,b⟩:=bS b
   refine Am (r:=(Ro.int .u8)) (ms:=([(32:Int)] :List Int)) MM t.tail rfl (St.cells t) (.cons (a:= [_]) rfl .nil) rfl aj ?_
   intro t14 bd ak
   obtain rfl:=iS b
   exact Af ((wN z2.1),t14,()) _ rfl rfl ⟨(BJ h),ai,((l.trans ac).trans ag),rfl,n,rfl,ak.at1.tail⟩
  ·rintro _ z2 be ⟨bf,al,am,rfl,rfl,rfl,an⟩ ao
   refine AY (dF i ao) ?_
   exact AJ (AM (z2.1,z2.2.1,()) rfl ⟨(BJ h),al,am,rfl,rfl,an⟩)
 rintro z1 bg ⟨bh,bi,ap,rfl,rfl,u⟩
 try dsimp only at hd
 obtain ⟨w,aq,hd⟩:=bS hd
 refine Pn (x:=w) Tryz.underlying22 Tryz.underlying5 Tryz.underlying9 (St.bytes u) aq ?_
 obtain rfl:=iS hd
 exact AB ⟨(BJ h),w,ap,(by first | with_reducible rfl | (show Value.string _=Value.string _; with_reducible rfl) | rfl),(by first | with_reducible rfl | rfl),u.tail⟩
theorem Iu {φ:AC} {h:AE} {F:List Chk} {kernel_0:Slc} {a:List Bo} (gk:Glob φ) (b:Ro.SliceIs CR φ kernel_0 a) (s0:St φ (F) h) {r:ByteArray} (hd:Df a=some r):
 CallsH Tryz.prog 100 [(sv kernel_0)] h (Aq fun v h'=> ∃ψ:AC,∃y:ByteArray,Sub φ ψ∧v=((.one (.atom .string)):Sh).val y∧y=r∧St ψ (F) h'):=by
 refine CallsH.mono (Lg (gk.mono s0.sub) (b.mono s0.sub) (Sub.refl _) hd) ?_
 rintro e h' ⟨v,rfl,ψ,y,hs,rfl,rfl,s1⟩
 exact ⟨_,rfl,φ,y,Sub.refl _,rfl,rfl,s0.keep (hs.trans s1.sub)⟩
noncomputable def BU (a_0:Gm) (items_1:List Bo):Option (List Int):=
 (forS (σ:=List Int) (0:Int) (((List.length items_1):Nat):Int) ([] :List Int) fun i_z2 z2=>
  (idx items_1 i_z2).bind fun e31=>
  (Ba a_0 (e31.1,e31.2)).bind fun t9=>
  (cond (decide (t9≥ (0:Int)))
  ((app z2 ([t9] :List Int)).bind fun t12=>
   some t12)
  (some z2)).bind fun z10=>
  some z10).bind fun z1=>
 (Qj z1).bind fun t13=>
 (KY t13).bind fun t14=>
 some t14
theorem HA {φ:AC} {h:AE} {F:List Chk} {a_0:Option Addr} {e:Gm} {items_1:Slc} {f:List Bo} (l:Ro.SliceIs CR φ items_1 f) (s0:St φ (cO 131 (Rep.ro Bz) a_0 e::F) h) {r:(List Int)} (hd:BU e f=some r):
 CallsH Tryz.prog 103 [(.pointer a_0),(sv items_1)] h (Aq fun v h'=> ∃ψ:AC,∃y:Slc,∃m:List Int,Sub φ ψ∧v=((.one aS):Sh).val y∧m=r∧Ro.SliceIs (Ro.int .i64) ψ y m∧St ψ (cO 131 (Rep.ro Bz) a_0 e::F) h'):=by
 refine AQ mixed Tryz.func103 ?_
 rw [G0]
 unfold Ed
 unfold BU at hd
 have n:items_1.2.1=List.length f:=l.length
 obtain ⟨a2,a3,hd⟩:=bS hd
 refine AV (fun (y:Int×Slc×Unit) w_ g=> ∃ψ:AC,∃o:List Int,Sub φ ψ∧o=g∧St ψ (cR 3 (Ro.int .i64) y.2.1 o::cO 131 (Rep.ro Bz) a_0 e::F) w_) (g:=a2) ?_ ?_
 ·refine BL a3 (fun a4 (y:Int×Slc×Unit) w_ g=> ∃ψ:AC,∃p:List Int,Sub φ ψ∧y.1=a4∧p=g∧St ψ (cR 3 (Ro.int .i64) y.2.1 p::cO 131 (Rep.ro Bz) a_0 e::F) w_) ((0:Int),((none,0,0):Slc),()) rfl ⟨φ,([] :List Int),(Sub.refl _),rfl,rfl,(((s0.nil 3 (Ro.int .i64)).at1).at1)⟩ ?_ ?_
  ·rintro _ z2 b9 _ _ ⟨ba,a5,q,rfl,rfl,i⟩ b a6 s u
   try dsimp only at b a6 s u
   refine Ag (dT n s) ?_
   obtain ⟨c,a7,b⟩:=bS b
   obtain ⟨bb,bc,a8,a9,aa,w⟩:=(l.mono q).get a7
   refine AF _ a8 (Ac a9 ?_)
   obtain ⟨_,_,rfl,ab,ac⟩:=aa
   obtain rfl:=ab
   obtain rfl:=ac
   refine AH (x:=c.1) (AD i.sub (w 0 _ rfl)) rfl ?_
   refine AH (x:=c.2) (by rw [Ad]; exact (AD i.sub (w 1 _ rfl))) rfl ?_
   refine AU (vs:= [.int .i64 (0:Int), .int .i64 (0:Int)]) i fun r6 bd ad=> ?_
   refine AP ad rfl rfl fun be ae=> ?_
   refine AP ae rfl rfl fun bf j=> ?_
   refine AA (x:=c.1) j rfl ?_
   refine AA (x:=c.2) j rfl ?_
   obtain ⟨bg,af,b⟩:=bS b
   refine AI (Cz (x_1:=(c.1,c.2,())) j.at2 af) ?_
   rintro _ bh ⟨k,t9,ag,rfl,rfl,z⟩
   refine ⟨t9,rfl,?_⟩
   obtain ⟨ah,d,b⟩:=bS b
   refine Ao (fun (y:Slc×Unit) w_ g=> ∃ψ:AC,∃a0:List Int,Sub k ψ∧a0=g∧St ψ (cR 3 (Ro.int .i64) y.1 a0::cO 131 (Rep.ro Bz) a_0 e::cW 70 r6 [.int .i64 c.1, .int .i64 c.2] ::F) w_) (g:=ah) ?_ ?_
   ·refine AK d rfl (fun _ d=> ?_) (fun _ d=> ?_)
    ·refine AU (vs:= [.int .i64 t9]) z fun r11 bi a1=> ?_
     obtain ⟨ai,aj,d⟩:=bS d
     refine Am (r:=(Ro.int .i64)) (ms:=([t9] :List Int)) F7 a1.tail.at2 rfl (St.cells a1) (.cons (a:= [_]) rfl .nil) rfl aj ?_
     intro t12 bj ak
     obtain rfl:=iS d
     exact AS (t12,()) rfl ⟨k,ai,(Sub.refl _),rfl,ak.at2.at2.at2⟩
    obtain rfl:=iS d
    exact AS (z2.2.1,()) rfl ⟨k,a5,(Sub.refl _),rfl,z.at2.at2.at2.at2⟩
   rintro z10 bk ⟨al,am,an,rfl,ao⟩
   try dsimp only at b
   obtain rfl:=iS b
   exact Af ((wN z2.1),z10.1,()) _ rfl rfl ⟨al,am,((q.trans ag).trans an),u,rfl,ao.at2.tail.at1.at1⟩
  ·rintro _ z2 bl ⟨ap,aq,ar,rfl,rfl,au⟩ av
   refine AY (dF n av) ?_
   exact AJ (AM (z2.1,z2.2.1,()) rfl ⟨ap,aq,ar,rfl,au.at1.at1⟩)
 rintro z1 bm ⟨bn,bo,aw,rfl,ax⟩
 try dsimp only at hd
 obtain ⟨bp,ay,hd⟩:=bS hd
 refine AI (RX ax ay) ?_
 rintro _ bq ⟨br,t13,bs,az,rfl,rfl,b0⟩
 refine ⟨t13,rfl,?_⟩
 obtain ⟨bt,b1,hd⟩:=bS hd
 refine AI (Oh b0 b1) ?_
 rintro _ bu ⟨bv,t14,b2,b3,rfl,rfl,b4⟩
 refine ⟨t14,rfl,?_⟩
 obtain ⟨b5,b6,b7,b8⟩:=St.freezeRow (t:=t14) b4
 obtain rfl:=iS hd
 exact AB ⟨b5,t14,b2,(((aw.trans az).trans b3).trans b6),rfl,rfl,b7,b8⟩
noncomputable def Bf (a_0:DN) (n_1:Int):Option (List Bo):=
 (B9 a_0 n_1).bind fun t1=>
 (cloneD t1.2.1).bind fun t2=>
 some t2
theorem DB {φ:AC} {h:AE} {F:List Chk} {a_0:Option Addr} {a:DN} {n_1:Int} (c:Pt Fu φ a_0 a) (s0:St φ (F) h) {r:(List Bo)} (hd:Bf a n_1=some r):
 CallsH Tryz.prog 32 [(.pointer a_0),(.int .i64 n_1)] h (Aq fun v h'=> ∃ψ:AC,∃y:Slc,∃b:List Bo,Sub φ ψ∧v=((.one aS):Sh).val y∧b=r∧Ro.SliceIs CR ψ y b∧St ψ (F) h'):=by
 refine AQ mixed Tryz.func32 ?_
 rw [H0]
 unfold FP
 unfold Bf at hd
 obtain ⟨q,d,hd⟩:=bS hd
 refine AI (D8 c s0 d) ?_
 rintro _ s ⟨u,t1,w,x,z,e,rfl,rfl,a0,f,a1,g⟩
 refine ⟨t1,rfl,?_⟩
 try dsimp only at hd
 obtain ⟨a2,i,hd⟩:=bS hd
 refine AI (Lc f g i) ?_
 rintro _ a3 ⟨a4,t2,j,k,rfl,rfl,l⟩
 refine ⟨t2,rfl,?_⟩
 obtain ⟨m,n,o,p⟩:=St.freezeRow (t:=t2) l
 obtain rfl:=iS hd
 exact AB ⟨m,t2,j,((e.trans k).trans n),rfl,rfl,o,p⟩
noncomputable def Bx (a_0:DN) (n_1:Int):Option (List Eb):=
 (B9 a_0 n_1).bind fun t1=>
 (cloneD t1.2.2.1).bind fun t2=>
 some t2
theorem Eh {φ:AC} {h:AE} {F:List Chk} {a_0:Option Addr} {a:DN} {n_1:Int} (c:Pt Fu φ a_0 a) (s0:St φ (F) h) {r:(List Eb)} (hd:Bx a n_1=some r):
 CallsH Tryz.prog 34 [(.pointer a_0),(.int .i64 n_1)] h (Aq fun v h'=> ∃ψ:AC,∃y:Slc,∃b:List Eb,Sub φ ψ∧v=((.one aS):Sh).val y∧b=r∧Ro.SliceIs Fe ψ y b∧St ψ (F) h'):=by
 refine AQ mixed Tryz.func34 ?_
 rw [H4]
 unfold FQ
 unfold Bx at hd
 obtain ⟨q,d,hd⟩:=bS hd
 refine AI (D8 c s0 d) ?_
 rintro _ s ⟨u,t1,w,x,z,e,rfl,rfl,a0,a1,f,g⟩
 refine ⟨t1,rfl,?_⟩
 try dsimp only at hd
 obtain ⟨a2,i,hd⟩:=bS hd
 refine AI (Oz f g i) ?_
 rintro _ a3 ⟨a4,t2,j,k,rfl,rfl,l⟩
 refine ⟨t2,rfl,?_⟩
 obtain ⟨m,n,o,p⟩:=St.freezeRow (t:=t2) l
 obtain rfl:=iS hd
 exact AB ⟨m,t2,j,((e.trans k).trans n),rfl,rfl,o,p⟩
end Go.Proofs.YteolcjbobmpdiaaGreatDoor
namespace Go.Proofs.YteolcjbobmpdiaaGreatDoor
open Go Go.Eng Go.RowKit Go.Shelf Go.Sort
set_option linter.unusedVariables false
set_option maxRecDepth 100000
def orI (x y:Int):Int:=if x=0 then y else x
set_option maxHeartbeats 1000000 in
theorem or2 {b:Nat} {x y:Int} (w:World) (h0:w.cell? ⟨b,0,none⟩=some (.int .i64 x)) (h1:w.cell? ⟨b,1,none⟩=some (.int .i64 y)):
 Calls Tryz.prog 157 #[.slice (some ⟨b,0,none⟩) 2 2] w fun e w'=>e= .returned (.int .i64 (orI x y))∧w'=w:=by
 have hmx:Tryz.prog.follows .mixedOrders=true:=mixed
 go_enter Tryz.func157,Tryz.ntmps157
 go_wp2
 go_loop [5,8] (fun _ i=> ∃k:Nat,k≤2∧i= .int .i64 k∧(1≤k→x=0)∧(2≤k→y=0)) (fun _ i=>match i with | .int _ m=>2 - m.toNat | _=>0)
 case atStart=>exact ⟨0,by omega,rfl,by omega,by omega⟩
 case round=>
  obtain ⟨k,hk,rfl,g1,g2⟩:=hrel
  have hk3:k=0∨k=1∨k=2:=by omega
  rcases hk3 with rfl | rfl | rfl
  ·go_wp2
   ·have hne:(x !=0)=true:=by assumption
    go_ret
    exact ⟨by unfold orI; rw [if_neg (by simpa using hne)]; rfl,rfl⟩
   ·have hne:(x !=0)=false:=by assumption
    exact ⟨⟨1,by omega,rfl,fun _=>by simpa using hne,fun h=>by omega⟩,by decide⟩
  ·go_wp2
   ·have hne:(y !=0)=true:=by assumption
    go_ret
    have hx:=g1 (by omega); subst hx; exact ⟨rfl,rfl⟩
   ·have hne:(y !=0)=false:=by assumption
    exact ⟨⟨2,by omega,rfl,fun _=>g1 (by omega),fun _=>by simpa using hne⟩,by decide⟩
  ·go_wp2
   go_ret
   have hx:=g1 (by omega); have hy:=g2 (by omega); subst hx; subst hy; exact ⟨rfl,rfl⟩
theorem JH {w:World} {b i:Nat} {c:Array Value} {t:TypeId} {v:Value} (hb:w.heap[b]? =some (.cells c t (0,0))) (hv:c[i]? =some v):w.cell? ⟨b,i,none⟩=some v:=by
 rw [PR,Ez (c:=c) (t:=t) (f:=(0,0)) hb rfl]
 exact hv
theorem NL (w:World) (x y:Int):(w.alloc (.cells #[.int .i64 x, .int .i64 y] 3)).cell? ⟨w.heap.size,0,none⟩=some (.int .i64 x)∧(w.alloc (.cells #[.int .i64 x, .int .i64 y] 3)).cell? ⟨w.heap.size,1,none⟩=some (.int .i64 y):=by
 have hb:(w.alloc (.cells #[.int .i64 x, .int .i64 y] 3)).heap[w.heap.size]? =some (.cells #[.int .i64 x, .int .i64 y] 3 (0,0)):=by
  show (w.heap.push _)[w.heap.size]? =_
  rw [Array.getElem?_push,if_pos rfl]
 exact ⟨JH hb rfl,JH hb rfl⟩
theorem MN (w:World) (o:Obj):w.alloc o=grow w #[o] :=by
 show ({w with heap:=w.heap.push o} :World)= {w with heap:=w.heap++ #[o] }
 rw [Array.push_eq_append]
set_option maxHeartbeats 4000000 in
theorem WS {a b:Int×Int} (w:World):
 Calls Tryz.prog 128 #[.agg #[.int .i64 a.1, .int .i64 a.2], .agg #[.int .i64 b.1, .int .i64 b.2]] w fun e w'=>e= .returned (.int .i64 (orI (Lib.compareInt a.1 b.1) (Lib.compareInt a.2 b.2)))∧ ∃q os',w'=grow (w.drewN q) os':=by
 have hmx:Tryz.prog.follows .mixedOrders=true:=mixed
 have e61: ∀args w,(callFunc 158 args).run Tryz.prog w= .ok (.enter 158 args) w:=enters_of Tryz.func158 (by kernel_rfl) rfl
 have e60: ∀args w,(callFunc 157 args).run Tryz.prog w= .ok (.enter 157 args) w:=enters_of Tryz.func157 (by kernel_rfl) rfl
 go_enter Tryz.func128,Tryz.ntmps128
 go_wp2
 obtain ⟨A,hA⟩: ∃A,A=Obj.cells #[Value.int .i64 a.1,Value.int .i64 a.2] 70 (0,0):=⟨_,rfl⟩
 obtain ⟨B,hB⟩: ∃B,B=Obj.cells #[Value.int .i64 b.1,Value.int .i64 b.2] 70 (0,0):=⟨_,rfl⟩
 obtain ⟨W,hW⟩: ∃W,W=(w.alloc A).alloc B:=⟨_,rfl⟩
 have hh:W.heap=(w.heap.push A).push B:=by rw [hW]; rfl
 have ha:W.heap[w.heap.size]? =some A:=by rw [hh,Array.getElem?_push,if_neg (by simp),Array.getElem?_push,if_pos rfl]
 have hb:W.heap[w.heap.size+1]? =some B:=by rw [hh,Array.getElem?_push,if_pos (by simp)]
 rw [← hA,← hB,← hW]
 rw [hA] at ha
 rw [hB] at hb
 have f1:W.drew.cell? ⟨w.heap.size,0,none⟩=some (.int .i64 a.1):=JH (w:=W.drew) ha rfl
 have f2:W.drew.cell? ⟨w.heap.size,1,none⟩=some (.int .i64 a.2):=JH (w:=W.drew) ha rfl
 have f3:W.drew.cell? ⟨w.heap.size+1,0,none⟩=some (.int .i64 b.1):=JH (w:=W.drew) hb rfl
 have f4:W.drew.cell? ⟨w.heap.size+1,1,none⟩=some (.int .i64 b.2):=JH (w:=W.drew) hb rfl
 have hWg:grow w #[A,B] =W:=by rw [hW,MN,MN,grow_grow]; rfl
 clear hh ha hb hW hA hB
 refine wp_region_still_tail 10 (by kernel_rfl) (by kernel_rfl) ?_
 simp only [List.take_succ_cons,List.take_zero,List.drop_succ_cons,List.drop_zero]
 still_step
 still_step
 still_step
 still_step
 still_call (Any.cmp_Compare_int KX _ _ _)
 still_step
 still_step
 still_step
 still_step
 still_call (Any.cmp_Compare_int KX _ _ _)
 refine wpStill_nil ?_
 clear f1 f2 f3 f4
 change wpList _ _ _ _ _ W.drew
 generalize hV:W.drew=V
 go_wp2_with (go_at_call 157; refine (or2 (x:=Lib.compareInt a.1 b.1) (y:=Lib.compareInt a.2 b.2) _ (NL _ _ _).1 (NL _ _ _).2).mono ?_; rintro e w' ⟨rfl,rfl⟩)
 go_ret
 refine ⟨rfl,1,#[A,B] ++ #[.cells #[.int .i64 (Lib.compareInt a.1 b.1), .int .i64 (Lib.compareInt a.2 b.2)] 3 (0,0)],?_⟩
 rw [MN,← hV,← hWg,← grow_grow]
 rfl
abbrev Item:=Int×Int
def FE (x:Item):List Value:= [.int .i64 x.1, .int .i64 x.2]
def cfI (x y:Item):Int:=orI (Lib.compareInt x.1 y.1) (Lib.compareInt x.2 y.2)
def DX (x y:Item):Bool:=decide (x.1<y.1∨x.1=y.1∧x.2<y.2)
def GE (l:List Item):List Item:=NC (fun x y=> !DX y x) l
theorem Kg (a b c:Item) (h1:(!DX b a)=true) (h2:(!DX c b)=true):(!DX c a)=true:=by
 simp only [DX,Bool.not_eq_true',decide_eq_false_iff_not] at *
 omega
theorem Kh (a b:Item):(!DX b a || !DX a b)=true:=by
 simp only [DX,Bool.or_eq_true,Bool.not_eq_true',decide_eq_false_iff_not]
 omega
theorem Re (l:List Item):GE l=l.mergeSort fun x y=> !DX y x:=
 Og Kg Kh (fun a b h1 h2=>by
  simp only [DX,Bool.not_eq_true',decide_eq_false_iff_not] at *
  exact Prod.ext (by omega) (by omega)) l
def Hc (l:List Item):Option (List Item):=if l.length<4611686018427387904 then some (GE l) else none
theorem Rf {φ:AC} {vs:List Value} {l:List Item} (H:CR.All φ vs l):vs=l.flatMap FE:=by
 induction H with
 | nil=>rfl
 | cons h _ ih=>
  obtain ⟨_,_,rfl,rfl,rfl⟩:=h
  rw [ih,List.flatMap_cons]
  rfl
theorem Rg {φ:AC} (l:List Item):CR.All φ (l.flatMap FE) l:=by
 induction l with
 | nil=>exact .nil
 | cons x l ih=>exact Ro.All.cons (a:=FE x) ⟨[_],_,rfl,rfl,rfl⟩ ih
theorem TE (l:List Item): ∀t:Nat,t<l.length * 2→(l.flatMap FE)[t]? =some ((FE (l[t / 2]?.getD (0,0)))[t % 2]!):=by
 induction l with
 | nil=>intro t h; simp at h
 | cons x l ih=>
  intro t h
  rw [List.flatMap_cons]
  match t with
  | 0=>rfl
  | 1=>rfl
  | t+2=>
   rw [List.getElem?_append_right (by simp [FE])]
   have e:t+2 - (FE x).length=t:=by simp [FE]
   rw [e,ih t (by simp at h; omega),show (t+2) / 2=t / 2+1 by omega,List.getElem?_cons_succ,show (t+2) % 2=t % 2 by omega]
theorem Ki (l:List Item):(l.flatMap FE).length=l.length * 2:=by
 induction l with
 | nil=>rfl
 | cons x l ih=>rw [List.flatMap_cons,List.length_append,ih,List.length_cons]; simp [FE]; omega
theorem MO (l:List Item):flatK FE 2 l.toArray=(l.flatMap FE).toArray:=by
 refine ext_get! (by rw [size_flatK,List.size_toArray,List.size_toArray,Ki]) fun t ht=> ?_
 rw [size_flatK,List.size_toArray] at ht
 rw [get_flatK _ _ _ _ (by simpa using ht)]
 have h1:=TE l t ht
 have ht':t< (l.flatMap FE).length:=by rw [Ki]; exact ht
 rw [List.getElem?_eq_getElem ht'] at h1
 rw [getElem!_pos _ t (by simpa using ht')]
 have h2:t / 2<l.length:=by omega
 rw [getElem!_pos _ (t / 2) (by simpa using h2)]
 rw [List.getElem?_eq_getElem h2] at h1
 simp only [List.getElem_toArray]
 exact (Option.some.inj h1).symm
theorem MP (x y:Item):ltOf cfI x y=DX x y:=by
 unfold ltOf cfI DX orI Lib.compareInt
 by_cases h1:x.1<y.1
 ·simp [h1]
 ·by_cases h2:y.1<x.1
  ·have: ¬x.1=y.1:=by omega
   simp [h1,h2,this]
  ·have h3:x.1=y.1:=by omega
   by_cases h4:x.2<y.2
   ·simp [h3,h4]
   ·by_cases h5:y.2<x.2<;>simp [h3,h4,h5]
theorem P9 (x y:Item):DX x y=true ↔ (x.1<y.1∨x.1=y.1∧x.2<y.2):=by unfold DX; exact decide_eq_true_iff
theorem Iv (x y:Item):DX x y=false ↔ ¬(x.1<y.1∨x.1=y.1∧x.2<y.2):=by unfold DX; exact decide_eq_false_iff_not
theorem Wh:SWO (ltOf cfI) where
 irrefl x:=by rw [MP,Iv]; omega
 trans x y z h1 h2:=by rw [MP,P9] at *; omega
 ntrans x y z h1 h2:=by rw [MP,Iv] at *; omega
theorem Wi (x y:Item) (h1:ltOf cfI x y=false) (h2:ltOf cfI y x=false):x=y:=by
 rw [MP,Iv] at h1 h2
 exact Prod.ext (by omega) (by omega)
section
variable {φ:AC} {h:AE} {F:List Chk}
theorem QA {t:Slc} {l r:List Item} (s0:St φ (cR 70 CR t l::F) h) (hd:Hc l=some r):
 CallsH Tryz.prog 127 [.slice t.1 t.2.1 t.2.2, .func (.func 128) #[] #[]] h (Aq fun v h'=> ∃ψ:AC,∃y:Unit,∃l1:List Item,Sub φ ψ∧v=((.tuple []):Sh).val y∧l1=r∧St ψ (cR 70 CR t l1::F) h'):=by
 unfold Hc at hd
 split at hd
 ·rename_i hb
  cases hd
  intro w hw
  subst hw
  rcases St.rowHoldsF s0 with ⟨hl,hn⟩ | ⟨b,off,vs,ht,hall,hn,hlt,hfit,hH⟩
  ·subst hl
   rw [hn]
   have hc:=AnyF.slices_SortFunc_none Ik t.1 t.2.2 (.func (.func 128) #[] #[]) w
   refine (show Calls Tryz.prog 127 #[.slice t.1 0 t.2.2,_] w _ from hc).mono ?_
   rintro e w' ⟨rfl,rfl⟩
   exact ⟨Bi.refl _,_,rfl,φ,(),_,Sub.refl _,rfl,rfl,by rw [show GE [] = [] from rfl]; exact s0⟩
  ·have hvs:=Rf hall
   subst hvs
   have hHd:HoldsK FE 2 w b off l.toArray:=by unfold HoldsK; rw [MO]; exact hH
   have hc:=AnyQ.slices_SortFunc_total Ik 2 (fun w=>Tryz.isAgg70 w) (fun w=>Tryz.sizeOf70 w) FE (fun _=>rfl) (fun x v hv=>by simp [FE] at hv; rcases hv with rfl | rfl<;>rfl) cfI Wh 128 #[] b off t.2.2 l.toArray w
    (enters_of Tryz.func128 (by kernel_rfl) rfl) (fun m os dk hdk x y=>WS (a:=x) (b:=y) _) hHd hlt (by simpa using hb) Wi
   have hn2:t.2.1=l.toArray.size:=by rw [hn]; simp
   rw [ht,hn2]
   refine (show Calls Tryz.prog 127 #[.slice (some ⟨b,off,none⟩) l.toArray.size t.2.2,_] w _ from hc).mono ?_
   rintro e w' ⟨rfl,k,os,rfl⟩
   have hsrt:(l.toArray.toList.mergeSort fun x y=> !(ltOf cfI) y x)=GE l:=by
    rw [Re]
    congr 1
    funext x y
    rw [MP]
   rw [hsrt]
   have hlen:(GE l).length=l.length:=(Co _ _).length_eq
   have s1:=St.rowSortedF s0 ht ((GE l).flatMap FE) (Rg _) hlen (by rw [Ki,hlen,← Ki]; exact hfit) k os
   refine ⟨⟨rfl,rfl,rfl,by unfold sortWorldK; rw [size_grow,size_putRowK]; exact Nat.le_add_right _ _⟩,_,rfl,φ,(),_,Sub.refl _,rfl,rfl,?_⟩
   unfold sortWorldK putRowK
   rw [MO]
   exact s1
 ·cases hd
end
end Go.Proofs.YteolcjbobmpdiaaGreatDoor
namespace Go.Proofs.YteolcjbobmpdiaaGreatDoor
open Go Go.Eng
set_option linter.unusedVariables false
set_option maxRecDepth 100000
noncomputable def Az (a_0:Gm) (kernel_1:List Bo):Option (List Bo):=
 (cloneD kernel_1).bind fun t1=>
 (loop (σ:=(Int×List Bo×List (Int×Bool))) (β:=(List Bo×List (Int×Bool))) ((0:Int),t1,([] :List (Int×Bool))) fun z4=>
  cond (decide (z4.1< (((List.length z4.2.1):Nat):Int)))
  (((idx z4.2.1 z4.1).bind fun e45=>
   (Ba a_0 (e45.1,e45.2)).bind fun t9=>
   (cond (decide (t9< (0:Int)))
   (some true)
   ((BV (a_0.1,a_0.2.1,a_0.2.2.1,a_0.2.2.2.1,a_0.2.2.2.2.1,a_0.2.2.2.2.2.1) t9).bind fun t18=>
    cond t18
    (some true)
    ((some (BH t9 z4.2.2)).bind fun t19=>
     some (Option.getD t19 false)))).bind fun z10=>
   cond z10
   (some (z4.2.1,z4.2.2))
   ((forS (σ:=List Bo) (0:Int) (((List.length a_0.2.2.1):Nat):Int) z4.2.1 fun i_z24 z24=>
    (idx a_0.2.2.1 i_z24).bind fun e160=>
    (cond (e160.1==t9)
    ((Ai z24 (i_z24,(0:Int))).bind fun t35=>
     some (!t35))
    (some false)).bind fun z31=>
    (cond z31
    ((app z24 ([(i_z24,(0:Int))] :List Bo)).bind fun t40=>
     some t40)
    (some z24)).bind fun z36=>
    some z36).bind fun z23=>
    some (z23,(Bn t9 true z4.2.2)))).bind fun z5=>
   some (AW.next ((IntKind.wrap .i64 (z4.1+(1:Int))),z5.1,z5.2)))
  (some (AW.done (z4.2.1,z4.2.2)))).bind fun z3=>
 (Hc z3.1).bind fun t41=>
 some t41
theorem HB {φ:AC} {h:AE} {F:List Chk} {a_0:Option Addr} {b:Gm} {kernel_1:Slc} {ar:List Bo} (bl:Ro.SliceIs CR φ kernel_1 ar) (s0:St φ (cO 131 (Rep.ro Bz) a_0 b::F) h) {r:(List Bo)} (hd:Az b ar=some r):
 CallsH Tryz.prog 101 [(.pointer a_0),(sv kernel_1)] h (Aq fun v h'=> ∃ψ:AC,∃y:Slc,∃au:List Bo,Sub φ ψ∧v=((.one aS):Sh).val y∧au=r∧Ro.SliceIs CR ψ y au∧St ψ (cO 131 (Rep.ro Bz) a_0 b::F) h'):=by
 refine AQ mixed Tryz.func101 ?_
 rw [Gz]
 unfold Ec
 unfold Az at hd
 obtain ⟨e4,bm,hd⟩:=bS hd
 refine AI (Lc bl s0 bm) ?_
 rintro _ e5 ⟨af,t1,bn,bo,rfl,rfl,bp⟩
 refine ⟨t1,rfl,?_⟩
 refine C3 (kyI .i64) Ro.bool bp fun r2 e6 bq=> ?_
 obtain ⟨br,bs,hd⟩:=bS hd
 refine AV (fun (y:Int×Slc×Unit) w_ g=> ∃ψ:AC,∃av:List Bo,∃aw:List (Int×Bool),Sub af ψ∧(av,aw)=g∧St ψ (cR 70 CR y.2.1 av::cM (kyI .i64) Ro.bool r2 aw::cO 131 (Rep.ro Bz) a_0 b::F) w_) (g:=br) ?_ ?_
 ·refine EM bs (fun (y:Int×Slc×Unit) w_ g=> ∃ψ:AC,∃ax:List Bo,∃ay:List (Int×Bool),Sub af ψ∧(y.1,ax,ay)=g∧St ψ (cR 70 CR y.2.1 ax::cM (kyI .i64) Ro.bool r2 ay::cO 131 (Rep.ro Bz) a_0 b::F) w_) ((0:Int),t1,()) rfl ⟨af,bn,([] :List (Int×Bool)),(Sub.refl _),rfl,bq.at1.at2.at2.at2⟩ ?_
  ·rintro z4 e7 _ _ ⟨az,a2,j,b0,rfl,a3⟩ k bt
   try dsimp only at k
   have bu:=a3.rowLen
   refine AK k (by rw [bu] <;>rfl) (fun _ k=> ?_) (fun _ k=> ?_)
   ·obtain ⟨bv,c,k⟩:=bS k
    refine AV (fun (y:Slc×Unit) w_ g=> ∃ψ:AC,∃b1:List Bo,∃b2:List (Int×Bool),Sub az ψ∧(b1,b2)=g∧St ψ (cR 70 CR y.1 b1::cM (kyI .i64) Ro.bool r2 b2::cO 131 (Rep.ro Bz) a_0 b::F) w_) (g:=bv) ?_ ?_
    ·obtain ⟨a4,bw,c⟩:=bS c
     obtain ⟨e8,e9,bx,bz,c0,b3⟩:=(a3).get bw
     refine AF _ bx (Ac bz ?_)
     obtain ⟨_,_,rfl,c1,c2⟩:=c0
     obtain rfl:=c1
     obtain rfl:=c2
     refine AH (x:=a4.1) (b3 0 _ rfl) rfl ?_
     refine AH (x:=a4.2) (by rw [Ad]; exact (b3 1 _ rfl)) rfl ?_
     obtain ⟨ea,c3,c⟩:=bS c
     refine AI (Cz (x_1:=(a4.1,a4.2,())) a3.at2 c3) ?_
     rintro _ eb ⟨b4,t9,b5,rfl,rfl,b6⟩
     refine ⟨t9,rfl,?_⟩
     obtain ⟨c4,e,c⟩:=bS c
     refine Ao (fun (y:Bool×Unit) w_ g=> ∃ψ:AC,Sub b4 ψ∧y.1=g∧St ψ (cO 131 (Rep.ro Bz) a_0 b::cR 70 CR z4.2.1 a2::cM (kyI .i64) Ro.bool r2 j::F) w_) (g:=c4) ?_ ?_
     ·refine AK e rfl (fun _ e=> ?_) (fun _ e=> ?_)
      ·have c5:=b6.at2
       obtain rfl:=iS e
       exact AS (true,()) rfl ⟨b4,(Sub.refl _),rfl,c5.at2.at2⟩
      obtain ⟨ec,ed,c6,⟨_,_,rfl,⟨a5,rfl,ag⟩,_,_,rfl,⟨a6,rfl,ah⟩,_,_,rfl,⟨a7,rfl,ai⟩,_,_,rfl,⟨a8,rfl,aj⟩,_,_,rfl,⟨a9,rfl,ak⟩,_,_,rfl,⟨aa,rfl,al⟩,_,_,rfl,rfl,rfl⟩,l⟩:=St.openR b6
      subst c6
      refine AF _ rfl ?_
      refine AA (x:=a5) l rfl ?_
      refine AA (x:=a6) l rfl ?_
      refine AA (x:=a7) l rfl ?_
      refine AA (x:=a8) l rfl ?_
      refine AA (x:=a9) l rfl ?_
      refine AA (x:=aa) l rfl ?_
      obtain ⟨ee,c7,e⟩:=bS e
      refine AI (ET (p_0:=(a5,a6,a7,a8,a9,aa,())) ag ah ai aj ak al l c7) ?_
      rintro _ ef ⟨b7,t18,d,rfl,rfl,am⟩
      refine ⟨t18,rfl,?_⟩
      refine AK e rfl (fun _ e=> ?_) (fun _ e=> ?_)
      ·have c8:=St.shutR (r:=Bz) (x:=(b.1,b.2.1,b.2.2.1,b.2.2.2.1,b.2.2.2.2.1,b.2.2.2.2.2.1,b.2.2.2.2.2.2.1,(b.2.2.2.2.2.2.2))) am ⟨[_],_,rfl,⟨a5,rfl,(ag.mono d)⟩,⟨[_],_,rfl,⟨a6,rfl,(ah.mono d)⟩,⟨[_],_,rfl,⟨a7,rfl,(ai.mono d)⟩,⟨[_],_,rfl,⟨a8,rfl,(aj.mono d)⟩,⟨[_],_,rfl,⟨a9,rfl,(ak.mono d)⟩,⟨[_],_,rfl,⟨aa,rfl,(al.mono d)⟩,⟨[_],_,rfl,rfl,rfl⟩⟩⟩⟩⟩⟩⟩
       obtain rfl:=iS e
       exact AS (true,()) rfl ⟨b7,d,rfl,c8.at2.at2.at2⟩
      obtain ⟨eg,c9,e⟩:=bS e
      obtain rfl:=iS c9
      refine Fj (a:= .bool) (kk:=(kyI .i64)) (i:=Tryz.t4) false Tryz.underlying213 Tryz.underlying3 (by kernel_rfl) rfl am.at2 ?_
      have ca:=St.shutR (r:=Bz) (x:=(b.1,b.2.1,b.2.2.1,b.2.2.2.1,b.2.2.2.2.1,b.2.2.2.2.2.1,b.2.2.2.2.2.2.1,(b.2.2.2.2.2.2.2))) am ⟨[_],_,rfl,⟨a5,rfl,(ag.mono d)⟩,⟨[_],_,rfl,⟨a6,rfl,(ah.mono d)⟩,⟨[_],_,rfl,⟨a7,rfl,(ai.mono d)⟩,⟨[_],_,rfl,⟨a8,rfl,(aj.mono d)⟩,⟨[_],_,rfl,⟨a9,rfl,(ak.mono d)⟩,⟨[_],_,rfl,⟨aa,rfl,(al.mono d)⟩,⟨[_],_,rfl,rfl,rfl⟩⟩⟩⟩⟩⟩⟩
      obtain rfl:=iS e
      exact AS (((BH t9 j).getD false),()) rfl ⟨b7,d,rfl,ca.at2.at2.at2⟩
     rintro z10 eh ⟨ab,b8,rfl,b9⟩
     try dsimp only at c
     refine AK c rfl (fun _ c=> ?_) (fun _ c=> ?_)
     ·have cb:=b9.at1
      obtain rfl:=iS c
      exact AM (z4.2.1,()) rfl ⟨ab,a2,j,(b5.trans b8),rfl,cb.at1.at2.at2⟩
     refine IU (kk:=(kyI .i64)) (y:=true) Tryz.underlying213 Tryz.underlying3 b9.at2 rfl fun ei cc=> ?_
     obtain ⟨ac,ej,cd,⟨_,_,rfl,⟨s,rfl,ce⟩,_,_,rfl,⟨u,rfl,cf⟩,_,_,rfl,⟨q,rfl,an⟩,_,_,rfl,⟨w,rfl,cg⟩,_,_,rfl,⟨z,rfl,ch⟩,_,_,rfl,⟨a0,rfl,ci⟩,_,_,rfl,rfl,rfl⟩,ba⟩:=St.openR cc.at1
     subst cd
     have bb:=an.length
     refine AF _ rfl ?_
     refine AA (x:=q) ba rfl ?_
     obtain ⟨cj,ck,c⟩:=bS c
     refine AV (fun (y:Int×Slc×Unit) w_ g=> ∃ψ:AC,∃bc:List Bo,Sub ab ψ∧bc=g∧St ψ (cR 70 CR y.2.1 bc::cW 131 ac [sv s,sv u,sv q,sv w,sv z,sv a0,sv b.2.2.2.2.2.2.1, .int .i64 (b.2.2.2.2.2.2.2)] ::cM (kyI .i64) Ro.bool r2 (Bn t9 true j)::F) w_) (g:=cj) ?_ ?_
     ·refine BL ck (fun cl (y:Int×Slc×Unit) w_ g=> ∃ψ:AC,∃bd:List Bo,Sub ab ψ∧y.1=cl∧bd=g∧St ψ (cR 70 CR y.2.1 bd::cW 131 ac [sv s,sv u,sv q,sv w,sv z,sv a0,sv b.2.2.2.2.2.2.1, .int .i64 (b.2.2.2.2.2.2.2)] ::cM (kyI .i64) Ro.bool r2 (Bn t9 true j)::F) w_) ((0:Int),z4.2.1,()) rfl ⟨ab,a2,(Sub.refl _),rfl,rfl,ba.at2.at2.at2.at2⟩ ?_ ?_
      ·rintro _ z24 ek _ _ ⟨be,bf,bg,rfl,rfl,ad⟩ f cm bh bi
       try dsimp only at f cm bh bi
       refine Ag (dT bb bh) ?_
       obtain ⟨m,cn,f⟩:=bS f
       obtain ⟨el,em,co,cp,cq,ao⟩:=(an.mono bg).get cn
       refine AF _ co (Ac cp ?_)
       obtain ⟨_,_,rfl,cr,cs⟩:=cq
       obtain rfl:=cr
       obtain ⟨_,_,rfl,ct,cu⟩:=cs
       obtain ⟨ap,rfl,en⟩:=ct
       obtain rfl:=cu
       refine AH (x:=m.1) (AD ad.sub (ao 0 _ rfl)) rfl ?_
       refine AH (x:=ap) (by rw [Ad]; exact (AD ad.sub (ao 1 _ rfl))) rfl ?_
       refine AH (x:=m.2.2) (by rw [Ad]; exact (AD ad.sub (ao 2 _ rfl))) rfl ?_
       refine AU (vs:= [.int .i64 (0:Int), .slice none 0 0, .int .i64 (0:Int)]) ad fun r29 eo cv=> ?_
       refine AP cv rfl rfl fun ep cw=> ?_
       refine AP cw rfl rfl fun er cx=> ?_
       refine AP cx rfl rfl fun es cy=> ?_
       refine AU (vs:= [.int .i64 (0:Int), .int .i64 (0:Int)]) cy fun r30 eu cz=> ?_
       refine AP cz rfl rfl fun ev d0=> ?_
       refine AP d0 rfl rfl fun ew a1=> ?_
       obtain ⟨d1,n,f⟩:=bS f
       refine Ao (fun (y:Bool×Unit) w_ g=> ∃ψ:AC,Sub be ψ∧y.1=g∧St ψ (cW 70 r30 [.int .i64 z24.1, .int .i64 (0:Int)] ::cW 65 r29 [.int .i64 m.1,sv ap, .int .i64 m.2.2] ::cR 70 CR z24.2.1 bf::cW 131 ac [sv s,sv u,sv q,sv w,sv z,sv a0,sv b.2.2.2.2.2.2.1, .int .i64 (b.2.2.2.2.2.2.2)] ::cM (kyI .i64) Ro.bool r2 (Bn t9 true j)::F) w_) (g:=d1) ?_ ?_
       ·refine AA (x:=m.1) a1.at1 rfl ?_
        refine AK n rfl (fun _ n=> ?_) (fun _ n=> ?_)
        ·refine AA (x:=z24.1) a1 rfl ?_
         refine AA (x:=(0:Int)) a1 rfl ?_
         obtain ⟨ex,d2,n⟩:=bS n
         refine AI (C6 (v_1:=(z24.1,(0:Int),())) a1.at2 d2) ?_
         rintro _ ey ⟨d3,t35,d4,rfl,rfl,d5⟩
         refine ⟨t35,rfl,?_⟩
         obtain rfl:=iS n
         exact AS ((!t35),()) rfl ⟨d3,d4,rfl,d5.at4.at4.at2.at4.at4⟩
        obtain rfl:=iS n
        exact AS (false,()) rfl ⟨be,(Sub.refl _),rfl,a1.at4.at4.at4.at4.at4⟩
       rintro z31 ez ⟨aq,d6,rfl,ae⟩
       try dsimp only at f
       obtain ⟨d7,o,f⟩:=bS f
       refine Ao (fun (y:Slc×Unit) w_ g=> ∃ψ:AC,∃bj:List Bo,Sub aq ψ∧bj=g∧St ψ (cR 70 CR y.1 bj::cW 70 r30 [.int .i64 z24.1, .int .i64 (0:Int)] ::cW 65 r29 [.int .i64 m.1,sv ap, .int .i64 m.2.2] ::cW 131 ac [sv s,sv u,sv q,sv w,sv z,sv a0,sv b.2.2.2.2.2.2.1, .int .i64 (b.2.2.2.2.2.2.2)] ::cM (kyI .i64) Ro.bool r2 (Bn t9 true j)::F) w_) (g:=d7) ?_ ?_
       ·refine AK o rfl (fun _ o=> ?_) (fun _ o=> ?_)
        ·refine AA (x:=z24.1) ae rfl ?_
         refine AA (x:=(0:Int)) ae rfl ?_
         refine AU (vs:= [.int .i64 z24.1, .int .i64 (0:Int)]) ae fun r39 f0 bk=> ?_
         obtain ⟨d8,d9,o⟩:=bS o
         refine Am (r:=CR) (ms:=([(z24.1,(0:Int))] :List Bo)) ML bk.tail.at2 rfl (St.cells bk) (.cons (a:= [_,_]) ⟨[_],_,rfl,rfl,rfl⟩ .nil) rfl d9 ?_
         intro t40 f1 da
         obtain rfl:=iS o
         exact AS (t40,()) rfl ⟨aq,d8,(Sub.refl _),rfl,da.at4.at4.at4.at4.at4⟩
        obtain rfl:=iS o
        exact AS (z24.2.1,()) rfl ⟨aq,bf,(Sub.refl _),rfl,ae.at2.at4.at4.at4.at4.at4⟩
       rintro z36 f2 ⟨db,dc,dd,rfl,de⟩
       try dsimp only at f
       obtain rfl:=iS f
       exact Af ((wN z24.1),z36.1,()) _ rfl rfl ⟨db,dc,((bg.trans d6).trans dd),bi,rfl,de.at1.tail.at1.tail.at2.at2.at2⟩
      ·rintro _ z24 f3 ⟨df,dg,dh,rfl,rfl,di⟩ dj
       refine AY (dF bb dj) ?_
       exact AJ (AM (z24.1,z24.2.1,()) rfl ⟨df,dg,dh,rfl,di.at2.at2.at2⟩)
     rintro z23 f4 ⟨dk,dl,p,rfl,dm⟩
     try dsimp only at c
     have dn:=St.shutR (r:=Bz) (x:=(b.1,b.2.1,b.2.2.1,b.2.2.2.1,b.2.2.2.2.1,b.2.2.2.2.2.1,b.2.2.2.2.2.2.1,(b.2.2.2.2.2.2.2))) dm.at1 ⟨[_],_,rfl,⟨s,rfl,(ce.mono p)⟩,⟨[_],_,rfl,⟨u,rfl,(cf.mono p)⟩,⟨[_],_,rfl,⟨q,rfl,(an.mono p)⟩,⟨[_],_,rfl,⟨w,rfl,(cg.mono p)⟩,⟨[_],_,rfl,⟨z,rfl,(ch.mono p)⟩,⟨[_],_,rfl,⟨a0,rfl,(ci.mono p)⟩,⟨[_],_,rfl,rfl,rfl⟩⟩⟩⟩⟩⟩⟩
     obtain rfl:=iS c
     exact Nk (z23.2.1,()) rfl ⟨dk,dl,(Bn t9 true j),((b5.trans b8).trans p),rfl,dn.at2.at2⟩
    rintro z5 f5 ⟨dp,dq,dr,ds,rfl,dt⟩
    try dsimp only at k
    obtain rfl:=iS k
    exact Af ((wN z4.1),z5.1,()) _ rfl rfl ⟨dp,dq,dr,(b0.trans ds),rfl,dt.at2.at2.at2⟩
   obtain rfl:=iS k
   obtain rfl:=bt _ rfl
   exact AJ (AM (z4.1,z4.2.1,()) rfl ⟨az,a2,j,b0,rfl,a3.at2.at2.at2⟩)
 rintro z3 f6 ⟨f7,f8,f9,du,rfl,dv⟩
 try dsimp only at hd
 obtain ⟨fa,dw,hd⟩:=bS hd
 refine AI (QA dv dw) ?_
 rintro _ fb ⟨fc,t41,dx,dy,rfl,rfl,dz⟩
 refine ⟨t41,rfl,?_⟩
 obtain ⟨e0,e1,e2,e3⟩:=St.freezeRow (t:=z3.2.1) dz
 obtain rfl:=iS hd
 exact AB ⟨e0,z3.2.1,dx,(((bo.trans du).trans dy).trans e1),rfl,rfl,e2,e3.tail⟩
abbrev dtB:Type:=(List Item×List Item×Slc×Int×Int)
abbrev roB:Ro dtB:=Ro.prod (Ro.list CR) (Ro.prod (Ro.list CR) (Ro.prod Ro.slc (Ro.prod (Ro.int .i64) (Ro.int .i64))))
abbrev dtK:Type:=(List Item×List Item×Int×Int)
abbrev Kj {ε:Type} (b:dtK) (s:ε):List Item×List Item×ε×Int×Int:=(b.1,b.2.1,s,b.2.2.1,b.2.2.2)
abbrev D9 {ε:Type} (B:List dtK) (S:List ε):List (List Item×List Item×ε×Int×Int):=List.zipWith Kj B S
theorem Dx {ε:Type} {B:List dtK} {S:List ε} (h:S.length=B.length):(D9 B S).length=B.length:=by
 unfold D9; rw [List.length_zipWith]; omega
theorem Rh {ε:Type} {B:List dtK} {S:List ε} (h:S.length=B.length) (b:dtK) (s:ε):D9 (B++ [b]) (S++ [s])=D9 B S++ [Kj b s] :=by
 unfold D9; rw [List.zipWith_append h.symm]; rfl
abbrev Fd:Type:=List (ByteArray×Int)
abbrev qA (p:Ax) (s:Slc) (t:Int):Gm:=(p.1,p.2.1,p.2.2.1,p.2.2.2.1,p.2.2.2.2.1,p.2.2.2.2.2,s,t)
abbrev FF:Slc:=(none,0,0)
theorem O0 (p:Ax) (s:Slc) (t:Int) (k:List Item):Az (qA p s t) k=Az (qA p FF 0) k:=rfl
abbrev bC (c3 c4 c5 c6 m a r1 r2:Nat) (fd:Fd) (p:Ax) (ls:Slc) (tot:Int) (L:List dtB) (rm cl:CO) (F:List Chk):List Chk:=
 cW 185 c3 [.map (some m)] ::cM kyS (Ro.int .i64) m fd::cW 41 c4 [pv a] ::cO 131 (Rep.ro Bz) (some ⟨a,0,none⟩) (qA p ls tot)::cR 150 roB ls L::
 cW 183 c5 [pv r1] ::cO 211 (Rep.ro E1) (some ⟨r1,0,none⟩) rm::cW 183 c6 [pv r2] ::cO 211 (Rep.ro E1) (some ⟨r2,0,none⟩) cl::F
noncomputable def Ri (p:Ax) (fd:Fd) (B:List dtK) (rm cl:CO) (k:List Item) (fr wi:Int):Option (Int×Int×Fd×List dtK×CO×CO):=
 (Df k).bind fun s=>
 cond (BH s fd).isSome (some ((BH s fd).getD 0,0,fd,B,rm,cl))
 ((Az (qA p FF 0) k).bind fun its=>
  (B7 rm 1).bind fun t=>
  (cond (t.1==(0:Int)) ((B7 cl ((its.length:Nat):Int)).bind fun u=>some (u.1,u.2)) (some (t.1,cl))).bind fun z=>
  (app B [(k,its,fr,wi)]).bind fun B'=>
  some (IntKind.wrap .i64 (((B'.length:Nat):Int) - 1),z.1,Bn s ((B.length:Nat):Int) fd,B',t.2,z.2))
theorem Wj:Gu Tryz.prog 129 129 150 5:=⟨Tryz.underlying129, .inl Tryz.underlying129,⟨Tryz.t150,by kernel_rfl,rfl,⟨_,rfl,rfl⟩,by decide,by decide⟩,by decide⟩
theorem St.bC_of {φ:AC} {h:AE} {a0 a1 a2 a3 a4 a5 a6 a7 a8:Chk} {F:List Chk} (H:St φ (a3::a4::a1::a8::a6::a0::a2::a5::a7::F) h):St φ (a0::a1::a2::a3::a4::a5::a6::a7::a8::F) h:=
 H.at3.at8.at5.at8.at5.at5.at8.at7.at8
set_option maxHeartbeats 2000000 in
theorem Qp {φ:AC} {h:AE} {F:List Chk} {t:Slc} {k:List Item} {fr wi:Int} {c3 c4 c5 c6 m a r1 r2:Nat} {fd:Fd} {p:Ax} {ls:Slc} {tot:Int} {B:List dtK} {S:List Slc} {rm cl:CO}
 (gk:Glob φ) (k1:Ro.SliceIs CR φ t k) (hS:S.length=B.length) (s0:St φ (bC c3 c4 c5 c6 m a r1 r2 fd p ls tot (D9 B S) rm cl F) h) {r:Int×Int×Fd×List dtK×CO×CO} (hd:Ri p fd B rm cl k fr wi=some r):
 CallsH Tryz.prog 99 [.slice t.1 t.2.1 t.2.2, .int .i64 fr, .int .i64 wi,pv c3,pv c4,pv c5,pv c6] h (Aq fun v h'=> ∃(ψ:AC) (y:Int×Int×Unit) (ls':Slc) (S':List Slc),Sub φ ψ∧v=((.tuple [.atom (.int .i64), .atom (.int .i64)]):Sh).val y∧y.1=r.1∧y.2.1=r.2.1∧
  ((r.2.2.2.1=B∧S'=S)∨ ∃x,r.2.2.2.1=B++ [x] ∧S'=S++ [FF])∧St ψ (bC c3 c4 c5 c6 m a r1 r2 r.2.2.1 p ls' tot (D9 r.2.2.2.1 S') r.2.2.2.2.1 r.2.2.2.2.2 F) h'):=by
 refine AQ mixed Tryz.func99 ?_
 rw [J1]
 unfold G1
 unfold Ri at hd
 obtain ⟨s,hs,hd⟩:=bS hd
 refine AA (x:=some m) s0 rfl ?_
 refine AI (Iu gk k1 s0 hs) ?_
 rintro _ h1 ⟨ψ1,s,le1,rfl,rfl,s1⟩
 refine ⟨s,rfl,?_⟩
 refine AL (St.cell s1 rfl) ?_
 refine RU (a:= .int .i64) (kk:=kyS) (i:=Tryz.t3) 0 Tryz.underlying185 Tryz.underlying9 (by kernel_rfl) rfl s1.at1 fun y hy=> ?_
 subst hy
 refine AK hd rfl (fun _ hd=> ?_) (fun _ hd=> ?_)
 ·obtain rfl:=iS hd
  exact AB ⟨ψ1,((BH s fd).getD 0,0,()),ls,S,le1,rfl,rfl,rfl, .inl ⟨rfl,rfl⟩,s1⟩
 obtain ⟨its,hc,hd⟩:=bS hd
 obtain ⟨tk,ht,hd⟩:=bS hd
 obtain ⟨z,hz,hd⟩:=bS hd
 obtain ⟨B',hB,hd⟩:=bS hd
 obtain rfl:=iS hd
 refine AA (x:=some ⟨a,0,none⟩) s1.at2 rfl ?_
 refine AI (HB (k1.mono le1) s1.at3 (by rw [O0]; exact hc)) ?_
 rintro _ h2 ⟨ψ2,y2,l2,le2,rfl,rfl,k2,s2⟩
 refine ⟨y2,rfl,?_⟩
 have n2:=k2.length
 have le12:=le1.trans le2
 refine AU (vs:= [.slice none 0 0, .slice none 0 0, .slice none 0 0, .int .i64 (0:Int), .int .i64 (0:Int)]) s2 fun r6 h3 s3=> ?_
 refine AP s3 rfl rfl fun h4 s4=> ?_
 refine AP s4 rfl rfl fun h5 s5=> ?_
 refine AP s5 rfl rfl fun h6 s6=> ?_
 refine AP s6 rfl rfl fun h7 s7=> ?_
 refine AP s7 rfl rfl fun h8 s8=> ?_
 have s8':St ψ2 (cW 150 r6 [sv t,sv y2, .slice none 0 0, .int .i64 fr, .int .i64 wi] ::cO 131 (Rep.ro Bz) (some ⟨a,0,none⟩) (qA p ls tot)::cW 185 c3 [.map (some m)] ::cM kyS (Ro.int .i64) m fd::cW 41 c4 [pv a] ::cR 150 roB ls (D9 B S)::
  cW 183 c5 [pv r1] ::cO 211 (Rep.ro E1) (some ⟨r1,0,none⟩) rm::cW 183 c6 [pv r2] ::cO 211 (Rep.ro E1) (some ⟨r2,0,none⟩) cl::F) h8:=s8
 refine AA (x:=some ⟨r1,0,none⟩) s8'.at6 rfl ?_
 refine AI (FA s8'.at7 ht) ?_
 rintro _ h9 ⟨ψ3,y3,rm',le3,rfl,rfl,s9⟩
 refine ⟨y3,rfl,?_⟩
 dsimp only at hz
 refine Ao (fun (y:Int×Unit) w (g:Int×CO)=> ∃(ψ:AC) (cl':CO),Sub ψ3 ψ∧(y.1,cl')=g∧St ψ (cO 211 (Rep.ro E1) (some ⟨r2,0,none⟩) cl'::cO 211 (Rep.ro E1) (some ⟨r1,0,none⟩) rm'::cW 150 r6 [sv t,sv y2, .slice none 0 0, .int .i64 fr, .int .i64 wi] ::
  cO 131 (Rep.ro Bz) (some ⟨a,0,none⟩) (qA p ls tot)::cW 185 c3 [.map (some m)] ::cM kyS (Ro.int .i64) m fd::cW 41 c4 [pv a] ::cR 150 roB ls (D9 B S)::cW 183 c5 [pv r1] ::cW 183 c6 [pv r2] ::F) w) (g:=z) ?_ ?_
 ·refine AK hz rfl (fun _ hz=> ?_) (fun _ hz=> ?_)
  ·obtain ⟨u,hu,hz⟩:=bS hz
   obtain rfl:=iS hz
   refine AA (x:=some ⟨r2,0,none⟩) s9.at8 rfl ?_
   refine AA (x:=y2) s9.at1 rfl ?_
   rw [← n2] at hu
   refine AI (FA s9.at9 hu) ?_
   rintro _ h10 ⟨ψ4,y4,cl',le4,rfl,rfl,s10⟩
   refine ⟨y4,rfl,?_⟩
   exact AS (y4,()) rfl ⟨ψ4,cl',le4,rfl,s10⟩
  ·obtain rfl:=iS hz
   exact AS (y3,()) rfl ⟨ψ3,cl,Sub.refl _,rfl,s9.at9⟩
 rintro z9 h11 ⟨ψ5,cl',le5,rfl,s11⟩
 refine AA (x:=some m) s11.at4 rfl ?_
 refine AA (x:=some ⟨a,0,none⟩) s11.at6 rfl ?_
 refine AF _ rfl ?_
 have s12':=s11.at3
 obtain ⟨b,vs,e,⟨_,_,rfl,⟨u1,rfl,kk1⟩,_,_,rfl,⟨u2,rfl,kk2⟩,_,_,rfl,⟨u3,rfl,kk3⟩,_,_,rfl,⟨u4,rfl,kk4⟩,_,_,rfl,⟨u5,rfl,kk5⟩,_,_,rfl,⟨u6,rfl,kk6⟩,_,_,rfl,rfl,rfl⟩,s12⟩:=St.openR s12'
 obtain rfl:a=b:=by simpa using e
 refine AA (x:=ls) s12 rfl ?_
 have le25:=(le2.trans le3).trans le5
 have le15:=le1.trans le25
 refine AI (Iu (gk.mono le15) (k1.mono le15) s12 hs) ?_
 rintro _ h13 ⟨ψ6,q6,le6,rfl,rfl,s13⟩
 refine ⟨q6,rfl,?_⟩
 refine AL (St.cell (b:=a) (j:=6) s13 rfl) ?_
 refine AL (St.cell s13.at6 rfl) ?_
 refine AL (St.cell s13.at4 rfl) ?_
 have nL:=St.rowLen s13.at7
 rw [Dx hS] at nL
 refine IU (kk:=kyS) (y:=((ls.2.1:Nat):Int)) Tryz.underlying185 Tryz.underlying9 s13.at5 rfl fun h14 s14=> ?_
 refine AA (x:=some ⟨a,0,none⟩) s14.at6 rfl ?_
 refine AA (x:=some ⟨a,0,none⟩) s14.at6 rfl ?_
 refine AF _ rfl ?_
 refine AA (x:=ls) s14.at1 rfl ?_
 refine AA (x:=t) s14.at4 rfl ?_
 refine AA (x:=y2) s14.at4 rfl ?_
 refine AA (x:=FF) s14.at4 rfl ?_
 refine AA (x:=fr) s14.at4 rfl ?_
 refine AA (x:=wi) s14.at4 rfl ?_
 refine AU (vs:= [sv t,sv y2, .slice none 0 0, .int .i64 fr, .int .i64 wi]) s14 fun r28 h15 s15=> ?_
 refine AL (St.cell (b:=a) (j:=6) s15.at2 rfl) ?_
 refine AL (St.cell s15.at7 rfl) ?_
 refine AL (St.cell s15.at7 rfl) ?_
 have cw:=St.cells s15
 have le26:=le25.trans le6
 have le16:=le1.trans le26
 obtain ⟨hapl,rfl⟩:=Lz hB
 have hap:app (D9 B S) [Kj (k,l2,fr,wi) FF] =some (D9 (B++ [(k,l2,fr,wi)]) (S++ [FF])):=by
  unfold app
  rw [Dx hS,Rh hS,if_pos (by simpa using hapl)]
 refine Am (r:=roB) (ms:= [Kj (k,l2,fr,wi) FF]) Wj (s15.tail.at7) rfl cw (.cons (a:= [_,_,_,_,_]) ⟨[_],_,rfl,⟨t,rfl,k1.mono le16⟩, [_],_,rfl,⟨y2,rfl,k2.mono (((le3.trans le5)).trans le6)⟩, [_],_,rfl,rfl, [_],_,rfl,rfl,rfl⟩ .nil) rfl hap fun ls' h16 s16=> ?_
 have nL':=St.rowLen s16
 rw [Dx (by simp [hS])] at nL'
 refine AL (St.cell s16.at7 rfl) ?_
 refine AF _ rfl ?_
 refine AP s16.at2 rfl rfl fun h17 s17=> ?_
 refine AA (x:=some ⟨a,0,none⟩) s17.at7 rfl ?_
 refine AF _ rfl ?_
 refine AA (x:=ls') s17 rfl ?_
 have s18:=St.shutR (r:=Bz) (x:=qA p ls' tot) s17 ⟨[_],_,rfl,⟨u1,rfl,kk1.mono le6⟩, [_],_,rfl,⟨u2,rfl,kk2.mono le6⟩, [_],_,rfl,⟨u3,rfl,kk3.mono le6⟩, [_],_,rfl,⟨u4,rfl,kk4.mono le6⟩, [_],_,rfl,⟨u5,rfl,kk5.mono le6⟩, [_],_,rfl,⟨u6,rfl,kk6.mono le6⟩, [_],_,rfl,rfl,rfl⟩
 refine AB ⟨ψ6,(IntKind.wrap .i64 (((ls'.2.1:Nat):Int) - 1),z9.1,()),ls',S++ [FF],le16,rfl,by rw [nL'],rfl, .inr ⟨_,rfl,rfl⟩,?_⟩
 rw [nL] at s18
 exact St.bC_of s18.at5.tail
abbrev Edge:Type:=Int×Int
abbrev BSt:Type:=Fd×List dtK×List (List Edge)×CO×CO
def FG (E:List (List Edge)) (n n':Nat):List (List Edge):=if n'=n then E else E++ [[]]
noncomputable def Qq (p:Ax) (b:dtK) (i sym:Int) (y:BSt):Option (AW BSt Int):=
 (Bk (qA p FF 0) b.2.1 sym).bind fun k=>
 (Ri p y.1 y.2.1 y.2.2.2.1 y.2.2.2.2 k i sym).bind fun r=>
 cond (r.2.1 !=(0:Int)) (some (AW.done r.2.1))
 ((idx (FG y.2.2.1 y.2.1.length r.2.2.2.1.length) i).bind fun el=>
  (app el [(sym,r.1)]).bind fun el'=>
  (Dm (FG y.2.2.1 y.2.1.length r.2.2.2.1.length) i el').bind fun E'=>
  some (AW.next (r.2.2.1,r.2.2.2.1,E',r.2.2.2.2.1,r.2.2.2.2.2)))
noncomputable def N3 (p:Ax) (b:dtK) (i:Int) (y:BSt):Option (AW BSt Int):=
 (BU (qA p FF 0) b.2.1).bind fun syms=>
 Cv 0 ((syms.length:Nat):Int) y fun j y=>(idx syms j).bind fun sym=>Qq p b i sym y
noncomputable def Ln (p:Ax) (y:BSt):Option (AW BSt Int):=
 loop (σ:=Int×BSt) ((0:Int),y) fun z=>
  cond (decide (z.1< ((z.2.2.1.length:Nat):Int)))
   ((idx z.2.2.1 z.1).bind fun b=>(N3 p b z.1 z.2).bind fun e=>match e with
    | .next y=>some (AW.next (IntKind.wrap .i64 (z.1+1),y))
    | .done q=>some (AW.done (AW.done q)))
   (some (AW.done (AW.next z.2)))
noncomputable def MQ (p:Ax) (st it:Int):Option (Option DN×Int):=
 (EB st).bind fun rm=>
 (EB it).bind fun cl=>
 (Ri p [] [] rm cl [(0,0)] (-1) (-1)).bind fun r=>
 cond (r.2.1 !=(0:Int)) (some (none,r.2.1))
 ((Ln p (r.2.2.1,r.2.2.2.1,FG [] 0 r.2.2.2.1.length,r.2.2.2.2.1,r.2.2.2.2.2)).bind fun e=>match e with
  | .next y=>(Cy y.2.2.2.2).bind fun tot=>some (some (p.1,p.2.1,p.2.2.1,p.2.2.2.1,p.2.2.2.2.1,p.2.2.2.2.2,D9 y.2.1 y.2.2.1,tot),0)
  | .done q=>some (none,q))
theorem TF (p:Ax) (s:Slc) (t:Int) (l:List Item) (x:Int):Bk (qA p s t) l x=Bk (qA p FF 0) l x:=rfl
theorem O1 (p:Ax) (s:Slc) (t:Int) (l:List Item):BU (qA p s t) l=BU (qA p FF 0) l:=rfl
theorem MR {ε:Type} {B:List dtK} {S:List ε} {i:Int} {b:dtK} {s:ε} (hb:idx B i=some b) (hs:S[i.toNat]? =some s):idx (D9 B S) i=some (Kj b s):=by
 obtain ⟨h0,_,h2⟩:=Ct hb
 unfold idx
 rw [if_pos h0]
 unfold D9
 rw [List.getElem?_zipWith,h2,hs]
theorem TG {ε:Type} : ∀ {B:List dtK} {S:List ε} {n:Nat} {b:dtK} (s:ε),B[n]? =some b→(D9 B S).set n (Kj b s)=D9 B (S.set n s):=by
 intro B
 induction B with
 | nil=>intro S n b s h; simp at h
 | cons x B ih=>
  intro S n b s h
  cases S with
  | nil=>rfl
  | cons u S=>
   cases n with
   | zero=>
    simp only [List.getElem?_cons_zero,Option.some.injEq] at h
    subst h
    rfl
   | succ n=>exact congrArg _ (ih s (by simpa using h))
def DG (φ:AC) (S:List Slc) (E:List (List Edge)) (c:Nat):Prop:= ∀(j:Nat) s e,j ≠ c→S[j]? =some s→E[j]? =some e→Ro.SliceIs Fe φ s e
def HC (S:List Slc) (E:List (List Edge)) (i:Nat):Prop:= ∀j:Nat,i≤j→(∀s,S[j]? =some s→s=FF)∧ ∀e,E[j]? =some e→e= []
theorem DG.mono {φ ψ:AC} {S:List Slc} {E:List (List Edge)} {c:Nat} (H:DG φ S E c) (hs:Sub φ ψ):DG ψ S E c:=fun j s e hj h1 h2=>(H j s e hj h1 h2).mono hs
theorem EZ {α:Type} {l:List α} {x y:α} {j:Nat} (h:(l++ [x])[j]? =some y):l[j]? =some y∨j=l.length∧y=x:=by
 rcases Nat.lt_or_ge j l.length with g | g
 ·rw [List.getElem?_append_left g] at h; exact .inl h
 ·rw [List.getElem?_append_right g] at h
  right
  have:j - l.length=0:=by
   rcases Nat.eq_zero_or_pos (j - l.length) with q | q
   ·exact q
   ·rw [List.getElem?_eq_none (by simp; omega)] at h; cases h
  rw [this] at h
  simp at h
  exact ⟨by omega,h.symm⟩
theorem DG.snoc {φ:AC} {S:List Slc} {E:List (List Edge)} {c:Nat} (H:DG φ S E c) (hl:S.length=E.length):DG φ (S++ [FF]) (E++ [[]]) c:=by
 intro j s e hj h1 h2
 rcases EZ h1 with h1 | ⟨h1,rfl⟩
 ·rcases EZ h2 with h2 | ⟨h2,rfl⟩
  ·exact H j s e hj h1 h2
  ·rw [List.getElem?_eq_none (by omega)] at h1; cases h1
 ·rcases EZ h2 with h2 | ⟨h2,rfl⟩
  ·rw [List.getElem?_eq_none (by omega)] at h2; cases h2
  ·exact Ro.SliceIs.nil _ _
theorem HC.snoc {S:List Slc} {E:List (List Edge)} {i:Nat} (H:HC S E i):HC (S++ [FF]) (E++ [[]]) i:=by
 intro j hj
 refine ⟨fun s h=> ?_,fun e h=> ?_⟩
 ·rcases EZ h with h | ⟨_,h⟩
  ·exact (H j hj).1 s h
  ·exact h
 ·rcases EZ h with h | ⟨_,h⟩
  ·exact (H j hj).2 e h
  ·exact h
theorem UV {φ:AC} : ∀ {B:List dtK} {S:List Slc} {E:List (List Edge)} {vs:List Value},S.length=B.length→E.length=B.length→(∀(j:Nat) s e,S[j]? =some s→E[j]? =some e→Ro.SliceIs Fe φ s e)→roB.All φ vs (D9 B S)→SP.All φ vs (D9 B E):=by
 intro B
 induction B with
 | nil=>intro S E vs h1 h2 h3 H; cases H; exact .nil
 | cons b B ih=>
  intro S E vs h1 h2 h3 H
  cases S with
  | nil=>cases h1
  | cons s S=>
   cases E with
   | nil=>cases h2
   | cons e E=>
    cases H with
    | @cons a v _ _ hx hr=>
     obtain ⟨_,_,rfl,⟨t0,rfl,q0⟩,_,_,rfl,⟨t1,rfl,q1⟩,_,_,rfl,rfl,_,_,rfl,rfl,rfl⟩:=hx
     exact Ro.All.cons (a:= [_,_,_,_,_]) ⟨[_],_,rfl,⟨t0,rfl,q0⟩, [_],_,rfl,⟨t1,rfl,q1⟩, [_],_,rfl,⟨s,rfl,h3 0 s e rfl rfl⟩, [_],_,rfl,rfl,rfl⟩ (ih (by simpa using h1) (by simpa using h2) (fun j s' e' g1 g2=>h3 (j+1) s' e' (by simpa using g1) (by simpa using g2)) hr)
theorem Rj {φ:AC} {t:Slc} {B:List dtK} {S:List Slc} {E:List (List Edge)} (h1:S.length=B.length) (h2:E.length=B.length) (h3: ∀(j:Nat) s e,S[j]? =some s→E[j]? =some e→Ro.SliceIs Fe φ s e) (H:Ro.SliceIs roB φ t (D9 B S)):Ro.SliceIs SP φ t (D9 B E):=by
 obtain ⟨g1,g2,g3,g4,vs,g5,g6⟩:=H
 have hl:(D9 B E).length=(D9 B S).length:=by rw [Dx h1,Dx h2]
 exact ⟨hl.trans g1,g2,g3,fun hp=>List.eq_nil_of_length_eq_zero (by rw [hl,g4 hp]; rfl),vs,UV h1 h2 h3 g5,g6⟩
section
variable {φ:AC} {h:AE} {F:List Chk}
theorem QB {c3 c4 c5 c6 m a r1 r2:Nat} {fd:Fd} {p:Ax} {ls:Slc} {tot:Int} {L:List dtB} {rm cl:CO} (H:St φ (bC c3 c4 c5 c6 m a r1 r2 fd p ls tot L rm cl F) h):BF h ⟨a,6,none⟩=some (.slice ls.1 ls.2.1 ls.2.2):=by
 obtain ⟨b,vs,e,⟨_,_,rfl,⟨u1,rfl,kk1⟩,_,_,rfl,⟨u2,rfl,kk2⟩,_,_,rfl,⟨u3,rfl,kk3⟩,_,_,rfl,⟨u4,rfl,kk4⟩,_,_,rfl,⟨u5,rfl,kk5⟩,_,_,rfl,⟨u6,rfl,kk6⟩,_,_,rfl,rfl,rfl⟩,s⟩:=St.openR H.at3
 obtain rfl:a=b:=by simpa using e
 exact St.cell s rfl
theorem St.back3 {a0 a1 a2 a3:Chk} (H:St φ (a3::a0::a1::a2::F) h):St φ (a0::a1::a2::a3::F) h:=H.at3.at3.at3
theorem St.to9 {e a0 a1 a2 a3 a4 a5 a6 a7 a8:Chk} (H:St φ (e::a0::a1::a2::a3::a4::a5::a6::a7::a8::F) h):St φ (a0::a1::a2::a3::a4::a5::a6::a7::a8::e::F) h:=
 H.at9.at9.at9.at9.at9.at9.at9.at9.at9
theorem St.tail9 {a0 a1 a2 a3 a4 a5 a6 a7 a8:Chk} (H:St φ (a0::a1::a2::a3::a4::a5::a6::a7::a8::F) h):St φ F h:=H.tail.tail.tail.tail.tail.tail.tail.tail.tail
end
theorem Sg.nm_lev {nt nv nl:Nat} {g:CN} (H:Sg nt nv nl g): ∀x ∈ Et g.2.2.1,Nm x:=fun x hx=>by
 have:=H.nl5; have:=H.nt5
 rcases H.levs.names x hx with ⟨i,h,rfl⟩ | ⟨i,h,rfl⟩
 ·exact .lev (by omega)
 ·exact .tok (by omega)
theorem Ru1.nm {nt nv nl:Nat} {r:Cw} (H:Ru1 nt nv nl r) (h1:nt≤5) (h2:nv≤4) (h3:nl≤5):Nm r.1∧(∀x ∈ r.2.1,Nm x)∧(r.2.2.1= {data:= #[] } ∨Nm r.2.2.1):=by
 refine ⟨?_,fun x hx=> ?_,?_⟩
 ·obtain ⟨i,h,e⟩:=H.left; rw [e]; exact .var (by omega)
 ·rcases H.right x hx with ⟨i,h,rfl⟩ | ⟨i,h,rfl⟩
  ·exact .tok (by omega)
  ·exact .var (by omega)
 ·rcases H.prec with h | ⟨i,h,e⟩
  ·exact .inl h
  ·rw [e]; exact .inr (.lev (by omega))
set_option maxHeartbeats 2000000 in
theorem TH {nt nv nl:Nat} {g:CN} (H:Sg nt nv nl g):CB g=some true:=by
 refine Ok.eq ?_
 have hlr:=H.room
 have hll:=H.levs.len
 have htl:=H.toks.1
 have hnt:=H.nt5; have hnv:=H.nv4; have hnl:=H.nl5
 obtain ⟨r0,hr0,_⟩:=H.all 0 (by have:=H.nv1; omega)
 have hpos:=List.length_pos_of_mem hr0
 unfold CB
 have hsk:=H.skips
 have hst:=H.start
 refine AO (Q:=fun x=>x=false) ?_ fun x hx=> ?_
 ·refine Al (decide_eq_false (by omega)) (Al (by rw [hsk]; rfl) (Al (decide_eq_false (by omega)) (Al (decide_eq_false (by omega)) (Al (decide_eq_false (by omega)) ?_))))
  rw [hst]
  exact AR (Qg (by omega)) (AG rfl)
 subst hx
 refine Al rfl ?_
 refine EV (fun k (l:List ByteArray)=>l.length=k∧ ∀j,j<k→l[j]? =some (nm 97 j)) (by omega) ⟨rfl,fun j h=>by omega⟩ (fun k l hk h=> ?_) fun toks hz=> ?_
 ·have hx:=H.toks.2 k (by omega)
  refine AZ hx (Bp (by have:=h.1; simp only [List.length_cons,List.length_nil]; omega) (AZ hx ?_))
  refine AR (Nu (.tok (by omega))) (Al rfl (Ew ⟨by simp [h.1],fun j hj=> ?_⟩))
  rcases Nat.lt_or_ge j k with g | g
  ·rw [List.getElem?_append_left (by rw [h.1]; exact g)]; exact h.2 j g
  ·have:j=k:=by omega
   subst this
   rw [List.getElem?_append_right (by rw [h.1]; omega),h.1]
   simp
 refine EV (fun k _=>True) (by rw [hsk]; decide) trivial (fun k l hk h=>by rw [hsk] at hk; exact absurd hk (Nat.not_lt_zero _)) fun _ _=> ?_
 refine EV (fun k (l:List ByteArray)=>l=Et (g.2.2.1.take k)) (by omega) rfl (fun k l hk h=> ?_) fun levs hv=> ?_
 ·subst h
  have hx:=List.getElem?_eq_getElem hk
  obtain ⟨h1,h2,h3⟩:=H.levs.each k _ hx
  have e:Et (g.2.2.1.take (k+1))=Et (g.2.2.1.take k) ++g.2.2.1[k].2:=by
   unfold Et
   rw [List.take_add_one,hx,List.flatMap_append]
   show _=_
   simp
  have hroom:=H.levs.room
  have e2:Et g.2.2.1=Et (g.2.2.1.take (k+1)) ++Et (g.2.2.1.drop (k+1)):=by
   unfold Et
   rw [← List.flatMap_append,List.take_append_drop]
  have e3:=congrArg List.length e2
  rw [e,List.length_append,List.length_append] at e3
  refine AZ hx (Bp (by omega) ?_)
  refine AO (Q:=fun x=>x=false) (Al (decide_eq_false (by omega)) (Al (decide_eq_false (by omega)) (AG ?_))) fun x hx=> ?_
  ·have:=List.length_pos_of_mem h3
   exact beq_eq_false_iff_ne.2 (by omega)
  ·subst hx
   refine Al rfl ?_
   rw [← e]
   exact Ew rfl
 refine EV (fun k _=>True) (by omega) trivial (fun k _ hk _=> ?_) fun _ _=> ?_
 ·have hx:=List.getElem?_eq_getElem hk
  have hr:=H.rules _ (List.getElem_mem hk)
  obtain ⟨n1,n2,n3⟩:=hr.nm hnt hnv hnl
  have hf:=hr.few
  refine AZ hx ?_
  refine AO (Q:=fun x=>x=false) (AR n1.name (Al rfl (Al (decide_eq_false (by omega)) (Ae (fun hc=> ?_) fun hc=> ?_)))) fun x hx=> ?_
  ·rw [hr.act]
   rcases n3 with h | h
   ·rw [h,DT] at hc; simp at hc
   ·exact AR h.name (Al rfl (AR KU (AG rfl)))
  ·rw [hr.act]
   exact AR KU (AG rfl)
  ·subst hx
   refine Al rfl ?_
   refine EV (fun k _=>True) (by omega) trivial (fun j _ hj _=> ?_) fun _ _=>Ew trivial
   exact AZ (List.getElem?_eq_getElem hj) (AR (n2 _ (List.getElem_mem hj)).name (Al rfl (Ew trivial)))
 have hmem: ∀x ∈ toks,∃j,j<nt∧x=nm 97 j:=fun x hx=>by
  obtain ⟨j,hj⟩:=List.getElem?_of_mem hx
  have hjl:=(List.getElem?_eq_some_iff.1 hj).1
  have:=hz.2 j (by omega)
  rw [hj] at this
  exact ⟨j,by omega,Option.some.inj this⟩
 have h1:BP toks=some true:=Qi (by omega) (fun x hx=>by obtain ⟨j,hj,rfl⟩:=hmem x hx; exact .tok (by omega)) (List.nodup_iff_pairwise_ne.2 (List.pairwise_iff_getElem.2 fun i j hi hj hij e=>by
  have a:=hz.2 i (by omega)
  have b:=hz.2 j (by omega)
  rw [List.getElem?_eq_getElem hi] at a
  rw [List.getElem?_eq_getElem hj,← e,a] at b
  have:=J6 (by omega) (by omega) (Option.some.inj b)
  omega))
 have h2:BP levs=some true:=by
  rw [hv,List.take_of_length_le (Nat.le_refl _)]
  exact Qi (by have:=H.levs.room; omega) H.nm_lev H.levs.once
 exact AO (Q:=fun x=>x=true) (AR h1 (Cg rfl (AR h2 (AG rfl)))) fun x hx=>AG hx
abbrev TI:ByteArray:= {data:= #[36,101,110,100] }
structure TT (nt:Nat) (T:List ByteArray):Prop where
 len:T.length=nt+1
 zero:T[0]? =some TI
 tok: ∀j,j<nt→T[j+1]? =some (nm 97 j)
theorem TJ (c i:Nat):TI ≠ nm c i:=fun h=>by unfold nm at h; simp at h
theorem TT.cases {nt:Nat} {T:List ByteArray} (H:TT nt T) {j:Nat} {s:ByteArray} (h:T[j]? =some s):(j=0∧s=TI)∨ ∃i,i<nt∧j=i+1∧s=nm 97 i:=by
 cases j with
 | zero=>rw [H.zero] at h; exact .inl ⟨rfl,(Option.some.inj h).symm⟩
 | succ i=>
  have:=(List.getElem?_eq_some_iff.1 h).1
  have hl:=H.len
  rw [H.tok i (by omega)] at h
  exact .inr ⟨i,by omega,rfl,(Option.some.inj h).symm⟩
structure VV (nv:Nat) (V:List ByteArray):Prop where
 names: ∀x ∈ V,∃i,i<nv∧x=nm 83 i
 once:V.Nodup
theorem UW {nt i:Nat} {T V:List ByteArray} (H:TT nt T) (hn:nt≤5) (hi:i<nt):Ok (BK (T,V) (nm 97 i)) fun k=>k=((i+1:Nat):Int):=by
 have hl:=H.len
 unfold BK
 refine AO (F9 (by dsimp only; omega)) fun k hk=> ?_
 rcases hk with ⟨rfl,h⟩ | ⟨j,rfl,h⟩
 ·exact absurd (List.mem_of_getElem? (H.tok i hi)) h
 ·refine Cg (decide_eq_true (by omega)) (AG ?_)
  rcases H.cases h with ⟨_,h⟩ | ⟨q,h1,h2,h3⟩
  ·exact absurd h.symm (TJ _ _)
  ·have:=J6 (by omega) (by omega) h3
   omega
theorem N4 {nt nv i:Nat} {T V:List ByteArray} (H:TT nt T) (hn:nt≤5) (hv:nv≤4) (hV:V.length≤100) (hi:i<nv) (hm:nm 83 i ∈ V):Ok (BK (T,V) (nm 83 i)) fun k=> ∃j:Nat,k=((nt+1+j:Nat):Int)∧V[j]? =some (nm 83 i):=by
 have hl:=H.len
 unfold BK
 refine AO (F9 (by dsimp only; omega)) fun k hk=> ?_
 rcases hk with ⟨rfl,h⟩ | ⟨j,rfl,h⟩
 ·refine Al rfl (AO (F9 (by dsimp only; omega)) fun k hk=> ?_)
  rcases hk with ⟨rfl,h⟩ | ⟨j,rfl,h⟩
  ·exact absurd hm h
  ·refine Cg (decide_eq_true (by omega)) (AG ⟨j,?_,h⟩)
   have:=(List.getElem?_eq_some_iff.1 h).1
   dsimp only at this
   rw [hl,wr (by omega)]
   omega
 ·rcases H.cases h with ⟨_,h⟩ | ⟨q,h1,h2,h3⟩
  ·exact absurd h.symm (TJ _ _)
  ·have:=J6 (by omega) (by omega) h3
   omega
theorem O2 {nt nv nl:Nat} {g:CN} (H:Sg nt nv nl g) (s:ByteArray):Ok (Bm g s) fun k=>0≤k∧k≤nl∧ ∀i,i<nl→s=nm 112 i→k ≠ 0:=by
 have hl:=H.levs.len
 have hnl:=H.nl5
 unfold Bm
 have hr:=H.levs.room
 have hnt:=H.nt5
 have hlen: ∀(j:Nat) x,g.2.2.1[j]? =some x→x.2.length≤100:=fun j x hx=>by
  have:=(List.sublist_flatten_of_mem (List.mem_map_of_mem (f:=(·.2)) (List.mem_of_getElem? hx))).length_le
  have e:Et g.2.2.1=(List.map (·.2) g.2.2.1).flatten:=by unfold Et; rw [List.flatMap_def]
  rw [← e] at this
  omega
 refine KT g.2.2.1 (fun _ x=> @decide (s ∈ x.2) (Classical.propDecidable _)) (fun k _=>IntKind.wrap .i64 ((k:Int) +1)) (by omega) (fun j x hx=> ?_) (fun h=> ?_) fun j x hx hq _=> ?_
 ·rw [Cq,hx,Option.bind_some]
  obtain ⟨k,h1,h2⟩:=F9 (l:=x.2) (s:=s) (by have:=hlen j x hx; omega)
  rw [h1,Option.bind_some]
  rcases h2 with ⟨rfl,h⟩ | ⟨q,rfl,h⟩
  ·rw [@decide_eq_false _ (Classical.propDecidable _) h]; rfl
  ·rw [@decide_eq_true _ (Classical.propDecidable _) (List.mem_of_getElem? h),decide_eq_true (by omega)]; rfl
 ·refine AG ⟨by omega,by omega,fun i hi hs _=> ?_⟩
  have hx:=List.getElem?_eq_getElem (show i<g.2.2.1.length by omega)
  have:= @of_decide_eq_false _ (Classical.propDecidable _) (h i _ hx)
  rw [hs] at this
  exact this (H.levs.each i _ hx).2.2
 ·have:=(List.getElem?_eq_some_iff.1 hx).1
  have e:IntKind.wrap .i64 ((j:Int) +1)=(j:Int) +1:=wr (by omega)
  exact AG ⟨by rw [e]; omega,by rw [e]; omega,fun _ _ _=>by rw [e]; omega⟩
structure Pr (nt nV nl:Nat) (r:BA):Prop where
 left:((nt+1:Nat):Int) ≤r.1∧r.1< ((nt+1+nV:Nat):Int)
 few:r.2.1.length≤5
 right: ∀x ∈ r.2.1,0<x∧x< ((nt+1+nV:Nat):Int)
 lev:0≤r.2.2∧r.2.2≤nl
structure Pl (nt nl:Nat) (p:Ax):Prop where
 nt5:1≤nt∧nt≤5
 nl5:nl≤5
 terms:TT nt p.1
 vars:1≤p.2.1.length∧p.2.1.length≤16
 first: ∃st:Int,((nt+1:Nat):Int) ≤st∧st< ((nt+1+p.2.1.length:Nat):Int)∧p.2.2.1[0]? =some (((nt+1+p.2.1.length:Nat):Int), [st],0)
 rules: ∀(k:Nat) r,1≤k→p.2.2.1[k]? =some r→Pr nt p.2.1.length nl r
 room:1≤p.2.2.1.length∧p.2.2.1.length≤17
 all: ∀v:Nat,v<p.2.1.length→ ∃r ∈ p.2.2.1,r.1=((nt+1+v:Nat):Int)
 levels:p.2.2.2.1.length=nt+1∧ ∀x ∈ p.2.2.2.1,0≤x∧x≤nl
 assocs:p.2.2.2.2.1.length=nl+1
theorem TK {α:Type} {l:List α} (h:l.Nodup) {i j:Nat} (hi:i<l.length) (hj:j<l.length) (e:l[i] =l[j]):i=j:=by
 have H:=List.pairwise_iff_getElem.1 (List.nodup_iff_pairwise_ne.1 h)
 rcases Nat.lt_trichotomy i j with g | g | g
 ·exact absurd e (H i j hi hj g)
 ·exact g
 ·exact absurd e.symm (H j i hj hi g)
set_option maxHeartbeats 4000000 in
theorem of_ok {nt nv nl:Nat} {g:CN} (H:Sg nt nv nl g):Ok (Cf g) fun p=>Pl nt nl (p.1,p.2.1,p.2.2.1,p.2.2.2.1,p.2.2.2.2.1,p.2.2.2.2.2.1):=by
 have hlr:=H.room
 have hll:=H.levs.len
 have htl:=H.toks.1
 have hnt:=H.nt5; have hnt1:=H.nt1; have hnv:=H.nv4; have hnl:=H.nl5; have hnv1:=H.nv1
 obtain ⟨r0,hr0,_⟩:=H.all 0 (by omega)
 have hpos:=List.length_pos_of_mem hr0
 unfold Cf
 refine AR (TH H) (Al rfl ?_)
 refine CT (fun k (z:Ax)=>z.1= [TI] ∧VV nv z.2.1∧z.2.1.length≤k∧(∀(j:Nat) r,j<k→g.2.2.2.2[j]? =some r→r.1 ∈ z.2.1)∧(∀x ∈ z.2.1,∃r ∈ g.2.2.2.2,r.1=x)∧z.2.2.1= [] ∧z.2.2.2.1= [0] ∧z.2.2.2.2.1= [0] ∧z.2.2.2.2.2.length=k+1) (by omega) ⟨rfl,⟨by simp,by simp⟩,by simp,fun j r h=>by omega,by simp,rfl,rfl,rfl,rfl⟩ (fun k z hk h=> ?_) fun z hz=> ?_
 ·obtain ⟨z1,z2,z3,z4,z5,z6⟩:=z
  obtain ⟨rfl,hV,hk2,hall,hfr,rfl,rfl,rfl,h6⟩:=h
  dsimp only at hV hk2 hall hfr h6 ⊢
  have hx:=List.getElem?_eq_getElem hk
  have hr:=H.rules _ (List.getElem_mem hk)
  refine AZ hx (AO (F9 (by omega)) fun t ht=> ?_)
  refine AO (Q:=fun (z:Ax)=>z.1= [TI] ∧VV nv z.2.1∧z.2.1.length≤k+1∧(∀(j:Nat) r,j<k+1→g.2.2.2.2[j]? =some r→r.1 ∈ z.2.1)∧(∀x ∈ z.2.1,∃r ∈ g.2.2.2.2,r.1=x)∧z.2.2.1= [] ∧z.2.2.2.1= [0] ∧z.2.2.2.2.1= [0] ∧z.2.2.2.2.2=z6) ?_ fun z hz=> ?_
  ·rcases ht with ⟨rfl,ht⟩ | ⟨j,rfl,ht⟩
   ·refine Cg rfl (AZ hx (Bp (by simp only [List.length_cons,List.length_nil]; omega) (AG ⟨rfl,⟨fun x hx'=> ?_,?_⟩,by simp; omega,fun j r hj hr'=> ?_,fun x hx'=> ?_,rfl,rfl,rfl,rfl⟩)))
    ·rcases List.mem_append.1 hx' with h | h
     ·exact hV.names x h
     ·obtain rfl:=List.mem_singleton.1 h
      exact hr.left
    ·exact List.nodup_append.2 ⟨hV.once,by simp,fun x hx' y hy hxy=>ht (by
      have:y=g.2.2.2.2[k].1:=by simpa using hy
      rw [← this,← hxy]; exact hx')⟩
    ·rcases Nat.lt_succ_iff_lt_or_eq.1 hj with h | rfl
     ·exact List.mem_append_left _ (hall j r h hr')
     ·rw [hx] at hr'; cases hr'
      exact List.mem_append_right _ (List.mem_singleton.2 rfl)
    ·rcases List.mem_append.1 hx' with h | h
     ·exact hfr x h
     ·obtain rfl:=List.mem_singleton.1 h
      exact ⟨_,List.getElem_mem hk,rfl⟩
   ·refine Al (decide_eq_false (by omega)) (AG ⟨rfl,hV,by dsimp only; omega,fun i r hi hr'=> ?_,hfr,rfl,rfl,rfl,rfl⟩)
    rcases Nat.lt_succ_iff_lt_or_eq.1 hi with h | rfl
    ·exact hall i r h hr'
    ·rw [hx] at hr'; cases hr'
     exact List.mem_of_getElem? ht
  ·obtain ⟨y1,y2,y3,y4,y5,y6⟩:=z
   obtain ⟨rfl,hV,hk2,hall,hfr,rfl,rfl,rfl,e6⟩:=hz
   have e6':y6=z6:=e6
   have hy6:y6.length=k+1:=by rw [e6']; exact h6
   exact AZ hx (Bp (by simp only [List.length_cons,List.length_nil]; omega) (AG ⟨rfl,hV,hk2,hall,hfr,rfl,rfl,rfl,by simp [hy6]⟩))
 obtain ⟨z1,V,z3,z4,z5,acts⟩:=z
 obtain ⟨rfl,hV,hk2,hall,hfr,rfl,rfl,rfl,h6⟩:=hz
 dsimp only at hV hk2 hall hfr h6
 have hV16:V.length≤16:=by omega
 clear hk2
 have hVm: ∀v,v<nv→nm 83 v ∈ V:=fun v hv=>by
  obtain ⟨r,h1,h2⟩:=H.all v hv
  obtain ⟨j,hj⟩:=List.getElem?_of_mem h1
  rw [← h2]
  exact hall j r (List.getElem?_eq_some_iff.1 hj).1 hj
 have hVpos:1≤V.length:=List.length_pos_of_mem (hVm 0 (by omega))
 refine EV (fun k (z:Ax×Ax)=>TT k z.2.1∧z.2.2.1=V∧z.2.2.2.1= [] ∧z.2.2.2.2.1.length=k+1∧(∀x ∈ z.2.2.2.2.1,0≤x∧x≤nl)∧z.2.2.2.2.2.1= [0]) (by omega) ⟨⟨rfl,rfl,fun j h=>by omega⟩,rfl,rfl,rfl,by simp,rfl⟩ (fun k z hk h=> ?_) fun z hz=> ?_
 ·obtain ⟨w,z1,z2,z3,z4,z5,z6⟩:=z
  obtain ⟨hT,e2,e3,h4,h4',e5⟩:=h
  dsimp only at hT h4 h4' e2 e3 e5 ⊢
  have hz16:z2.length≤16:=by rw [e2]; exact hV16
  subst e2 e3 e5
  have hx:=H.toks.2 k (by omega)
  have hTl:=hT.len
  refine AZ hx (AO (F9 (by omega)) fun t ht=> ?_)
  rcases ht with ⟨rfl,ht⟩ | ⟨j,rfl,ht⟩
  ·refine Al rfl (AZ hx (Bp (by simp only [List.length_cons,List.length_nil]; omega) (AZ hx (AO (O2 H _) fun t ht=>Bp (by simp only [List.length_cons,List.length_nil]; omega) (Ew ⟨⟨by simp [hTl],?_,fun j hj=> ?_⟩,rfl,rfl,by simp [h4],fun x hx'=> ?_,rfl⟩)))))
   ·rw [List.getElem?_append_left (by omega)]; exact hT.zero
   ·rcases Nat.lt_succ_iff_lt_or_eq.1 hj with h | rfl
    ·rw [List.getElem?_append_left (by omega)]; exact hT.tok j h
    ·rw [List.getElem?_append_right (by omega),show j+1 - z1.length=0 by omega]; rfl
   ·rcases List.mem_append.1 hx' with h | h
    ·exact h4' x h
    ·obtain rfl:=List.mem_singleton.1 h
     exact ⟨ht.1,ht.2.1⟩
  ·obtain ⟨i,h1,h2⟩:=hV.names _ (List.mem_of_getElem? ht)
   have:=J6 (by omega) (by omega) h2
   omega
 obtain ⟨w,T,z2,z3,levels,z5,z6⟩:=z
 obtain ⟨hT,e2,e3,h4,h4',e5⟩:=hz
 dsimp only at hT h4 h4' e2 e3 e5 ⊢
 subst e2 e3 e5
 rw [htl] at hT h4
 have hTl:=hT.len
 refine CT (fun k (z:Ax)=>z.1=T∧z.2.1=z2∧z.2.2.1= [] ∧z.2.2.2.1=levels∧z.2.2.2.2.1.length=k+1) (by omega) ⟨rfl,rfl,rfl,rfl,rfl⟩ (fun k z hk h=> ?_) fun z hz=> ?_
 ·obtain ⟨y1,y2,y3,y4,y5,y6⟩:=z
  obtain ⟨rfl,rfl,rfl,rfl,h5⟩:=h
  exact AZ (List.getElem?_eq_getElem hk) (Bp (by dsimp only at h5 ⊢; simp only [List.length_cons,List.length_nil]; omega) (AG ⟨rfl,rfl,rfl,rfl,by dsimp only at h5 ⊢; simp [h5]⟩))
 obtain ⟨y1,y2,y3,y4,assocs,y6⟩:=z
 obtain ⟨e1,e2,e3,e4,h5⟩:=hz
 dsimp only at h5 e1 e2 e3 e4 ⊢
 subst e1 e2 e3 e4
 rw [hll] at h5
 rw [H.start]
 refine AO (N4 (nv:=nv) hT hnt hnv (by omega) (by omega) (hVm 0 (by omega))) fun st hst=> ?_
 obtain ⟨sj,rfl,hsj⟩:=hst
 have hsjl:=(List.getElem?_eq_some_iff.1 hsj).1
 rw [wr (show -1000000≤((y1.length:Nat):Int) +((y2.length:Nat):Int)∧((y1.length:Nat):Int) +((y2.length:Nat):Int) ≤1000000 by omega)]
 refine EV (fun k (z:Ax×Ax)=>z.2.1=y1∧z.2.2.1=y2∧z.2.2.2.1.length=k+1∧z.2.2.2.1[0]? =some (((nt+1+y2.length:Nat):Int), [((nt+1+sj:Nat):Int)],0)∧(∀(j:Nat) r,1≤j→z.2.2.2.1[j]? =some r→Pr nt y2.length nl r∧ ∃r' ∈ g.2.2.2.2,g.2.2.2.2[j - 1]? =some r'∧y2[r.1.toNat - (nt+1)]? =some r'.1)∧z.2.2.2.2.1=y4∧z.2.2.2.2.2.1=assocs) (by omega) ⟨rfl,rfl,rfl,by dsimp only; rw [hTl]; simp [Int.natCast_add],fun j r hj hr=>by
  have:=(List.getElem?_eq_some_iff.1 hr).1
  simp at this
  omega,rfl,rfl⟩ (fun k z hk h=> ?_) fun z hz=> ?_
 ·obtain ⟨w,x1,x2,x3,x4,x5,x6⟩:=z
  obtain ⟨e1,e2,hlen,h0,hrs,e4,e5⟩:=h
  dsimp only at hlen h0 hrs e1 e2 e4 e5 ⊢
  subst e1 e2 e4 e5
  have hx:=List.getElem?_eq_getElem hk
  have hr:=H.rules _ (List.getElem_mem hk)
  obtain ⟨vi,hvi,hvl⟩:=hr.left
  refine AZ hx ?_
  rw [hvl]
  refine AO (N4 (nv:=nv) hT hnt hnv (by omega) hvi (hVm vi hvi)) fun t ht=> ?_
  obtain ⟨tj,rfl,htj⟩:=ht
  have htjl:=(List.getElem?_eq_some_iff.1 htj).1
  have hrf:=hr.few
  refine EV (fun i (z:Ax×BA)=>z.2.1=((nt+1+tj:Nat):Int)∧z.2.2.1.length=i∧(∀x ∈ z.2.2.1,0<x∧x< ((nt+1+x2.length:Nat):Int))∧0≤z.2.2.2∧z.2.2.2≤nl) (by omega) ⟨rfl,rfl,by simp,by simp,by simp⟩ (fun i z hi h=> ?_) fun z hz=> ?_
  ·obtain ⟨w,u1,u2,u3⟩:=z
   obtain ⟨rfl,hu,hus,hu3,hu3'⟩:=h
   dsimp only at hu hus hu3 hu3' ⊢
   have hy:=List.getElem?_eq_getElem hi
   have hym:=hr.right _ (List.getElem_mem hi)
   refine AZ hy (AO (Q:=fun t=>0<t∧t< ((nt+1+x2.length:Nat):Int)) ?_ fun t ht=> ?_)
   ·rcases hym with ⟨q,hq,e⟩ | ⟨q,hq,e⟩
    ·rw [e]
     exact (UW hT hnt hq).mono fun k hk=>by subst hk; omega
    ·rw [e]
     refine (N4 (nv:=nv) hT hnt hnv (by omega) hq (hVm q hq)).mono fun k hk=> ?_
     obtain ⟨j,rfl,hj⟩:=hk
     have:=(List.getElem?_eq_some_iff.1 hj).1
     omega
   ·refine Al (decide_eq_false (by omega)) (Bp (by simp only [List.length_cons,List.length_nil]; omega) ?_)
    refine AO (Q:=fun (z:BA)=>z.1=((nt+1+tj:Nat):Int)∧z.2.1=u2++ [t] ∧0≤z.2.2∧z.2.2≤nl) (Ae (fun hc=> ?_) fun _=>AG ⟨rfl,rfl,hu3,hu3'⟩) fun z hz=> ?_
    ·have hc:=of_decide_eq_true hc
     have hq:t.toNat<x4.length:=by omega
     refine DS (by omega) (List.getElem?_eq_getElem hq) (AG ⟨rfl,rfl,h4' _ (List.getElem_mem hq)⟩)
    ·obtain ⟨z1,z2,z3⟩:=z
     obtain ⟨rfl,rfl,a,b⟩:=hz
     refine Ew ⟨rfl,by simp [hu],fun x hx'=> ?_,a,b⟩
     rcases List.mem_append.1 hx' with h | h
     ·exact hus x h
     ·obtain rfl:=List.mem_singleton.1 h
      exact ht
  ·obtain ⟨w2,u1,u2,u3⟩:=z
   obtain ⟨rfl,hu,hus,hu3,hu3'⟩:=hz
   dsimp only at hu hus hu3 hu3' ⊢
   refine AO (Q:=fun e=> ∃(y:BA×Ax),e=AW.next y∧y.1.1=((nt+1+tj:Nat):Int)∧y.1.2.1=u2∧0≤y.1.2.2∧y.1.2.2≤nl) (Ae (fun hc=> ?_) fun hc=>AG ⟨_,rfl,rfl,rfl,hu3,hu3'⟩) fun e he=> ?_
   ·refine AO (O2 H _) fun t ht=> ?_
    rcases hr.prec with h | ⟨i,hi,h⟩
    ·rw [h,DT] at hc; simp at hc
    ·refine Al (beq_eq_false_iff_ne.2 (ht.2.2 i hi h)) (AG ⟨_,rfl,rfl,rfl,ht.1,ht.2.1⟩)
   ·obtain ⟨⟨⟨v1,v2,v3⟩,v4⟩,rfl,ev1,ev2,hv3,hv3'⟩:=he
    dsimp only at hv3 hv3' ev1 ev2 ⊢
    subst ev1 ev2
    refine Bp (by simp only [List.length_cons,List.length_nil]; omega) (Ew ⟨rfl,rfl,by simp [hlen],?_,fun j r hj hr'=> ?_,rfl,rfl⟩)
    ·rw [List.getElem?_append_left (by omega)]; exact h0
    ·rcases Nat.lt_or_ge j x3.length with gj | gj
     ·rw [List.getElem?_append_left gj] at hr'; exact hrs j r hj hr'
     ·have hjl:=(List.getElem?_eq_some_iff.1 hr').1
      simp at hjl
      have:j=x3.length:=by omega
      subst this
      rw [List.getElem?_append_right (Nat.le_refl _),Nat.sub_self] at hr'
      cases hr'
      refine ⟨⟨⟨by dsimp only; omega,by dsimp only; omega⟩,by dsimp only; omega,hus,hv3,hv3'⟩,g.2.2.2.2[k],List.getElem_mem hk,by rw [hlen]; exact hx,?_⟩
      dsimp only
      rw [show ((nt+1+tj:Nat):Int).toNat - (nt+1)=tj by omega,htj,hvl]
 obtain ⟨w,x1,x2,rules,x4,x5,x6⟩:=z
 obtain ⟨e1,e2,hlen,h0,hrs,e4,e5⟩:=hz
 dsimp only at hlen h0 hrs e1 e2 e4 e5 ⊢
 subst e1 e2 e4 e5
 refine AO (F9 (by omega)) fun t ht=> ?_
 rcases ht with ⟨rfl,ht⟩ | ⟨j,rfl,ht⟩
 ·exact absurd (hVm 0 (by omega)) ht
 refine Al (decide_eq_false (by omega)) (AG ⟨⟨hnt1,hnt⟩,hnl,hT,⟨hVpos,by dsimp only; omega⟩,⟨((nt+1+sj:Nat):Int),by omega,by dsimp only; omega,h0⟩,fun k r hk hr=>(hrs k r hk hr).1,⟨by dsimp only; omega,by dsimp only; omega⟩,fun v hv=> ?_,⟨h4,h4'⟩,h5⟩)
 dsimp only at hv ⊢
 have hvx:=List.getElem?_eq_getElem hv
 obtain ⟨r,hr1,hr2⟩:=hfr _ (List.getElem_mem hv)
 obtain ⟨i,hi⟩:=List.getElem?_of_mem hr1
 have hil:=(List.getElem?_eq_some_iff.1 hi).1
 have hri:=List.getElem?_eq_getElem (show i+1<rules.length by omega)
 obtain ⟨hp,r',_,h1,h2⟩:=hrs (i+1) _ (by omega) hri
 rw [Nat.add_sub_cancel,hi] at h1
 cases h1
 refine ⟨_,List.getElem_mem (show i+1<rules.length by omega),?_⟩
 have hl:=hp.left
 rw [hr2] at h2
 obtain ⟨hq,h2⟩:=List.getElem?_eq_some_iff.1 h2
 have:=TK hV.once hq hv h2
 omega
theorem UX {s:Lf} (G:SmG s) (F:SmF 12 5 s):Ok (Bd s) fun p=> ∃nt nl,Pl nt nl p:=by
 unfold Bd
 exact AO (Px G F) fun g hg=>AO (of_ok hg) fun p hp=>AG ⟨_,_,hp⟩
abbrev Rl:Type:=List BA
def beh (R:Rl) (x:Item):Int:=match R[x.1.toNat]? with
 | some r=>(r.2.1[x.2.toNat]?).getD (-1)
 | none=> -1
def OkI (R:Rl) (x:Item):Prop:=0≤x.1∧0≤x.2∧ ∃r,R[x.1.toNat]? =some r∧x.2.toNat≤r.2.1.length
structure VP (nT:Int) (R:Rl):Prop where
 t0:0≤nT
 left: ∀r ∈ R,nT≤r.1
 right: ∀r ∈ R,∀s ∈ r.2.1,0≤s
 few:R.length≤100
 short: ∀r ∈ R,r.2.1.length≤100
theorem LA {p:Ax} {x:Item} (h:OkI p.2.2.1 x):Ba (qA p FF 0) x=some (beh p.2.2.1 x):=by
 obtain ⟨h0,h1,r,h2,h3⟩:=h
 refine Ok.eq ?_
 unfold Ba
 refine DS h0 h2 ?_
 have e:beh p.2.2.1 x=(r.2.1[x.2.toNat]?).getD (-1):=by unfold beh; rw [h2]
 refine Ae (fun hc=> ?_) fun hc=> ?_
 ·have hc:=of_decide_eq_true hc
  refine AG ?_
  rw [e,List.getElem?_eq_none (by omega)]
  rfl
 ·have hc:=of_decide_eq_false hc
  have hl:x.2.toNat<r.2.1.length:=by omega
  refine DS h1 (List.getElem?_eq_getElem hl) (AG ?_)
  rw [e,List.getElem?_eq_getElem hl]
  rfl
theorem Vr {nT:Int} {R:Rl} (V:VP nT R) {x:Item} (h:OkI R x):beh R x= -1∨0≤beh R x:=by
 obtain ⟨h0,h1,r,h2,h3⟩:=h
 unfold beh
 rw [h2]
 dsimp only
 cases e:r.2.1[x.2.toNat]? with
 | none=>exact .inl rfl
 | some s=>exact .inr (V.right r (List.mem_of_getElem? h2) s (List.mem_of_getElem? e))
theorem Hd (q:Ax) (s:Int):BV q s=some (decide (0≤s) && decide (s< ((q.1.length:Nat):Int))):=by
 refine Ok.eq ?_
 unfold BV
 refine AO (Q:=fun b=>b=(decide (0≤s) && decide (s< ((q.1.length:Nat):Int)))) (Ae (fun h=>AG ?_) fun h=>AG ?_) fun b hb=>AG hb
 ·rw [decide_eq_true (show 0≤s from of_decide_eq_true h),Bool.true_and]
 ·rw [decide_eq_false (show ¬0≤s from of_decide_eq_false h),Bool.false_and]
theorem Iw {l:List Item} {x:Item} (h:l.length≤9223372036854775807):Ai l x=some (decide (x ∈ l)):=by
 refine Ok.eq ?_
 unfold Ai Av
 refine AO (Q:=fun k=>(k= -1∧x ∉ l)∨(0≤k∧x ∈ l)) ?_ fun k hk=>AG ?_
 ·refine KT l (fun _ y=>decide (x=y)) (fun k _=>k) h (fun j y hy=> ?_) (fun hn=>AG (.inl ⟨rfl,fun hm=> ?_⟩)) fun j y hy hq _=>AG (.inr ⟨by omega,?_⟩)
  ·rw [Cq,hy,Option.bind_some]
   have e:((x.1,x.2).1==y.1 && ((x.1,x.2).2==y.2 && true))=decide (x=y):=by
    obtain ⟨a,b⟩:=x; obtain ⟨c,d⟩:=y
    rw [Bool.and_true,Bool.eq_iff_iff]
    simp
   rw [e]
   cases decide (x=y) <;>rfl
  ·obtain ⟨j,hj⟩:=List.getElem?_of_mem hm
   have:=hn j x hj
   simp at this
  ·have:=of_decide_eq_true hq
   subst this
   exact List.mem_of_getElem? hy
 ·rcases hk with ⟨rfl,h⟩ | ⟨h0,h⟩
  ·rw [decide_eq_false h]; rfl
  ·rw [decide_eq_true h]; exact decide_eq_true h0
inductive Cl (R:Rl) (K:List Item):Item→Prop
 | base {x:Item} :x ∈ K→Cl R K x
 | step {y:Item} {k:Nat} {r:BA} :Cl R K y→R[k]? =some r→r.1=beh R y→Cl R K ((k:Int),0)
def Lt (x y:Item):Prop:=x.1<y.1∨x.1=y.1∧x.2<y.2
theorem Lt.irrefl (x:Item): ¬Lt x x:=by unfold Lt; omega
theorem Lt.trans {x y z:Item} (h1:Lt x y) (h2:Lt y z):Lt x z:=by unfold Lt at *; omega
theorem Rk {l:List Item} (h:l.Nodup):(GE l).Pairwise Lt:=by
 have h1:=L9 Kg Kh l
 have h2:(GE l).Nodup:=(Co _ l).nodup_iff.2 h
 refine ((List.pairwise_and_iff.2 ⟨h1,List.nodup_iff_pairwise_ne.1 h2⟩).imp fun {a b} h=> ?_)
 obtain ⟨h3,h4⟩:=h
 simp only [DX,Bool.not_eq_true',decide_eq_false_iff_not] at h3
 have h5: ¬(a.1=b.1∧a.2=b.2):=fun e=>h4 (Prod.ext e.1 e.2)
 unfold Lt
 omega
theorem QD {l:List Item} {x:Item} :x ∈ GE l ↔ x ∈ l:=(Co _ l).mem_iff
theorem My (l:List Item):(GE l).length=l.length:=(Co _ l).length_eq
theorem MS {R:Rl} {E:List Item} (hn:E.Nodup) (h: ∀x ∈ E,∃k:Nat,k<R.length∧x=((k:Int),0)):E.length≤R.length:=by
 have:=List.Nodup.length_le_of_subset (l₂:=(List.range R.length).map fun k:Nat=>((k:Int),(0:Int))) hn (fun x hx=>by
  obtain ⟨k,h1,h2⟩:=h x hx
  exact List.mem_map.2 ⟨k,List.mem_range.2 h1,h2.symm⟩)
 simpa using this
structure N5 (R:Rl) (K C:List Item):Prop where
 up:C.Pairwise Lt
 mem: ∀x,x ∈ C ↔ Cl R K x
 len:C.length≤K.length+R.length
theorem Cl.ok {R:Rl} {K:List Item} (hK: ∀x ∈ K,OkI R x) {x:Item} (h:Cl R K x):OkI R x:=by
 induction h with
 | base h=>exact hK _ h
 | @step y k r _ h1 h2 _=>exact ⟨by dsimp only; omega,by dsimp only; omega,r,by simpa using h1,by simp⟩
set_option maxHeartbeats 1000000 in
theorem QE {p:Ax} (V:VP ((p.1.length:Nat):Int) p.2.2.1) {K:List Item} (hK: ∀x ∈ K,OkI p.2.2.1 x) (hn:K.Nodup) (hl:K.length≤1000000):Ok (Az (qA p FF 0) K) (N5 p.2.2.1 K):=by
 unfold Az
 have hf:=V.few
 refine AR (x:=K) (by unfold cloneD; rw [if_pos (by omega)]) ?_
 generalize hR:p.2.2.1=R at *
 refine De (fun (z:Int×List Item×List (Int×Bool))=>0≤z.1∧z.1≤(z.2.1.length:Int)∧(∃E:List Item,z.2.1=K++E∧E.Nodup∧ ∀x ∈ E,∃k:Nat,k<R.length∧x=((k:Int),0))∧z.2.1.Nodup∧(∀x ∈ z.2.1,Cl R K x)∧
  (∀s,BH s z.2.2=some true→ ∀(k:Nat) r,R[k]? =some r→r.1=s→((k:Int),(0:Int)) ∈ z.2.1)∧
  ∀(j:Nat) x,(j:Int) <z.1→z.2.1[j]? =some x→ ∀(k:Nat) r,R[k]? =some r→r.1=beh R x→((k:Int),(0:Int)) ∈ z.2.1)
  (fun z=>K.length+R.length - z.1.toNat) (fun b=>b.1.Nodup∧b.1.length≤K.length+R.length∧ ∀x,x ∈ b.1 ↔ Cl R K x)
  ⟨Int.le_refl _,by dsimp only; omega,⟨[],by simp,by simp,by simp⟩,hn,fun x hx=> .base hx,(fun s h=>by cases h),fun j x h=>absurd h (by dsimp only; omega)⟩ (fun z hz=> ?_) fun b hb=> ?_
 ·obtain ⟨i,out,come⟩:=z
  obtain ⟨h0,h1,hE,hno,hcl,hco,hdo⟩:=hz
  dsimp only at h0 h1 hE hno hcl hco hdo ⊢
  obtain ⟨E,eE,nE,mE⟩:=hE
  have lE:=MS nE mE
  have lo:out.length≤K.length+R.length:=by rw [eE,List.length_append]; omega
  refine Ae (fun hc=> ?_) fun hc=>Bs ⟨hno,lo,fun x=>⟨hcl x,fun h=> ?_⟩⟩
  ·have hc:=of_decide_eq_true hc
   have hi:i.toNat<out.length:=by omega
   have hx:=List.getElem?_eq_getElem hi
   have hxm:=List.getElem_mem hi
   generalize out[i.toNat] =x at hx hxm
   have hox:=(hcl x hxm).ok hK
   refine AO (Q:=fun (y:List Item×List (Int×Bool))=>(∃E:List Item,y.1=K++E∧E.Nodup∧ ∀x ∈ E,∃k:Nat,k<R.length∧x=((k:Int),0))∧y.1.Nodup∧(∀x ∈ y.1,Cl R K x)∧(∃E2,y.1=out++E2)∧
    (∀s,BH s y.2=some true→ ∀(k:Nat) r,R[k]? =some r→r.1=s→((k:Int),(0:Int)) ∈ y.1)∧ ∀(k:Nat) r,R[k]? =some r→r.1=beh R x→((k:Int),(0:Int)) ∈ y.1) ?_ fun y hy=> ?_
   ·refine DS h0 hx (AR (x:=beh R x) (by have:=LA (p:=p) (x:=x) (by rw [hR]; exact hox); rw [hR] at this; exact this) ?_)
    have hb:=Vr V hox
    generalize hs:beh R x=s at hb
    have no:s<0∨s< ((p.1.length:Nat):Int)→ ∀(k:Nat) r,R[k]? =some r→r.1=s→((k:Int),(0:Int)) ∈ out:=fun h k r hr e=>by
     have:=V.left r (List.mem_of_getElem? hr)
     omega
    refine AO (Q:=fun b=>(b=true→ ∀(k:Nat) r,R[k]? =some r→r.1=s→((k:Int),(0:Int)) ∈ out)) (Ae (fun hc=>AG fun _=>no (.inl (of_decide_eq_true hc))) fun hc=> ?_) fun b hb'=> ?_
    ·have hc:=of_decide_eq_false hc
     refine AR (Hd _ _) (Ae (fun ht=>AG fun _=>no (.inr ?_)) fun ht=> ?_)
     ·simp only [Bool.and_eq_true,decide_eq_true_eq] at ht
      exact ht.2
     ·refine AR rfl (AG fun h=>hco s ?_)
      cases hm:BH s come with
      | none=>rw [hm] at h; cases h
      | some b=>rw [hm] at h; exact congrArg some h
    ·refine Ae (fun hc=>AG ⟨⟨E,eE,nE,mE⟩,hno,hcl,⟨[],by simp⟩,hco,hb' hc⟩) fun hc=> ?_
     refine CT (fun k (z:List Item)=>(∃E2:List Item,z=out++E2∧ ∀x ∈ E2,∃q:Nat,q<R.length∧x=((q:Int),0)∧ ∃r,R[q]? =some r∧r.1=s)∧z.Nodup∧ ∀(q:Nat) r,q<k→R[q]? =some r→r.1=s→((q:Int),(0:Int)) ∈ z) (by omega) ⟨⟨[],by simp,by simp⟩,hno,fun q r h=>by omega⟩ (fun k z hk hz=> ?_) fun z hz=> ?_
     ·obtain ⟨⟨E2,e2,m2⟩,n2,d2⟩:=hz
      have hr:=List.getElem?_eq_getElem hk
      have lz:z.length≤K.length+R.length:=by
       obtain ⟨n3,n4,n5⟩:=List.nodup_append.1 (show (K++(E++E2)).Nodup by rw [← List.append_assoc,← eE,← e2]; exact n2)
       have:=MS (R:=R) n4 (fun x hx=>by
        rcases List.mem_append.1 hx with h | h
        ·exact mE x h
        ·obtain ⟨q,a,b,_⟩:=m2 x h; exact ⟨q,a,b⟩)
       rw [e2,eE,List.append_assoc,List.length_append]; omega
      refine AZ hr (AO (Q:=fun b=>(b=true→R[k].1=s∧((k:Int),(0:Int)) ∉ z)∧(b=false→R[k].1=s→((k:Int),(0:Int)) ∈ z)) (Ae (fun hc=> ?_) fun hc=>AG ⟨by simp,fun _ e=> ?_⟩) fun b hb2=> ?_)
      ·refine AR (Iw (by omega)) (AG ⟨fun h=>⟨eq_of_beq hc,?_⟩,fun h _=> ?_⟩)
       ·simpa using h
       ·simpa using h
      ·rw [e] at hc; simp at hc
      ·refine AO (Q:=fun (z':List Item)=>(∃E2:List Item,z'=out++E2∧ ∀x ∈ E2,∃q:Nat,q<R.length∧x=((q:Int),0)∧ ∃r,R[q]? =some r∧r.1=s)∧z'.Nodup∧ ∀(q:Nat) r,q<k+1→R[q]? =some r→r.1=s→((q:Int),(0:Int)) ∈ z') (Ae (fun hc=> ?_) fun hc=>AG ⟨⟨E2,e2,m2⟩,n2,fun q r hq hr' e=> ?_⟩) fun z' hz'=>AG hz'
       ·obtain ⟨g1,g2⟩:=hb2.1 hc
        refine Bp (by simp only [List.length_cons,List.length_nil]; omega) (AG ⟨⟨E2++ [((k:Int),0)],by rw [e2,List.append_assoc],fun x hx=> ?_⟩,?_,fun q r hq hr' e=> ?_⟩)
        ·rcases List.mem_append.1 hx with h | h
         ·exact m2 x h
         ·exact ⟨k,hk,List.mem_singleton.1 h,_,hr,g1⟩
        ·refine List.nodup_append.2 ⟨n2,by simp,fun x hx y hy hxy=>g2 ?_⟩
         rw [← List.mem_singleton.1 hy,← hxy]; exact hx
        ·rcases Nat.lt_succ_iff_lt_or_eq.1 hq with h | rfl
         ·exact List.mem_append_left _ (d2 q r h hr' e)
         ·exact List.mem_append_right _ (List.mem_singleton.2 rfl)
       ·rcases Nat.lt_succ_iff_lt_or_eq.1 hq with h | rfl
        ·exact d2 q r h hr' e
        ·rw [hr] at hr'; cases hr'; exact hb2.2 hc e
     ·obtain ⟨⟨E2,e2,m2⟩,n2,d2⟩:=hz
      have hall: ∀(k:Nat) r,R[k]? =some r→r.1=s→((k:Int),(0:Int)) ∈ z:=fun k r hr e=>d2 k r (List.getElem?_eq_some_iff.1 hr).1 hr e
      refine AG ⟨⟨E++E2,by rw [e2,eE,List.append_assoc],?_,fun x hx=> ?_⟩,n2,fun x hx=> ?_,⟨E2,e2⟩,fun s' hs' k r hr e=> ?_,hall⟩
      ·exact (List.nodup_append.1 (show (K++(E++E2)).Nodup by rw [← List.append_assoc,← eE,← e2]; exact n2)).2.1
      ·rcases List.mem_append.1 hx with h | h
       ·exact mE x h
       ·obtain ⟨q,a,b,_⟩:=m2 x h; exact ⟨q,a,b⟩
      ·dsimp only at hx
       rw [e2] at hx
       rcases List.mem_append.1 hx with h | h
       ·exact hcl x h
       ·obtain ⟨q,a,b,r,c,d⟩:=m2 x h
        rw [b]
        exact .step (hcl _ hxm) c (by rw [d,hs])
      ·dsimp only at hs' ⊢
       rw [CX] at hs'
       split at hs'
       ·rename_i e'
        exact hall k r hr (by rw [e,e'])
       ·rw [e2]
        exact List.mem_append_left _ (hco s' hs' k r hr e)
   ·obtain ⟨out',come'⟩:=y
    obtain ⟨⟨E',eE',nE',mE'⟩,hno',hcl',⟨E2,e2⟩,hco',hx'⟩:=hy
    dsimp only at eE' hno' hcl' e2 hco' hx' ⊢
    have hw:IntKind.wrap .i64 (i+(1:Int))=i+1:=w64 (by omega) (by omega)
    have lo':out.length≤out'.length:=by rw [e2,List.length_append]; omega
    refine CJ ⟨⟨by dsimp only; rw [hw]; omega,by dsimp only; rw [hw]; omega,⟨E',eE',nE',mE'⟩,hno',hcl',hco',fun j y hj hy k r hr e=> ?_⟩,by dsimp only; rw [hw]; omega⟩
    dsimp only at hj hy ⊢
    rw [hw] at hj
    rcases Int.lt_or_le j i with g | g
    ·rw [e2,List.getElem?_append_left (by omega)] at hy
     rw [e2]
     exact List.mem_append_left _ (hdo j y g hy k r hr e)
    ·have:j=i.toNat:=by omega
     subst this
     rw [e2,List.getElem?_append_left (by omega),hx] at hy
     cases hy
     exact hx' k r hr e
  ·have hc:=of_decide_eq_false hc
   induction h with
   | base h=>rw [eE]; exact List.mem_append_left _ h
   | @step y k r _ g1 g2 ih=>
    obtain ⟨j,hj⟩:=List.getElem?_of_mem ih
    have:=(List.getElem?_eq_some_iff.1 hj).1
    dsimp only at this
    exact hdo j y (by omega) hj k r g1 g2
 ·obtain ⟨b1,b2,b3⟩:=hb
  refine AR (x:=GE b.1) (by unfold Hc; rw [if_pos (by omega)]) (AG ⟨Rk b1,fun x=>QD.trans (b3 x),by rw [My]; exact b2⟩)
theorem LB (u:Nat): ∀b ∈ Lib.decDigits u,48≤b.toNat∧b.toNat≤57:=by
 induction u using Nat.strongRecOn with
 | ind u ih=>
  intro b hb
  rw [Lib.decDigits] at hb
  split at hb
  ·rename_i h
   have hb:=List.mem_singleton.1 hb; subst hb
   have:(UInt8.ofNat (48+u)).toNat=48+u:=by simp; omega
   omega
  ·rename_i h
   rcases List.mem_append.1 hb with hb | hb
   ·exact ih (u / 10) (by omega) b hb
   ·have hb:=List.mem_singleton.1 hb; subst hb
    have:(UInt8.ofNat (48+u % 10)).toNat=48+u % 10:=by simp; omega
    omega
def Vs (l:List UInt8):Nat:=l.foldl (fun a b=>a * 10+(b.toNat - 48)) 0
theorem O3 (u:Nat):Vs (Lib.decDigits u)=u:=by
 induction u using Nat.strongRecOn with
 | ind u ih=>
  rw [Lib.decDigits]
  split
  ·rename_i h
   have:(UInt8.ofNat (48+u)).toNat=48+u:=by simp; omega
   simp only [Vs,List.foldl_cons,List.foldl_nil,this]
   omega
  ·rename_i h
   have e:(UInt8.ofNat (48+u % 10)).toNat=48+u % 10:=by simp; omega
   have:=ih (u / 10) (by omega)
   unfold Vs at this ⊢
   rw [List.foldl_append,this]
   simp only [List.foldl_cons,List.foldl_nil,e]
   omega
theorem Qr {u v:Nat} (h:Lib.decDigits u=Lib.decDigits v):u=v:=by rw [← O3 u,h,O3]
theorem Rm (i:Int): ∀b ∈ Lib.itoa i,b=45∨(48≤b.toNat∧b.toNat≤57):=by
 intro b hb
 unfold Lib.itoa at hb
 split at hb
 ·rcases List.mem_cons.1 hb with hb | hb
  ·exact .inl hb
  ·exact .inr (LB _ b hb)
 ·exact .inr (LB _ b hb)
theorem TL {i j:Int} (h:Lib.itoa i=Lib.itoa j):i=j:=by
 have no45: ∀(u:Nat) (r:List UInt8),Lib.decDigits u ≠ 45::r:=fun u r e=>by
  have:=LB u 45 (by rw [e]; simp)
  simp at this
 unfold Lib.itoa at h
 split at h<;>split at h
 ·have:=Qr (List.cons.inj h).2; omega
 ·exact absurd h.symm (no45 _ _)
 ·exact absurd h (no45 _ _)
 ·have:=Qr h; omega
theorem EE (i:Int): ∀x ∈ CM i,IV x=true∧x ≠ 32∧x ≠ 46:=by
 intro x hx
 unfold CM at hx
 obtain ⟨b,hb,rfl⟩:=List.mem_map.1 hx
 unfold IV
 simp only [Bool.and_eq_true,decide_eq_true_eq]
 rcases Rm i b hb with rfl | h
 ·decide
 ·omega
theorem MT {i j:Int} (h:CM i=CM j):i=j:=by
 unfold CM at h
 refine TL ?_
 refine List.map_inj_right (f:=fun b:UInt8=>(b.toNat:Int)) ?_ |>.1 h
 intro a b hab
 have:a.toNat=b.toNat:=by omega
 exact UInt8.toNat_inj.1 this
theorem He {i:Int} (h0: -9223372036854775808≤i) (h1:i≤9223372036854775807):(CM i).length≤21:=by
 unfold CM
 rw [List.length_map]
 exact Lib.itoa_length_le i h0 h1
def FH:List Item→List Int
 | [] => []
 | x::l=>CM x.1++46::(CM x.2++32::FH l)
theorem O4 (l m:List Item):FH (l++m)=FH l++FH m:=by
 induction l with
 | nil=>rfl
 | cons x l ih=>simp [FH,ih]
theorem O5 {c:Int} : ∀ {a b r s:List Int},(∀x ∈ a,x ≠ c)→(∀x ∈ b,x ≠ c)→a++c::r=b++c::s→a=b∧r=s:=by
 intro a
 induction a with
 | nil=>
  intro b r s _ hb h
  cases b with
  | nil=>simpa using h
  | cons y b=>simp at h; exact absurd h.1.symm (hb y (by simp))
 | cons x a ih=>
  intro b r s ha hb h
  cases b with
  | nil=>simp at h; exact absurd h.1 (ha x (by simp))
  | cons y b=>
   simp at h
   obtain ⟨h1,h2⟩:=ih (fun z hz=>ha z (by simp [hz])) (fun z hz=>hb z (by simp [hz])) h.2
   exact ⟨by rw [h.1,h1],h2⟩
theorem TM: ∀ {a b:List Item},FH a=FH b→a=b:=by
 intro a
 induction a with
 | nil=>
  intro b h
  cases b with
  | nil=>rfl
  | cons y b=>simp [FH] at h
 | cons x a ih=>
  intro b h
  cases b with
  | nil=>simp [FH] at h
  | cons y b=>
   obtain ⟨h1,h2⟩:=O5 (fun z hz=>(EE x.1 z hz).2.2) (fun z hz=>(EE y.1 z hz).2.2) h
   obtain ⟨h3,h4⟩:=O5 (fun z hz=>(EE x.2 z hz).2.1) (fun z hz=>(EE y.2 z hz).2.1) h2
   rw [Prod.ext (MT h1) (MT h3),ih h4]
theorem LC (l:List Item): ∀x ∈ FH l,IV x=true:=by
 induction l with
 | nil=>intro x hx; cases hx
 | cons y l ih=>
  intro x hx
  simp only [FH,List.mem_append,List.mem_cons] at hx
  rcases hx with h | rfl | h | rfl | h
  ·exact (EE _ x h).1
  ·decide
  ·exact (EE _ x h).1
  ·decide
  ·exact ih x h
def I64 (l:List Item):Prop:= ∀x ∈ l,0≤x.1∧x.1≤1000000∧0≤x.2∧x.2≤1000000
theorem TN {l:List Item} (h:I64 l):(FH l).length≤l.length * 44:=by
 induction l with
 | nil=>simp [FH]
 | cons x l ih=>
  have a:=h x (by simp)
  have:=ih fun y hy=>h y (by simp [hy])
  have h1:=He (i:=x.1) (by omega) (by omega)
  have h2:=He (i:=x.2) (by omega) (by omega)
  simp only [FH,List.length_append,List.length_cons]
  omega
def QF (l:List Item):ByteArray:=⟨((FH l).map fun x=>UInt8.ofNat x.toNat).toArray⟩
theorem QG {x:Int} (h:IV x=true):((UInt8.ofNat x.toNat).toNat:Int)=x:=by
 unfold IV at h
 simp only [Bool.and_eq_true,decide_eq_true_eq] at h
 simp
 omega
theorem TO {a b:List Item} (h:QF a=QF b):a=b:=by
 unfold QF at h
 simp only [ByteArray.mk.injEq] at h
 have h1: ∀l:List Int,(∀x ∈ l,IV x=true)→(l.map fun x=>UInt8.ofNat x.toNat).map (fun b=>(b.toNat:Int))=l:=fun l hl=>by
  rw [List.map_map]
  conv=>rhs; rw [← List.map_id l]
  refine List.map_congr_left fun x hx=> ?_
  exact QG (hl x hx)
 refine TM ?_
 rw [← h1 (FH a) (LC a),← h1 (FH b) (LC b)]
 rw [List.toArray_inj h]
theorem Vt {l:List Item} (h:I64 l) (hl:l.length≤20000):Df l=some (QF l):=by
 refine Ok.eq ?_
 unfold Df
 refine CT (fun k (z:List Int)=>z=FH (l.take k)) (by omega) rfl (fun k z hk hz=> ?_) fun z hz=> ?_
 ·subst hz
  have hx:=List.getElem?_eq_getElem hk
  have a:=h _ (List.getElem_mem hk)
  have e:FH (l.take (k+1))=FH (l.take k) ++FH [l[k]] :=by rw [List.take_add_one,hx,O4]; rfl
  have hlen:=TN (l:=l.take k) fun y hy=>h y (List.mem_of_mem_take hy)
  have:(l.take k).length≤k:=by rw [List.length_take]; omega
  have h1:=He (i:=l[k].1) (by omega) (by omega)
  have h2:=He (i:=l[k].2) (by omega) (by omega)
  have c1:DV (FH (l.take k)) l[k].1 10=some (FH (l.take k) ++CM l[k].1):=by unfold DV; rw [if_pos ⟨rfl,by omega,by omega,by omega⟩]
  refine AZ hx (AR c1 (Bp (by simp; omega) ?_))
  have c2:DV (FH (l.take k) ++CM l[k].1++ [46]) l[k].2 10=some (FH (l.take k) ++CM l[k].1++ [46] ++CM l[k].2):=by unfold DV; rw [if_pos ⟨rfl,by omega,by omega,by simp; omega⟩]
  refine AR c2 (Bp (by simp; omega) (AG ?_))
  rw [e]
  simp [FH]
 ·subst hz
  rw [List.take_of_length_le (Nat.le_refl _)]
  refine AR (x:=QF l) ?_ (AG rfl)
  unfold Qe QF
  rw [if_pos (List.all_eq_true.2 (LC l))]
def nx (R:Rl) (l:List Item) (s:Int):List Item:=(l.filter fun x=>beh R x==s).map fun x=>(x.1,x.2+1)
theorem OkI.dot {nT:Int} {R:Rl} (V:VP nT R) {x:Item} (h:OkI R x):x.1≤1000∧x.2≤1000:=by
 obtain ⟨h0,h1,r,h2,h3⟩:=h
 have:=V.short r (List.mem_of_getElem? h2)
 have:=(List.getElem?_eq_some_iff.1 h2).1
 have:=V.few
 omega
theorem OkI.i64 {nT:Int} {R:Rl} (V:VP nT R) {l:List Item} (h: ∀x ∈ l,OkI R x):I64 l:=fun x hx=>by
 have:=(h x hx).dot V
 have:=(h x hx).1
 have:=(h x hx).2.1
 omega
theorem UY {p:Ax} {nT:Int} (V:VP nT p.2.2.1) {l:List Item} (h: ∀x ∈ l,OkI p.2.2.1 x) (hl:l.length≤1000000) (s:Int):Bk (qA p FF 0) l s=some (nx p.2.2.1 l s):=by
 refine Ok.eq ?_
 unfold Bk
 refine CT (fun k (z:List Item)=>z=nx p.2.2.1 (l.take k) s) (by omega) rfl (fun k z hk hz=> ?_) fun z hz=>AG (by rw [hz,List.take_of_length_le (Nat.le_refl _)])
 subst hz
 have hx:=List.getElem?_eq_getElem hk
 have a:=h _ (List.getElem_mem hk)
 have ad:=a.dot V
 have a2:=a.2.1
 have e:nx p.2.2.1 (l.take (k+1)) s=nx p.2.2.1 (l.take k) s++nx p.2.2.1 [l[k]] s:=by
  rw [List.take_add_one,hx]
  unfold nx
  rw [List.filter_append,List.map_append]
  rfl
 have hlen:(nx p.2.2.1 (l.take k) s).length≤k:=by
  unfold nx
  rw [List.length_map]
  have:=List.length_filter_le (fun x=>beh p.2.2.1 x==s) (l.take k)
  rw [List.length_take] at this
  omega
 refine AZ hx (AR (LA a) ?_)
 refine AO (Q:=fun z=>z=nx p.2.2.1 (l.take (k+1)) s) (Ae (fun hc=> ?_) fun hc=>AG ?_) fun z hz=>AG hz
 ·refine Bp (by simp; omega) (AG ?_)
  rw [e,w64 (by omega) (by omega)]
  unfold nx
  rw [List.filter_cons,if_pos hc]
  rfl
 ·rw [e]
  unfold nx
  rw [List.filter_cons,if_neg (by rw [hc]; decide)]
  simp
theorem QH {R:Rl} {l:List Item} {s:Int} {y:Item} :y ∈ nx R l s ↔ ∃x ∈ l,beh R x=s∧y=(x.1,x.2+1):=by
 unfold nx
 simp only [List.mem_map,List.mem_filter,beq_iff_eq]
 constructor
 ·rintro ⟨x,⟨h1,h2⟩,h3⟩; exact ⟨x,h1,h2,h3.symm⟩
 ·rintro ⟨x,h1,h2,h3⟩; exact ⟨x,⟨h1,h2⟩,h3.symm⟩
theorem VH {R:Rl} {l:List Item} (h:l.Pairwise Lt) (s:Int):(nx R l s).Pairwise Lt:=by
 unfold nx
 rw [List.pairwise_map]
 exact (h.filter _).imp fun {a b} h=>by unfold Lt at *; dsimp only; omega
theorem Qs {nT:Int} {R:Rl} (V:VP nT R) {l:List Item} (h: ∀x ∈ l,OkI R x) {s:Int} (hs:0≤s): ∀y ∈ nx R l s,OkI R y∧1≤y.2:=fun y hy=>by
 obtain ⟨x,h1,h2,rfl⟩:=QH.1 hy
 obtain ⟨g0,g1,r,g2,g3⟩:=h x h1
 refine ⟨⟨g0,by dsimp only; omega,r,g2,?_⟩,by dsimp only; omega⟩
 unfold beh at h2
 rw [g2] at h2
 dsimp only at h2 ⊢
 rcases Nat.lt_or_ge x.2.toNat r.2.1.length with g | g
 ·omega
 ·rw [List.getElem?_eq_none g] at h2
  simp at h2
  omega
def syr (R:Rl) (l:List Item):List Int:=(l.map (beh R)).filter fun s=>decide (0≤s)
def sy (R:Rl) (l:List Item):List Int:=Lib.compact (Im (syr R l))
theorem QI {p:Ax} {l:List Item} (h: ∀x ∈ l,OkI p.2.2.1 x) (hl:l.length≤1000000):BU (qA p FF 0) l=some (sy p.2.2.1 l):=by
 refine Ok.eq ?_
 unfold BU
 have hlen: ∀k,(syr p.2.2.1 (l.take k)).length≤l.length:=fun k=>by
  unfold syr
  have:=List.length_filter_le (fun s=>decide (0≤s)) ((l.take k).map (beh p.2.2.1))
  rw [List.length_map,List.length_take] at this
  omega
 refine CT (fun k (z:List Int)=>z=syr p.2.2.1 (l.take k)) (by omega) rfl (fun k z hk hz=> ?_) fun z hz=> ?_
 ·subst hz
  have hx:=List.getElem?_eq_getElem hk
  have a:=h _ (List.getElem_mem hk)
  have e:syr p.2.2.1 (l.take (k+1))=syr p.2.2.1 (l.take k) ++syr p.2.2.1 [l[k]] :=by
   rw [List.take_add_one,hx]
   unfold syr
   rw [List.map_append,List.filter_append]
   rfl
  have:=hlen k
  refine AZ hx (AR (LA a) ?_)
  refine AO (Q:=fun z=>z=syr p.2.2.1 (l.take (k+1))) (Ae (fun hc=> ?_) fun hc=>AG ?_) fun z hz=>AG hz
  ·refine Bp (by simp; omega) (AG ?_)
   rw [e]
   unfold syr
   rw [List.map_cons,List.filter_cons,if_pos (by simpa using hc)]
   rfl
  ·rw [e]
   unfold syr
   rw [List.map_cons,List.filter_cons,if_neg (by simpa using hc)]
   simp
 ·subst hz
  have:=hlen l.length
  rw [List.take_of_length_le (Nat.le_refl _)] at this ⊢
  refine AR (x:=Im (syr p.2.2.1 l)) (by unfold Qj; rw [if_pos (by omega)]) ?_
  refine AR (x:=sy p.2.2.1 l) (by unfold KY; rw [if_pos (by unfold Im; rw [(Co _ _).length_eq]; omega)]; rfl) (AG rfl)
theorem O6 (l:List Int):(Im l).Pairwise (· ≤ ·):=by
 have h1:=L9 (le:=fun x y:Int=>decide (x≤y)) (by
  intro a b c h1 h2
  simp only [decide_eq_true_eq] at *
  omega) (by
  intro a b
  simp only [Bool.or_eq_true,decide_eq_true_eq]
  omega) l
 exact h1.imp fun {a b} h=>of_decide_eq_true h
theorem NM {l:List Int} (h:l.Pairwise (· ≤ ·)): ∀m,m≤l.length→(Lib.compactUpTo l.toArray m).Pairwise (· < ·)∧(∀x,x ∈ Lib.compactUpTo l.toArray m ↔ x ∈ l.take m):=by
 intro m
 induction m with
 | zero=>intro _; exact ⟨.nil,fun x=>by simp [Lib.compactUpTo]⟩
 | succ m ih=>
  intro hm
  obtain ⟨h1,h2⟩:=ih (by omega)
  rw [Lib.compactUpTo_succ]
  have hx:=List.getElem?_eq_getElem (show m<l.length by omega)
  have e0:l.toArray[m]! =l[m] :=by rw [getElem!_pos _ m (by simp; omega)]; simp
  have et:l.take (m+1)=l.take m++ [l[m]] :=by rw [List.take_add_one,hx]; rfl
  have le: ∀x ∈ l.take m,x≤l[m] :=fun x hx=>by
   obtain ⟨j,hj,rfl⟩:=List.getElem_of_mem hx
   rw [List.length_take] at hj
   rw [List.getElem_take]
   exact List.pairwise_iff_getElem.1 h j m (by omega) (by omega) (by omega)
  cases hk:Lib.keeps l.toArray m with
  | true=>
   rw [if_pos rfl,e0,et]
   refine ⟨List.pairwise_append.2 ⟨h1,by simp,fun x hx y hy=> ?_⟩,fun x=>by rw [List.mem_append,List.mem_append,h2]⟩
   obtain rfl:=List.mem_singleton.1 hy
   have hx':=(h2 x).1 hx
   have:=le x hx'
   unfold Lib.keeps at hk
   have hk:=of_decide_eq_true hk
   rcases hk with rfl | hk
   ·simp at hx'
   ·have e1:l.toArray[m - 1]! =l[m - 1] :=by rw [getElem!_pos _ (m - 1) (by simp; omega)]; simp
    rw [e0,e1] at hk
    have hm0:m ≠ 0:=fun h0=>by subst h0; simp at hx'
    have hle:x≤l[m - 1] :=by
     obtain ⟨j,hj,rfl⟩:=List.getElem_of_mem hx'
     rw [List.length_take] at hj
     rw [List.getElem_take]
     rcases Nat.lt_or_ge j (m - 1) with g | g
     ·exact List.pairwise_iff_getElem.1 h j (m - 1) (by omega) (by omega) (by omega)
     ·have:j=m - 1:=by omega
      subst this
      exact Int.le_refl _
    have:=List.pairwise_iff_getElem.1 h (m - 1) m (by omega) (by omega) (by omega)
    omega
  | false=>
   rw [if_neg (by decide),List.append_nil,et]
   refine ⟨h1,fun x=> ?_⟩
   rw [h2,List.mem_append,List.mem_singleton]
   unfold Lib.keeps at hk
   have hk:=of_decide_eq_false hk
   have hm0:m ≠ 0:=fun h0=>hk (.inl h0)
   have e1:l.toArray[m - 1]! =l[m - 1] :=by rw [getElem!_pos _ (m - 1) (by simp; omega)]; simp
   have heq:l[m] =l[m - 1] :=by
    by_cases q:l[m] =l[m - 1]
    ·exact q
    ·exact absurd (.inr (by rw [e0,e1]; exact q)) hk
   constructor
   ·exact .inl
   ·rintro (h | rfl)
    ·exact h
    ·rw [heq]
     refine List.mem_of_getElem? (i:=m - 1) ?_
     rw [List.getElem?_take,if_pos (by omega),List.getElem?_eq_getElem (by omega)]
theorem WT (R:Rl) (l:List Item):(sy R l).Pairwise (· < ·):=(NM (O6 _) _ (Nat.le_refl _)).1
theorem LD {R:Rl} {l:List Item} {s:Int} :s ∈ sy R l ↔ 0≤s∧ ∃x ∈ l,beh R x=s:=by
 unfold sy Lib.compact
 rw [(NM (O6 _) _ (Nat.le_refl _)).2,List.take_of_length_le (Nat.le_refl _)]
 unfold Im
 rw [(Co _ _).mem_iff]
 unfold syr
 simp only [List.mem_filter,List.mem_map,decide_eq_true_eq]
 constructor
 ·rintro ⟨⟨x,h1,h2⟩,h3⟩; exact ⟨h3,x,h1,h2⟩
 ·rintro ⟨h3,x,h1,h2⟩; exact ⟨⟨x,h1,h2⟩,h3⟩
theorem TP (R:Rl) (l:List Item):(sy R l).length≤l.length:=by
 have h1:=MA (Im (syr R l))
 have h2:(Im (syr R l)).length=(syr R l).length:=(Co _ _).length_eq
 have h3:(syr R l).length≤(l.map (beh R)).length:=List.length_filter_le _ _
 rw [List.length_map] at h3
 unfold sy
 omega
abbrev k0:List Item:= [((0:Int),(0:Int))]
noncomputable def clo (p:Ax) (K:List Item):List Item:=(Az (qA p FF 0) K).getD []
abbrev VPp (p:Ax):Prop:=VP ((p.1.length:Nat):Int) p.2.2.1
structure MU (R:Rl) (k:List Item):Prop where
 ok: ∀x ∈ k,OkI R x
 up:k.Pairwise Lt
theorem Lt.nodup {l:List Item} (h:l.Pairwise Lt):l.Nodup:=List.nodup_iff_pairwise_ne.2 (h.imp fun {a b} h e=>by subst e; exact Lt.irrefl _ h)
theorem JI {nT:Int} {R:Rl} (V:VP nT R) {l:List Item} (h: ∀x ∈ l,OkI R x) (hn:l.Nodup):l.length≤10100:=by
 have:=List.Nodup.length_le_of_subset (l₂:=(List.range 100).flatMap fun a=>(List.range 101).map fun b=>(((a:Nat):Int),((b:Nat):Int))) hn (fun x hx=>by
  obtain ⟨h0,h1,r,h2,h3⟩:=h x hx
  have:=V.short r (List.mem_of_getElem? h2)
  have:=(List.getElem?_eq_some_iff.1 h2).1
  have:=V.few
  refine List.mem_flatMap.2 ⟨x.1.toNat,List.mem_range.2 (by omega),List.mem_map.2 ⟨x.2.toNat,List.mem_range.2 (by omega),?_⟩⟩
  exact Prod.ext (by dsimp only; omega) (by dsimp only; omega))
 refine Nat.le_trans this ?_
 rw [List.length_flatMap]
 simp only [List.length_map,List.length_range]
 decide
theorem MV {p:Ax} (V:VPp p) {K:List Item} (h:MU p.2.2.1 K):Az (qA p FF 0) K=some (clo p K)∧N5 p.2.2.1 K (clo p K)∧MU p.2.2.1 (clo p K)∧(clo p K).length≤10100:=by
 have hl:=JI V h.ok (Lt.nodup h.up)
 obtain ⟨C,h1,h2⟩:=QE V h.ok (Lt.nodup h.up) (by omega)
 have e:clo p K=C:=by unfold clo; rw [h1]; rfl
 rw [e]
 have hg:MU p.2.2.1 C:=⟨fun x hx=>((h2.mem x).1 hx).ok h.ok,h2.up⟩
 exact ⟨h1,h2,hg,JI V hg.ok (Lt.nodup hg.up)⟩
noncomputable def FV (p:Ax) (B:List dtK) (k:List Item) (fr wi:Int):Nat×List dtK:=
 match B.findIdx? (fun b=>decide (b.1=k)) with
 | some i=>(i,B)
 | none=>(B.length,B++ [(k,clo p k,fr,wi)])
abbrev BE:Type:=List dtK×List (List Edge)
noncomputable def Gd (p:Ax) (b:dtK) (i:Nat) (y:BE) (s:Int):BE:=
 ((FV p y.1 (nx p.2.2.1 b.2.1 s) (i:Int) s).2,(FG y.2 y.1.length (FV p y.1 (nx p.2.2.1 b.2.1 s) (i:Int) s).2.length).set i ((((FG y.2 y.1.length (FV p y.1 (nx p.2.2.1 b.2.1 s) (i:Int) s).2.length))[i]?).getD [] ++ [(s,(((FV p y.1 (nx p.2.2.1 b.2.1 s) (i:Int) s).1:Nat):Int))]))
noncomputable def MW (p:Ax) (b:dtK) (i:Nat) (l:List Int) (y:BE):BE:=l.foldl (Gd p b i) y
noncomputable def stM (p:Ax):Nat→BE
 | 0=>([(k0,clo p k0, -1, -1)], [[]])
 | n+1=>match (stM p n).1[n]? with
  | some b=>MW p b n (sy p.2.2.1 b.2.1) (stM p n)
  | none=>stM p n
noncomputable def mid (p:Ax) (n m:Nat):BE:=match (stM p n).1[n]? with
 | some b=>MW p b n ((sy p.2.2.1 b.2.1).take m) (stM p n)
 | none=>stM p n
theorem Ld (p:Ax) (B:List dtK) (k:List Item) (fr wi:Int):
 (∃i b,FV p B k fr wi=(i,B)∧B[i]? =some b∧b.1=k)∨(FV p B k fr wi=(B.length,B++ [(k,clo p k,fr,wi)])∧ ∀b ∈ B,b.1 ≠ k):=by
 unfold FV
 cases h:B.findIdx? (fun b=>decide (b.1=k)) with
 | none=>
  right
  refine ⟨rfl,fun b hb e=> ?_⟩
  have:=List.findIdx?_eq_none_iff.1 h b hb
  simp [e] at this
 | some i=>
  left
  obtain ⟨hi,h1,_⟩:=List.findIdx?_eq_some_iff_getElem.1 h
  exact ⟨i,B[i],rfl,List.getElem?_eq_getElem hi,of_decide_eq_true h1⟩
def Ge (R:Rl) (B:List dtK) (b:dtK) (syms:List Int) (e:List Edge):Prop:=
 e.map (·.1)=syms∧ ∀x ∈ e,∃(t:Nat) (bt:dtK),x.2=(t:Int)∧1≤t∧B[t]? =some bt∧bt.1=nx R b.2.1 x.1
structure Inv (p:Ax) (n:Nat) (syms:List Int) (y:BE):Prop where
 wf: ∀b ∈ y.1,MU p.2.2.1 b.1∧b.2.1=clo p b.1
 len:y.2.length=y.1.length
 zero:y.1[0]? =some (k0,clo p k0, -1, -1)
 from_: ∀(j:Nat) b,1≤j→y.1[j]? =some b→ ∃(f:Nat) (bf:dtK) (e:List Edge),f<j∧b.2.2.1=(f:Int)∧y.1[f]? =some bf∧b.1=nx p.2.2.1 bf.2.1 b.2.2.2∧b.2.2.2 ∈ sy p.2.2.1 bf.2.1∧y.2[f]? =some e∧(b.2.2.2,(j:Int)) ∈ e
 apart: ∀(i j:Nat) bi bj,y.1[i]? =some bi→y.1[j]? =some bj→bi.1=bj.1→i=j
 done: ∀(j:Nat) b e,j<n→y.1[j]? =some b→y.2[j]? =some e→Ge p.2.2.1 y.1 b (sy p.2.2.1 b.2.1) e
 cur: ∀b e,y.1[n]? =some b→y.2[n]? =some e→Ge p.2.2.1 y.1 b syms e
 fresh: ∀(j:Nat) e,n<j→y.2[j]? =some e→e= []
theorem Ge.up {R:Rl} {B B':List dtK} {b:dtK} {syms:List Int} {e:List Edge} (H:Ge R B b syms e) (hB: ∀(j:Nat) x,B[j]? =some x→B'[j]? =some x):Ge R B' b syms e:=
 ⟨H.1,fun x hx=>by obtain ⟨t,bt,h1,h2,h3,h4⟩:=H.2 x hx; exact ⟨t,bt,h1,h2,hB t bt h3,h4⟩⟩
theorem Dh {α:Type} {l:List α} {x y:α} {j:Nat} (h:l[j]? =some y):(l++ [x])[j]? =some y:=by
 rw [List.getElem?_append_left (List.getElem?_eq_some_iff.1 h).1]; exact h
theorem BQ {α:Type} {l:List α} {y:α} {j:Nat} (h:l[j]? =some y):j<l.length:=(List.getElem?_eq_some_iff.1 h).1
theorem Inv.grow {p:Ax} {n:Nat} {syms:List Int} {B:List dtK} {E:List (List Edge)} (H:Inv p n syms (B,E)) (hn:n<B.length) {x:dtK} :(E++ [[]]).length=(B++ [x]).length∧(B++ [x])[0]? =some (k0,clo p k0, -1, -1)∧
 (∀(j:Nat) b e,j<n→(B++ [x])[j]? =some b→(E++ [[]])[j]? =some e→Ge p.2.2.1 (B++ [x]) b (sy p.2.2.1 b.2.1) e)∧
 (∀b e,(B++ [x])[n]? =some b→(E++ [[]])[n]? =some e→Ge p.2.2.1 (B++ [x]) b syms e)∧(∀(j:Nat) e,n<j→(E++ [[]])[j]? =some e→e= []):=by
 have hl:=H.len
 dsimp only at hl
 refine ⟨by simp [hl],Dh H.zero,fun j b e hj hb he=> ?_,fun b e hb he=> ?_,fun j e hj he=> ?_⟩
 ·rw [List.getElem?_append_left (by omega)] at hb he
  exact (H.done j b e hj hb he).up fun _ _ h=>Dh h
 ·rw [List.getElem?_append_left (by omega)] at hb he
  exact (H.cur b e hb he).up fun _ _ h=>Dh h
 ·rcases EZ he with h | ⟨_,h⟩
  ·exact H.fresh j e hj h
  ·exact h
theorem Inv.edge {p:Ax} (V:VPp p) {n:Nat} {syms:List Int} {B:List dtK} {E:List (List Edge)} (H:Inv p n syms (B,E)) {b:dtK} (hb:B[n]? =some b) {s:Int} (hs:s ∈ sy p.2.2.1 b.2.1):Inv p n (syms++ [s]) (Gd p b n (B,E) s):=by
 have hnl:=BQ hb
 have hl:=H.len
 dsimp only at hl
 obtain ⟨e,he⟩: ∃e,E[n]? =some e:=⟨_,List.getElem?_eq_getElem (by omega)⟩
 obtain ⟨hg,hc⟩:=H.wf b (List.mem_of_getElem? hb)
 obtain ⟨_,_,hgc,_⟩:=MV V hg
 obtain ⟨s0,xs,hxs,hxe⟩:=LD.1 hs
 have hne: ∀y ∈ nx p.2.2.1 b.2.1 s,1≤y.2:=fun y hy=>(Qs V (l:=b.2.1) (by rw [hc]; exact hgc.ok) s0 y hy).2
 have hnn: ∃y,y ∈ nx p.2.2.1 b.2.1 s:=⟨_,QH.2 ⟨xs,hxs,hxe,rfl⟩⟩
 have hzero:nx p.2.2.1 b.2.1 s ≠ k0:=fun h=>by
  obtain ⟨y,hy⟩:=hnn
  have:=hne y hy
  rw [h] at hy
  have:=List.mem_singleton.1 hy
  subst this
  dsimp only at *
  omega
 have hcur:=H.cur b e hb he
 unfold Gd
 rcases Ld p B (nx p.2.2.1 b.2.1 s) (n:Int) s with ⟨i,bi,h1,h2,h3⟩ | ⟨h1,h2⟩
 ·dsimp only
  rw [h1]
  dsimp only
  have hgE:FG E B.length B.length=E:=by unfold FG; rw [if_pos rfl]
  rw [hgE,he,Option.getD_some]
  have hi1:1≤i:=by
   rcases Nat.eq_zero_or_pos i with h | h
   ·subst h
    have:=H.zero
    dsimp only at this
    rw [h2] at this
    cases this
    exact absurd h3.symm hzero
   ·exact h
  refine ⟨H.wf,by simp [hl],H.zero,fun j b' hj hb'=> ?_,H.apart,fun j b' e' hj hb' he'=> ?_,fun b' e' hb' he'=> ?_,fun j e' hj he'=> ?_⟩
  ·obtain ⟨f,bf,ef,g1,g2,g3,g4,g5,g6,g7⟩:=H.from_ j b' hj hb'
   dsimp only at g3 g6 ⊢
   by_cases hf:f=n
   ·subst hf
    rw [he] at g6
    cases g6
    exact ⟨f,bf,_,g1,g2,g3,g4,g5,List.getElem?_set_self (by omega),List.mem_append_left _ g7⟩
   ·exact ⟨f,bf,ef,g1,g2,g3,g4,g5,by rw [List.getElem?_set_ne (fun h=>hf h.symm)]; exact g6,g7⟩
  ·dsimp only at he'
   rw [List.getElem?_set_ne (by omega)] at he'
   exact H.done j b' e' hj hb' he'
  ·dsimp only at he' hb'
   rw [List.getElem?_set_self (by omega)] at he'
   rw [hb] at hb'
   cases he'; cases hb'
   refine ⟨by rw [List.map_append,hcur.1]; rfl,fun x hx=> ?_⟩
   rcases List.mem_append.1 hx with h | h
   ·exact hcur.2 x h
   ·obtain rfl:=List.mem_singleton.1 h
    exact ⟨i,bi,rfl,hi1,h2,h3⟩
  ·dsimp only at he'
   rw [List.getElem?_set_ne (by omega)] at he'
   exact H.fresh j e' hj he'
 ·dsimp only
  rw [h1]
  dsimp only
  have hgE:FG E B.length (B++ [(nx p.2.2.1 b.2.1 s,clo p (nx p.2.2.1 b.2.1 s),(n:Int),s)]).length=E++ [[]] :=by unfold FG; rw [if_neg (by simp)]
  have he1:(E++ [[]])[n]? =some e:=Dh he
  rw [hgE,he1,Option.getD_some]
  obtain ⟨q1,q2,q3,q4,q5⟩:=H.grow hnl (x:=(nx p.2.2.1 b.2.1 s,clo p (nx p.2.2.1 b.2.1 s),(n:Int),s))
  have hgk:MU p.2.2.1 (nx p.2.2.1 b.2.1 s):=⟨fun y hy=>(Qs V (l:=b.2.1) (by rw [hc]; exact hgc.ok) s0 y hy).1,VH (by rw [hc]; exact hgc.up) s⟩
  generalize hX:(nx p.2.2.1 b.2.1 s,clo p (nx p.2.2.1 b.2.1 s),(n:Int),s)=X at *
  have X1:X.1=nx p.2.2.1 b.2.1 s:=by rw [← hX]
  have hlast:(B++ [X])[B.length]? =some X:=by rw [List.getElem?_append_right (Nat.le_refl _),Nat.sub_self]; rfl
  refine ⟨fun b' hb'=> ?_,by simp [hl],q2,fun j b' hj hb'=> ?_,fun i j bi bj hi hj hij=> ?_,fun j b' e' hj hb' he'=> ?_,fun b' e' hb' he'=> ?_,fun j e' hj he'=> ?_⟩
  ·rcases List.mem_append.1 hb' with h | h
   ·exact H.wf b' h
   ·obtain rfl:=List.mem_singleton.1 h
    rw [← hX]
    exact ⟨hgk,rfl⟩
  ·dsimp only at hb' ⊢
   rcases EZ hb' with h | ⟨hj',rfl⟩
   ·obtain ⟨f,bf,ef,g1,g2,g3,g4,g5,g6,g7⟩:=H.from_ j b' hj h
    dsimp only at g3 g6 ⊢
    by_cases hf:f=n
    ·subst hf
     rw [he] at g6
     cases g6
     exact ⟨f,bf,_,g1,g2,Dh g3,g4,g5,List.getElem?_set_self (by simp; omega),List.mem_append_left _ g7⟩
    ·exact ⟨f,bf,ef,g1,g2,Dh g3,g4,g5,by rw [List.getElem?_set_ne (fun h=>hf h.symm)]; exact Dh g6,g7⟩
   ·subst hj'
    refine ⟨n,b,_,hnl,by rw [← hX],Dh hb,by rw [← hX],by rw [← hX]; exact hs,List.getElem?_set_self (by simp; omega),List.mem_append_right _ ?_⟩
    rw [← hX]
    exact List.mem_singleton.2 rfl
  ·dsimp only at hi hj
   rcases EZ hi with a | ⟨a,a'⟩ <;>rcases EZ hj with c | ⟨c,c'⟩
   ·exact H.apart i j bi bj a c hij
   ·rw [c',X1] at hij
    exact absurd hij (h2 bi (List.mem_of_getElem? a))
   ·rw [a',X1] at hij
    exact absurd hij.symm (h2 bj (List.mem_of_getElem? c))
   ·omega
  ·dsimp only at he' hb'
   rw [List.getElem?_set_ne (by omega)] at he'
   exact q3 j b' e' hj hb' he'
  ·dsimp only at he' hb'
   rw [List.getElem?_set_self (by simp; omega)] at he'
   rw [Dh hb] at hb'
   cases he'; cases hb'
   have hc2:=q4 b e (Dh hb) he1
   refine ⟨by rw [List.map_append,hc2.1]; rfl,fun x hx=> ?_⟩
   rcases List.mem_append.1 hx with h | h
   ·exact hc2.2 x h
   ·obtain rfl:=List.mem_singleton.1 h
    exact ⟨B.length,X,rfl,by omega,hlast,X1⟩
  ·dsimp only at he'
   rw [List.getElem?_set_ne (by omega)] at he'
   exact q5 j e' hj he'
theorem NN {p:Ax} {b:dtK} {n:Nat} {s:Int} (y:BE): ∃l,(Gd p b n y s).1=y.1++l:=by
 unfold Gd
 rcases Ld p y.1 (nx p.2.2.1 b.2.1 s) (n:Int) s with ⟨i,bi,h1,_⟩ | ⟨h1,_⟩
 ·rw [h1]; exact ⟨[],by simp⟩
 ·rw [h1]; exact ⟨_,rfl⟩
theorem LE {p:Ax} {b:dtK} {n:Nat} : ∀(l:List Int) (y:BE),∃m,(MW p b n l y).1=y.1++m:=by
 intro l
 induction l with
 | nil=>intro y; exact ⟨[],by simp [MW]⟩
 | cons s l ih=>
  intro y
  obtain ⟨m1,h1⟩:=NN (p:=p) (b:=b) (n:=n) (s:=s) y
  obtain ⟨m2,h2⟩:=ih (Gd p b n y s)
  exact ⟨m1++m2,by rw [← List.append_assoc,← h1]; exact h2⟩
theorem Inv.fold {p:Ax} (V:VPp p) {n:Nat} {b:dtK} : ∀(l:List Int) {syms:List Int} {y:BE},Inv p n syms y→y.1[n]? =some b→(∀s ∈ l,s ∈ sy p.2.2.1 b.2.1)→Inv p n (syms++l) (MW p b n l y):=by
 intro l
 induction l with
 | nil=>intro syms y H hb _; rw [List.append_nil]; exact H
 | cons s l ih=>
  intro syms y H hb hl
  obtain ⟨B,E⟩:=y
  have h1:=H.edge V hb (hl s (by simp))
  obtain ⟨m,hm⟩:=NN (p:=p) (b:=b) (n:=n) (s:=s) (B,E)
  have h2:=ih h1 (by rw [hm,List.getElem?_append_left (BQ hb)]; exact hb) (fun x hx=>hl x (by simp [hx]))
  rw [List.append_assoc] at h2
  exact h2
theorem Inv.next {p:Ax} {n:Nat} {y:BE} {b:dtK} (hb:y.1[n]? =some b) (H:Inv p n (sy p.2.2.1 b.2.1) y):Inv p (n+1) [] y:=by
 refine ⟨H.wf,H.len,H.zero,H.from_,H.apart,fun j b' e hj hb' he=> ?_,fun b' e hb' he=> ?_,fun j e hj he=>H.fresh j e (by omega) he⟩
 ·rcases Nat.lt_succ_iff_lt_or_eq.1 hj with h | rfl
  ·exact H.done j b' e h hb' he
  ·rw [hb] at hb'
   cases hb'
   exact H.cur b e hb he
 ·have:=H.fresh (n+1) e (by omega) he
  subst this
  exact ⟨rfl,by simp⟩
theorem Inv.skip {p:Ax} {n:Nat} {syms:List Int} {y:BE} (hn:y.1.length≤n) (H:Inv p n syms y) (m:Nat) (hm:n≤m):Inv p m [] y:=by
 have hl:=H.len
 refine ⟨H.wf,H.len,H.zero,H.from_,H.apart,fun j b e hj hb he=>H.done j b e (by have:=BQ hb; omega) hb he,fun b e hb he=> ?_,fun j e hj he=> ?_⟩
 ·have:=BQ hb; omega
 ·have:=BQ he; omega
theorem N6 {p:Ax} (V:VPp p) (hp:1≤p.2.2.1.length): ∀n,Inv p n [] (stM p n):=by
 intro n
 induction n with
 | zero=>
  have hg:MU p.2.2.1 k0:=⟨fun x hx=>by
   obtain rfl:=List.mem_singleton.1 hx
   exact ⟨by decide,by decide,p.2.2.1[0],List.getElem?_eq_getElem (by omega),by simp⟩,by simp⟩
  have one: ∀(j:Nat) b,(stM p 0).1[j]? =some b→j=0:=fun j b h=>by
   have:=BQ h
   simp [stM] at this
   exact this
  refine ⟨fun b hb=> ?_,rfl,rfl,fun j b hj hb=> ?_,fun i j bi bj hi hj _=>by rw [one i bi hi,one j bj hj],fun j b e hj=>by omega,fun b e hb he=> ?_,fun j e hj he=> ?_⟩
  ·have:b=(k0,clo p k0, -1, -1):=List.mem_singleton.1 hb
   subst this
   exact ⟨hg,rfl⟩
  ·have:=one j b hb; omega
  ·have:e= [] :=by simpa [stM] using he.symm
   subst this
   exact ⟨rfl,by simp⟩
  ·have:=BQ he
   simp [stM] at this
   omega
 | succ n ih=>
  unfold stM
  cases h:(stM p n).1[n]? with
  | none=>exact ih.skip (List.getElem?_eq_none_iff.1 h) (n+1) (by omega)
  | some b=>
   have h2:=ih.fold V (sy p.2.2.1 b.2.1) h (fun s hs=>hs)
   refine Inv.next (b:=b) ?_ h2
   obtain ⟨m,hm⟩:=LE (p:=p) (b:=b) (n:=n) (sy p.2.2.1 b.2.1) (stM p n)
   rw [hm,List.getElem?_append_left (BQ h)]
   exact h
theorem UZ {p:Ax} (V:VPp p) (hp:1≤p.2.2.1.length) {n m:Nat} {b:dtK} (hb:(stM p n).1[n]? =some b):Inv p n ((sy p.2.2.1 b.2.1).take m) (mid p n m)∧(mid p n m).1[n]? =some b:=by
 have H:=(N6 V hp n).fold V ((sy p.2.2.1 b.2.1).take m) hb (fun s hs=>List.mem_of_mem_take hs)
 obtain ⟨l,hl⟩:=LE (p:=p) (b:=b) (n:=n) ((sy p.2.2.1 b.2.1).take m) (stM p n)
 unfold mid
 rw [hb]
 exact ⟨H,by rw [hl,List.getElem?_append_left (BQ hb)]; exact hb⟩
theorem TQ {p:Ax} {n m:Nat} {b:dtK} {s:Int} (hb:(stM p n).1[n]? =some b) (hs:(sy p.2.2.1 b.2.1)[m]? =some s):mid p n (m+1)=Gd p b n (mid p n m) s:=by
 unfold mid
 rw [hb]
 dsimp only
 rw [List.take_add_one,hs]
 unfold MW
 rw [List.foldl_append]
 rfl
theorem Qt {p:Ax} {n:Nat} {b:dtK} (hb:(stM p n).1[n]? =some b):mid p n (sy p.2.2.1 b.2.1).length=stM p (n+1):=by
 unfold mid
 rw [stM]
 rw [hb]
 dsimp only
 rw [List.take_of_length_le (Nat.le_refl _)]
theorem Qu {α:Type} {o:Option α} {P:α→Prop} (h:Ok (o.bind some) P):Ok o P:=by
 cases o with
 | none=>exact h
 | some x=>exact h
def tot (B:List dtK):Nat:=(B.map (·.2.1.length)).sum
theorem Qv (B C:List dtK):tot (B++C)=tot B+tot C:=by unfold tot; rw [List.map_append,List.sum_append]
def Fit (L M:Int) (B:List dtK):Prop:=((B.length:Nat):Int) ≤L∧((tot B:Nat):Int) ≤M
theorem Fit.of_app {L M:Int} {B C:List dtK} (h:Fit L M (B++C)):Fit L M B:=by
 unfold Fit at *
 rw [Qv,List.length_append] at h
 omega
structure Lh (L M:Int) (fd:Fd) (rm cl:CO) (B:List dtK):Prop where
 map: ∀k,I64 k→BH (QF k) fd=(B.findIdx? (fun b=>decide (b.1=k))).map (fun n:Nat=>(n:Int))
 rlim:rm.1=L
 rused:rm.2.1=((B.length:Nat):Int)
 clim:cl.1=M
 cused:cl.2.1=((tot B:Nat):Int)
theorem Qw {m:CO} {n:Int} (h0:0≤n) (h1:n≤1000000) (h2:0≤m.2.1) (h3:m.2.1≤m.1) (h4:m.1≤1099511627776):
 Ok (B7 m n) fun t=>(n≤m.1 - m.2.1→t.1=0∧t.2.1=m.1∧t.2.2.1=m.2.1+n)∧(m.1 - m.2.1<n→t.1=5∧t.2=m):=by
 unfold B7 Cx
 refine Al (decide_eq_false (by omega)) (AR rfl ?_)
 rw [w64 (show -9223372036854775808≤m.1 - m.2.1 by omega) (by omega),w64 (show -9223372036854775808≤m.2.1+n by omega) (by omega)]
 refine Ae (fun hc=>AG ?_) fun hc=>AG ?_
 ·have:=of_decide_eq_true hc
  exact ⟨fun h=>by omega,fun _=>⟨rfl,rfl⟩⟩
 ·have:=of_decide_eq_false hc
  exact ⟨fun _=>⟨rfl,rfl,rfl⟩,fun h=>by omega⟩
theorem Rn {B:List dtK} {x:dtK} {k:List Item} (h: ∀b ∈ B,b.1 ≠ x.1):(B++ [x]).findIdx? (fun b=>decide (b.1=k))=if k=x.1 then some B.length else B.findIdx? (fun b=>decide (b.1=k)):=by
 rw [List.findIdx?_append]
 by_cases e:k=x.1
 ·rw [if_pos e]
  have:B.findIdx? (fun b=>decide (b.1=k))=none:=List.findIdx?_eq_none_iff.2 fun b hb=>decide_eq_false (by rw [e]; exact h b hb)
  rw [this]
  simp [e]
 ·rw [if_neg e]
  have: [x].findIdx? (fun b=>decide (b.1=k))=none:=List.findIdx?_eq_none_iff.2 fun b hb=>decide_eq_false (by
   obtain rfl:=List.mem_singleton.1 hb
   exact fun h=>e h.symm)
  rw [this]
  simp
theorem add_ok {p:Ax} (V:VPp p) {L M:Int} {fd:Fd} {rm cl:CO} {B:List dtK} {k:List Item} {fr wi:Int} (C:Lh L M fd rm cl B) (F:Fit L M B) (hL:L≤1099511627776) (hM:M≤1099511627776) (g:MU p.2.2.1 k) (hB:B.length<1073741824):
 Ok (Ri p fd B rm cl k fr wi) fun r=>r.1=(((FV p B k fr wi).1:Nat):Int)∧r.2.2.2.1=(FV p B k fr wi).2∧(Fit L M (FV p B k fr wi).2→r.2.1=0∧Lh L M r.2.2.1 r.2.2.2.2.1 r.2.2.2.2.2 (FV p B k fr wi).2)∧(¬Fit L M (FV p B k fr wi).2→r.2.1=5):=by
 have hi:=OkI.i64 V g.ok
 have hkl:=JI V g.ok (Lt.nodup g.up)
 obtain ⟨c1,c2,c3,c4⟩:=MV V g
 have hm:=C.map k hi
 unfold Ri
 refine AR (Vt hi (by omega)) ?_
 unfold FV
 cases hf:B.findIdx? (fun b=>decide (b.1=k)) with
 | some i=>
  rw [hf] at hm
  rw [hm]
  exact Cg rfl (AG ⟨rfl,rfl,fun _=>⟨rfl,C⟩,fun h=>absurd F h⟩)
 | none=>
  rw [hf] at hm
  have hno: ∀b ∈ B,b.1 ≠ k:=fun b hb=>of_decide_eq_false (List.findIdx?_eq_none_iff.1 hf b hb)
  rw [hm]
  have hLB:=F.1
  have hMB:=F.2
  refine Al rfl (AR c1 ?_)
  refine AO (Qw (m:=rm) (n:=1) (by decide) (by decide) (by rw [C.rused]; omega) (by rw [C.rused,C.rlim]; exact hLB) (by rw [C.rlim]; exact hL)) fun t ht=> ?_
  rw [C.rused,C.rlim] at ht
  have htot:tot (B++ [(k,clo p k,fr,wi)])=tot B+(clo p k).length:=by rw [Qv]; unfold tot; simp
  have hlen:(B++ [(k,clo p k,fr,wi)]).length=B.length+1:=by simp
  refine AO (Q:=fun (z:Int×CO)=>(Fit L M (B++ [(k,clo p k,fr,wi)])→t.1=0∧z.1=0∧z.2.1=M∧z.2.2.1=((tot B+(clo p k).length:Nat):Int))∧(¬Fit L M (B++ [(k,clo p k,fr,wi)])→z.1=5)) (Ae (fun hc=> ?_) fun hc=>AG ?_) fun z hz=> ?_
  ·refine AO (Qw (m:=cl) (n:=(((clo p k).length:Nat):Int)) (by omega) (by omega) (by rw [C.cused]; omega) (by rw [C.cused,C.clim]; exact hMB) (by rw [C.clim]; exact hM)) fun u hu=>AG ?_
   rw [C.cused,C.clim] at hu
   unfold Fit
   rw [htot,hlen]
   refine ⟨fun h=>⟨eq_of_beq hc,(hu.1 (by omega)).1,(hu.1 (by omega)).2.1,by rw [(hu.1 (by omega)).2.2]; omega⟩,fun h=> ?_⟩
   rcases Int.lt_or_le (M - (tot B:Int)) ((clo p k).length:Int) with q | q
   ·exact (hu.2 q).1
   ·exfalso
    refine h ⟨?_,by omega⟩
    rcases Int.lt_or_le (L - (B.length:Int)) 1 with w | w
    ·have:=(ht.2 w).1
     rw [this] at hc
     simp at hc
    ·omega
  ·unfold Fit
   rw [htot,hlen]
   have hc: ¬t.1=0:=by simpa using hc
   have hw:L - (B.length:Int) <1:=by
    rcases Int.lt_or_le (L - (B.length:Int)) 1 with w | w
    ·exact w
    ·exact absurd (ht.1 w).1 hc
   exact ⟨fun h=>by omega,fun _=>(ht.2 hw).1⟩
  ·refine Bp (by simp; omega) (AG ⟨?_,rfl,fun hF=> ?_,fun hF=>hz.2 hF⟩)
   ·dsimp only
    rw [hlen,w64 (by omega) (by omega)]
    omega
   ·obtain ⟨z1,z2,z3,z4⟩:=hz.1 hF
    have hF1:1≤L - (B.length:Int):=by unfold Fit at hF; rw [hlen] at hF; omega
    obtain ⟨t1,t2,t3⟩:=ht.1 hF1
    refine ⟨z2,fun k' hk'=> ?_,t2,by rw [t3,hlen]; omega,z3,by rw [z4,htot]⟩
    rw [CX,Rn (x:=(k,clo p k,fr,wi)) hno]
    by_cases e:k'=k
    ·rw [if_pos (by rw [e]),if_pos e]; rfl
    ·rw [if_neg (fun h=>e (TO h)),if_neg e]
     exact C.map k' hk'
theorem Ua {p:Ax} (V:VPp p) {L M:Int} {fd:Fd} {rm cl:CO} {B:List dtK} {E:List (List Edge)} {n:Nat} {syms:List Int} {b:dtK} {s:Int} (H:Inv p n syms (B,E)) (hb:B[n]? =some b) (hs:s ∈ sy p.2.2.1 b.2.1) (hsl:syms.length≤1000000)
 (C:Lh L M fd rm cl B) (F:Fit L M B) (hL:L≤1099511627776) (hM:M≤1099511627776) (hB:B.length<1073741824):
 Ok (Qq p b (n:Int) s (fd,B,E,rm,cl)) fun e=>(Fit L M (Gd p b n (B,E) s).1→ ∃fd' rm' cl',e= .next (fd',(Gd p b n (B,E) s).1,(Gd p b n (B,E) s).2,rm',cl')∧Lh L M fd' rm' cl' (Gd p b n (B,E) s).1)∧(¬Fit L M (Gd p b n (B,E) s).1→e= .done 5):=by
 obtain ⟨hg,hc⟩:=H.wf b (List.mem_of_getElem? hb)
 obtain ⟨_,_,hgc,hlc⟩:=MV V hg
 rw [← hc] at hgc hlc
 have s0:=(LD.1 hs).1
 have hgk:MU p.2.2.1 (nx p.2.2.1 b.2.1 s):=⟨fun y hy=>(Qs V hgc.ok s0 y hy).1,VH hgc.up s⟩
 have hl:=H.len
 dsimp only at hl
 have hnl:=BQ hb
 obtain ⟨e,he⟩: ∃e,E[n]? =some e:=⟨_,List.getElem?_eq_getElem (by omega)⟩
 have hel:e.length=syms.length:=by rw [← (H.cur b e hb he).1,List.length_map]
 unfold Qq
 refine AR (UY V hgc.ok (by omega) s) ?_
 refine AO (add_ok V C F hL hM hgk hB (fr:=(n:Int)) (wi:=s)) fun r hr=> ?_
 obtain ⟨r1,r2,r3,r4⟩:=hr
 obtain ⟨ri,re,rfd,rB,rrm,rcl⟩:=r
 dsimp only at r1 r2 r3 r4 ⊢
 subst r1 r2
 unfold Gd
 dsimp only
 by_cases hF:Fit L M (FV p B (nx p.2.2.1 b.2.1 s) (n:Int) s).2
 ·obtain ⟨h1,h2⟩:=r3 hF
  subst h1
  have hgr:(FG E B.length (FV p B (nx p.2.2.1 b.2.1 s) (n:Int) s).2.length)[n]? =some e:=by
   unfold FG
   split
   ·exact he
   ·exact Dh he
  refine Al rfl (AZ hgr (Bp (by simp; omega) (HX (by omega) (by have:=BQ hgr; omega) (AG ⟨fun _=>⟨rfd,rrm,rcl,?_,h2⟩,fun h=>absurd hF h⟩))))
  rw [hgr,Int.toNat_natCast]
  rfl
 ·have h1:=r4 hF
  subst h1
  exact Cg rfl (AG ⟨fun h=>absurd h hF,fun _=>rfl⟩)
def Vu (p:Ax) (L:Int):Prop:= ∀n m,(((mid p n m).1.length:Nat):Int) ≤L→(mid p n m).1.length<1073741824
theorem TR (p:Ax) (n m:Nat) {b:dtK} (hb:(stM p n).1[n]? =some b): ∃l,(stM p (n+1)).1=(mid p n m).1++l:=by
 rw [← Qt hb]
 unfold mid
 rw [hb]
 dsimp only
 rw [List.take_of_length_le (Nat.le_refl _)]
 conv=>rhs; intro l; lhs; rw [← List.take_append_drop m (sy p.2.2.1 b.2.1)]
 unfold MW
 rw [List.foldl_append]
 exact LE _ _
theorem TS {p:Ax} (V:VPp p) (hp:1≤p.2.2.1.length) {L M:Int} {fd:Fd} {rm cl:CO} {n:Nat} {b:dtK} (hb:(stM p n).1[n]? =some b) (C:Lh L M fd rm cl (stM p n).1) (F:Fit L M (stM p n).1) (hL:L≤1099511627776) (hM:M≤1099511627776) (hR:Vu p L):
 Ok (N3 p b (n:Int) (fd,(stM p n).1,(stM p n).2,rm,cl)) fun e=>(Fit L M (stM p (n+1)).1→ ∃fd' rm' cl',e= .next (fd',(stM p (n+1)).1,(stM p (n+1)).2,rm',cl')∧Lh L M fd' rm' cl' (stM p (n+1)).1)∧(¬Fit L M (stM p (n+1)).1→e= .done 5):=by
 have H:=N6 V hp n
 obtain ⟨hg,hc⟩:=H.wf b (List.mem_of_getElem? hb)
 obtain ⟨_,_,hgc,hlc⟩:=MV V hg
 rw [← hc] at hgc hlc
 have hsl:=TP p.2.2.1 b.2.1
 unfold N3
 refine AR (QI hgc.ok (by omega)) (Qu ?_)
 have hm0:mid p n 0=stM p n:=by unfold mid; rw [hb]; rfl
 refine F8 (fun m (y:BSt)=>y.2.1=(mid p n m).1∧y.2.2.1=(mid p n m).2∧Fit L M (mid p n m).1∧Lh L M y.1 y.2.2.2.1 y.2.2.2.2 (mid p n m).1) (fun q=>q=5∧ ¬Fit L M (stM p (n+1)).1) (by omega) ⟨by rw [hm0],by rw [hm0],by rw [hm0]; exact F,by rw [hm0]; exact C⟩ (fun m y hm hy=> ?_) (fun y hy=>AG ?_) fun q hq=>AG ⟨fun h=>absurd h hq.2,fun _=>by rw [hq.1]⟩
 ·obtain ⟨fd,B,E,rm,cl⟩:=y
  obtain ⟨e1,e2,hF,hC⟩:=hy
  dsimp only at e1 e2 hC ⊢
  obtain ⟨hI,hbm⟩:=UZ V hp hb (m:=m)
  have hs:=List.getElem?_eq_getElem hm
  have hsm:=List.getElem_mem hm
  have hsucc:=TQ hb hs
  have hroom:=hR n m hF.1
  refine AZ hs ?_
  subst e1 e2
  refine (Ua (B:=(mid p n m).1) (E:=(mid p n m).2) V hI hbm hsm (by rw [List.length_take]; omega) hC hF hL hM hroom).mono fun e he=> ?_
  have e3:Gd p b n ((mid p n m).1,(mid p n m).2) (sy p.2.2.1 b.2.1)[m] =mid p n (m+1):=hsucc.symm
  rw [e3] at he
  by_cases hF2:Fit L M (mid p n (m+1)).1
  ·obtain ⟨fd',rm',cl',h1,h2⟩:=he.1 hF2
   exact .inl ⟨_,h1,rfl,rfl,hF2,h2⟩
  ·refine .inr ⟨5,he.2 hF2,rfl,fun h=>hF2 ?_⟩
   obtain ⟨l,hl⟩:=TR p n (m+1) hb
   rw [hl] at h
   exact h.of_app
 ·obtain ⟨fd,B,E,rm,cl⟩:=y
  obtain ⟨e1,e2,hF,hC⟩:=hy
  dsimp only at e1 e2 hC
  rw [Qt hb] at e1 e2 hF hC
  subst e1 e2
  exact ⟨fun _=>⟨fd,rm,cl,rfl,hC⟩,fun h=>absurd hF h⟩
theorem Rp {p:Ax} (V:VPp p) (hp:1≤p.2.2.1.length) {L M:Int} {fd:Fd} {rm cl:CO} (C:Lh L M fd rm cl (stM p 0).1) (F:Fit L M (stM p 0).1) (hL:L≤1099511627776) (hM:M≤1099511627776) (hR:Vu p L):
 Ok (Ln p (fd,(stM p 0).1,(stM p 0).2,rm,cl)) fun e=>(∃n fd' rm' cl',e= .next (fd',(stM p n).1,(stM p n).2,rm',cl')∧(stM p n).1.length≤n∧Fit L M (stM p n).1∧Lh L M fd' rm' cl' (stM p n).1)∨(e= .done 5∧ ∃n,¬Fit L M (stM p n).1):=by
 unfold Ln
 refine Qu (De (fun (z:Int×BSt)=> ∃n:Nat,z.1=(n:Int)∧z.2.2.1=(stM p n).1∧z.2.2.2.1=(stM p n).2∧Fit L M (stM p n).1∧Lh L M z.2.1 z.2.2.2.2.1 z.2.2.2.2.2 (stM p n).1) (fun z=>(L+1 - z.1).toNat) (fun e=>(∃n fd' rm' cl',e= .next (fd',(stM p n).1,(stM p n).2,rm',cl')∧(stM p n).1.length≤n∧Fit L M (stM p n).1∧Lh L M fd' rm' cl' (stM p n).1)∨(e= .done 5∧ ∃n,¬Fit L M (stM p n).1)) ⟨0,rfl,rfl,rfl,F,C⟩ (fun z hz=> ?_) fun e he=>AG he)
 obtain ⟨i,fd,B,E,rm,cl⟩:=z
 obtain ⟨n,e0,e1,e2,hF,hC⟩:=hz
 dsimp only at e0 e1 e2 hC ⊢
 subst e0 e1 e2
 refine Ae (fun hc=> ?_) fun hc=>Bs (.inl ⟨n,fd,rm,cl,rfl,?_,hF,hC⟩)
 ·have hc:=of_decide_eq_true hc
  have hn:n< (stM p n).1.length:=by omega
  have hb:=List.getElem?_eq_getElem hn
  refine AZ hb (AO (TS V hp hb hC hF hL hM hR) fun e he=> ?_)
  have hFL:=hF.1
  by_cases hF2:Fit L M (stM p (n+1)).1
  ·obtain ⟨fd',rm',cl',h1,h2⟩:=he.1 hF2
   subst h1
   have hw:IntKind.wrap .i64 ((n:Int) +1)=((n+1:Nat):Int):=by rw [w64 (by omega) (by omega)]; omega
   refine CJ ⟨⟨n+1,hw,rfl,rfl,hF2,h2⟩,?_⟩
   dsimp only
   rw [hw]
   omega
  ·have:=he.2 hF2
   subst this
   exact Bs (.inr ⟨rfl,n+1,hF2⟩)
 ·have:=of_decide_eq_false hc
  omega
def held (n:Int):Int:=if n<0 then 0 else if n>1099511627776 then 1099511627776 else n
theorem new_ok (n:Int):EB n=some (held n,0,0):=by
 refine Ok.eq ?_
 unfold EB Fh
 refine AR rfl (AG ?_)
 refine Prod.ext ?_ rfl
 dsimp only
 unfold held
 split<;>split<;>(try split) <;>(try split) <;>omega
theorem Qx (n:Int):0≤held n∧held n≤1099511627776:=by unfold held; split<;>(try split) <;>omega
noncomputable def Vv (p:Ax) (n:Nat):DN:=(p.1,p.2.1,p.2.2.1,p.2.2.2.1,p.2.2.2.2.1,p.2.2.2.2.2,D9 (stM p n).1 (stM p n).2,((tot (stM p n).1:Nat):Int))
theorem TU {p:Ax} (V:VPp p) (hp:1≤p.2.2.1.length) {st it:Int} (hR:Vu p (held st)):
 Ok (MQ p st it) fun r=>(∃n,(stM p n).1.length≤n∧Fit (held st) (held it) (stM p n).1∧r=(some (Vv p n),0))∨(r=(none,5)∧ ∃n,¬Fit (held st) (held it) (stM p n).1):=by
 unfold MQ
 have hs:=Qx st
 have hi:=Qx it
 have hg:=(N6 V hp 0).wf (k0,clo p k0, -1, -1) (List.mem_singleton.2 rfl)
 have C0:Lh (held st) (held it) [] (held st,0,0) (held it,0,0) [] :=⟨fun k _=>rfl,rfl,rfl,rfl,rfl⟩
 refine AR (new_ok st) (AR (new_ok it) (AO (add_ok V C0 ⟨hs.1,hi.1⟩ hs.2 hi.2 hg.1 (by simp)) fun r hr=> ?_))
 obtain ⟨r1,r2,r3,r4⟩:=hr
 have e:FV p [] k0 (-1) (-1)=(0,(stM p 0).1):=rfl
 rw [e] at r1 r2 r3 r4
 obtain ⟨ri,re,rfd,rB,rrm,rcl⟩:=r
 dsimp only at r1 r2 r3 r4 ⊢
 subst r2
 by_cases hF:Fit (held st) (held it) (stM p 0).1
 ·obtain ⟨h1,h2⟩:=r3 hF
  subst h1
  refine Al rfl (AO (Rp V hp h2 hF hs.2 hi.2 hR) fun e he=> ?_)
  rcases he with ⟨n,fd',rm',cl',rfl,h3,h4,h5⟩ | ⟨rfl,n,hn⟩
  ·refine AR (x:=((tot (stM p n).1:Nat):Int)) (by unfold Cy; exact congrArg some h5.cused) (AG (.inl ⟨n,h3,h4,rfl⟩))
  ·exact AG (.inr ⟨rfl,n,hn⟩)
 ·have:=r4 hF
  subst this
  exact Cg rfl (AG (.inr ⟨rfl,0,hF⟩))
theorem Pl.vp {nt nl:Nat} {p:Ax} (H:Pl nt nl p):VPp p:=by
 have hT:=H.terms.len
 obtain ⟨st,s1,s2,s3⟩:=H.first
 have each: ∀r ∈ p.2.2.1,((nt+1:Nat):Int) ≤r.1∧r.2.1.length≤5∧ ∀s ∈ r.2.1,0≤s:=fun r hr=>by
  obtain ⟨k,hk⟩:=List.getElem?_of_mem hr
  rcases Nat.eq_zero_or_pos k with rfl | h
  ·rw [s3] at hk
   cases hk
   refine ⟨by dsimp only; omega,by simp,fun s hs=> ?_⟩
   have:s=st:=by simpa using hs
   omega
  ·have:=H.rules k r h hk
   exact ⟨this.left.1,this.few,fun s hs=>by have:=this.right s hs; omega⟩
 have:=H.room
 exact ⟨by omega,fun r hr=>by rw [hT]; exact (each r hr).1,fun r hr=>(each r hr).2.2,by omega,fun r hr=>by have:=(each r hr).2.1; omega⟩
theorem Pl.pos {nt nl:Nat} {p:Ax} (H:Pl nt nl p):1≤p.2.2.1.length:=H.room.1
structure Fin (p:Ax) (B:List dtK) (E:List (List Edge)):Prop where
 wf: ∀b ∈ B,MU p.2.2.1 b.1∧b.2.1=clo p b.1
 len:E.length=B.length
 zero:B[0]? =some (k0,clo p k0, -1, -1)
 from_: ∀(j:Nat) b,1≤j→B[j]? =some b→ ∃(f:Nat) (bf:dtK) (e:List Edge),f<j∧b.2.2.1=(f:Int)∧B[f]? =some bf∧b.1=nx p.2.2.1 bf.2.1 b.2.2.2∧b.2.2.2 ∈ sy p.2.2.1 bf.2.1∧E[f]? =some e∧(b.2.2.2,(j:Int)) ∈ e
 apart: ∀(i j:Nat) bi bj,B[i]? =some bi→B[j]? =some bj→bi.1=bj.1→i=j
 done: ∀(j:Nat) b e,B[j]? =some b→E[j]? =some e→Ge p.2.2.1 B b (sy p.2.2.1 b.2.1) e
theorem Vw {p:Ax} (V:VPp p) (hp:1≤p.2.2.1.length) {n:Nat} (h:(stM p n).1.length≤n):Fin p (stM p n).1 (stM p n).2:=by
 have H:=N6 V hp n
 exact ⟨H.wf,H.len,H.zero,H.from_,H.apart,fun j b e hb he=>H.done j b e (by have:=BQ hb; omega) hb he⟩
abbrev DH (p:Ax) (B:List dtK) (E:List (List Edge)) (t:Int):DN:=(p.1,p.2.1,p.2.2.1,p.2.2.2.1,p.2.2.2.2.1,p.2.2.2.2.2,D9 B E,t)
section
variable {p:Ax} {B:List dtK} {E:List (List Edge)} {t:Int}
theorem LF (H:Fin p B E):BW (DH p B E t)=some ((B.length:Nat):Int):=by
 unfold BW
 rw [Dx H.len]
theorem Vx {j:Nat} {b:dtK} {e:List Edge} (hb:B[j]? =some b) (he:E[j]? =some e):(D9 B E)[j]? =some (Kj b e):=by
 unfold D9
 rw [List.getElem?_zipWith,hb,he]
theorem TV (H:Fin p B E) {j:Nat} {b:dtK} {e:List Edge} (hb:B[j]? =some b) (he:E[j]? =some e):B9 (DH p B E t) (j:Int)=some (Kj b e):=by
 refine Ok.eq ?_
 have:=BQ hb
 unfold B9
 refine AO (Q:=fun c=>c=false) (Al (decide_eq_false (by omega)) (AG (decide_eq_false (by rw [Dx H.len]; omega)))) fun c hc=> ?_
 subst hc
 exact Al rfl (AZ (Vx hb he) (AG rfl))
theorem Fin.edge (H:Fin p B E) {j:Nat} {b:dtK} (hb:B[j]? =some b): ∃e,E[j]? =some e:=⟨_,List.getElem?_eq_getElem (by have:=BQ hb; have:=H.len; omega)⟩
theorem Fin.good (V:VPp p) (H:Fin p B E) {j:Nat} {b:dtK} (hb:B[j]? =some b):MU p.2.2.1 b.1∧MU p.2.2.1 b.2.1∧N5 p.2.2.1 b.1 b.2.1∧b.1.length≤10100∧b.2.1.length≤10100:=by
 obtain ⟨h1,h2⟩:=H.wf b (List.mem_of_getElem? hb)
 obtain ⟨_,c1,c2,c3⟩:=MV V h1
 rw [← h2] at c1 c2 c3
 exact ⟨h1,c2,c1,JI V h1.ok (Lt.nodup h1.up),c3⟩
theorem MX (V:VPp p) (H:Fin p B E) {j:Nat} {b:dtK} (hb:B[j]? =some b):Bf (DH p B E t) (j:Int)=some b.2.1:=by
 obtain ⟨e,he⟩:=H.edge hb
 have:=(H.good V hb).2.2.2.2
 refine Ok.eq ?_
 unfold Bf
 exact AR (TV H hb he) (AR (x:=b.2.1) (by unfold cloneD; rw [if_pos (by dsimp only; omega)]) (AG rfl))
theorem Fin.edges_len (V:VPp p) (H:Fin p B E) {j:Nat} {b:dtK} {e:List Edge} (hb:B[j]? =some b) (he:E[j]? =some e):e.length≤10100:=by
 have h1:=(H.done j b e hb he).1
 have h2:=TP p.2.2.1 b.2.1
 have h3:=(H.good V hb).2.2.2.2
 rw [← h1,List.length_map] at h2
 omega
theorem O7 (V:VPp p) (H:Fin p B E) {j:Nat} {b:dtK} {e:List Edge} (hb:B[j]? =some b) (he:E[j]? =some e):Bx (DH p B E t) (j:Int)=some e:=by
 have:=H.edges_len V hb he
 refine Ok.eq ?_
 unfold Bx
 exact AR (TV H hb he) (AR (x:=e) (by unfold cloneD; rw [if_pos (by dsimp only; omega)]) (AG rfl))
def IB (R:Rl) (B:List dtK) (b:dtK) (e:List Edge) (s t:Int):Prop:=
 (s ∈ sy R b.2.1∧ ∃(q:Nat) (bt:dtK),t=(q:Int)∧1≤q∧B[q]? =some bt∧bt.1=nx R b.2.1 s∧(s,t) ∈ e)∨(s ∉ sy R b.2.1∧t= -1)
theorem TW (V:VPp p) (H:Fin p B E) {j:Nat} {b:dtK} {e:List Edge} (hb:B[j]? =some b) (he:E[j]? =some e) (s:Int):Ok (BO (DH p B E t) (j:Int) s) (IB p.2.2.1 B b e s):=by
 have hl:=H.edges_len V hb he
 have hd:=H.done j b e hb he
 unfold BO
 refine AR (TV H hb he) ?_
 refine KT e (fun _ x=>x.1==s) (fun _ x=>x.2) (by omega) (fun k x hx=> ?_) (fun hn=>AG (.inr ⟨fun hs=> ?_,rfl⟩)) fun k x hx hq _=>AG (.inl ?_)
 ·rw [Cq,hx,Option.bind_some]
  cases x.1==s<;>rfl
 ·rw [← hd.1] at hs
  obtain ⟨x,hx,hxs⟩:=List.mem_map.1 hs
  obtain ⟨k,hk⟩:=List.getElem?_of_mem hx
  have:=hn k x hk
  rw [hxs] at this
  simp at this
 ·have hxs:x.1=s:=eq_of_beq hq
  have hm:=List.mem_of_getElem? hx
  obtain ⟨q,bt,h1,h2,h3,h4⟩:=hd.2 x hm
  rw [hxs] at h4
  refine ⟨by rw [← hd.1,← hxs]; exact List.mem_map.2 ⟨x,hm,rfl⟩,q,bt,h1,h2,h3,h4,?_⟩
  rw [← hxs]
  exact hm
theorem IB.unique (H:Fin p B E) {b:dtK} {e:List Edge} {s t1 t2:Int} (h1:IB p.2.2.1 B b e s t1) (h2:IB p.2.2.1 B b e s t2):t1=t2:=by
 rcases h1 with ⟨a1,q1,b1,c1,d1,e1,f1,_⟩ | ⟨a1,c1⟩ <;>rcases h2 with ⟨a2,q2,b2,c2,d2,e2,f2,_⟩ | ⟨a2,c2⟩
 ·rw [c1,c2,H.apart q1 q2 b1 b2 e1 e2 (by rw [f1,f2])]
 ·exact absurd a1 a2
 ·exact absurd a2 a1
 ·rw [c1,c2]
inductive Walk (R:Rl) (B:List dtK) (E:List (List Edge)):Int→List Int→Int→Prop
 | nil (j:Int):Walk R B E j [] j
 | stop {j:Nat} {b:dtK} {e:List Edge} {s:Int} {l:List Int} :B[j]? =some b→E[j]? =some e→IB R B b e s (-1)→Walk R B E j (s::l) (-1)
 | step {j q:Nat} {b:dtK} {e:List Edge} {s:Int} {l:List Int} {t:Int} :B[j]? =some b→E[j]? =some e→IB R B b e s (q:Int)→q<B.length→Walk R B E (q:Int) l t→Walk R B E j (s::l) t
theorem Walk.unique (H:Fin p B E): ∀ {l:List Int} {j t1 t2:Int},Walk p.2.2.1 B E j l t1→Walk p.2.2.1 B E j l t2→t1=t2:=by
 intro l
 induction l with
 | nil=>intro j t1 t2 h1 h2; cases h1; cases h2; rfl
 | cons s l ih=>
  intro j t1 t2 h1 h2
  cases h1 with
  | @stop j b e _ _ a1 a2 a3=>
   generalize hj:(j:Int)=j' at h2
   cases h2 with
   | stop=>rfl
   | @step j2 q b2 e2 _ _ _ c1 c2 c3 c4 c5=>
    have:j2=j:=by omega
    subst this
    rw [a1] at c1; rw [a2] at c2; cases c1; cases c2
    have:=IB.unique H a3 c3
    omega
  | @step j q b e _ _ _ a1 a2 a3 a4 a5=>
   generalize hj:(j:Int)=j' at h2
   cases h2 with
   | @stop j2 b2 e2 _ _ c1 c2 c3=>
    have:j2=j:=by omega
    subst this
    rw [a1] at c1; rw [a2] at c2; cases c1; cases c2
    have:=IB.unique H a3 c3
    omega
   | @step j2 q2 b2 e2 _ _ _ c1 c2 c3 c4 c5=>
    have:j2=j:=by omega
    subst this
    rw [a1] at c1; rw [a2] at c2; cases c1; cases c2
    have:=IB.unique H a3 c3
    have:q2=q:=by omega
    subst this
    exact ih a5 c5
theorem Walk.snoc {l:List Int} : ∀ {j:Int} {q r:Nat} {b:dtK} {e:List Edge} {s:Int},Walk p.2.2.1 B E j l (q:Int)→B[q]? =some b→E[q]? =some e→IB p.2.2.1 B b e s (r:Int)→r<B.length→Walk p.2.2.1 B E j (l++ [s]) (r:Int):=by
 induction l with
 | nil=>
  intro j q r b e s h hb he hg hr
  generalize hq:(q:Int)=q' at h
  cases h
  subst hq
  exact .step hb he hg hr (.nil _)
 | cons x l ih=>
  intro j q r b e s h hb he hg hr
  generalize hq:(q:Int)=q' at h
  cases h with
  | stop=>omega
  | step a1 a2 a3 a4 a5=>
   subst hq
   exact .step a1 a2 a3 a4 (ih a5 hb he hg hr)
theorem Walk.stops {l:List Int} : ∀ {j:Int} {q:Nat} {b:dtK} {e:List Edge} {s:Int},Walk p.2.2.1 B E j l (q:Int)→B[q]? =some b→E[q]? =some e→IB p.2.2.1 B b e s (-1)→ ∀m,Walk p.2.2.1 B E j (l++s::m) (-1):=by
 induction l with
 | nil=>
  intro j q b e s h hb he hg m
  generalize hq:(q:Int)=q' at h
  cases h
  subst hq
  exact .stop hb he hg
 | cons x l ih=>
  intro j q b e s h hb he hg m
  generalize hq:(q:Int)=q' at h
  cases h with
  | stop=>omega
  | step a1 a2 a3 a4 a5=>
   subst hq
   exact .step a1 a2 a3 a4 (ih a5 hb he hg m)
theorem Qy (V:VPp p) (H:Fin p B E) {j:Nat} (hj:j<B.length) {l:List Int} (hl:l.length≤1000000):Ok (Bl (DH p B E t) (j:Int) l) fun r=>Walk p.2.2.1 B E (j:Int) l r∧(r= -1∨ ∃q:Nat,r=(q:Int)∧q<B.length):=by
 unfold Bl
 refine AO (Q:=fun c=>c=false) (Al (decide_eq_false (by omega)) (AG (decide_eq_false (by rw [Dx H.len]; omega)))) fun c hc=> ?_
 subst hc
 refine Al rfl ?_
 have key:Ok ((Cv (σ:=Int) (β:=Int) (0:Int) (((List.length l):Nat):Int) (j:Int) fun i_z5 z5=>
  (idx l i_z5).bind fun e59=>
  (BO (DH p B E t) z5 e59).bind fun t8=>
  cond (decide (t8< (0:Int)))
  (some (AW.done t8))
  (some (AW.next t8))).bind some) (fun r=>Walk p.2.2.1 B E (j:Int) l (AW.get r)∧(AW.get r= -1∨ ∃q:Nat,AW.get r=(q:Int)∧q<B.length)):=by
  refine F8 (fun k (z:Int)=> ∃q:Nat,z=(q:Int)∧q<B.length∧Walk p.2.2.1 B E (j:Int) (l.take k) (q:Int)) (fun r=>r= -1∧Walk p.2.2.1 B E (j:Int) l (-1)) (by omega) ⟨j,rfl,hj, .nil _⟩ (fun k z hk hz=> ?_) (fun z hz=>AG ?_) fun r hr=>AG ⟨by show Walk p.2.2.1 B E (j:Int) l r; rw [hr.1]; exact hr.2, .inl hr.1⟩
  ·obtain ⟨q,rfl,hq,hw⟩:=hz
   have hx:=List.getElem?_eq_getElem hk
   have hb:=List.getElem?_eq_getElem hq
   obtain ⟨e,he⟩:=H.edge hb
   refine AZ hx (AO (TW V H hb he l[k]) fun t ht=> ?_)
   have htt:=ht
   rcases ht with ⟨_,r,bt,h1,h2,h3,_⟩ | ⟨_,h1⟩
   ·subst h1
    have hr:=BQ h3
    refine Al (decide_eq_false (by omega)) (CJ ⟨r,rfl,hr,?_⟩)
    rw [List.take_add_one,hx]
    exact hw.snoc hb he htt hr
   ·subst h1
    refine Cg rfl (Bs ⟨rfl,?_⟩)
    have:=hw.stops hb he htt (l.drop (k+1))
    rw [show l[k] ::l.drop (k+1)=l.drop k from (List.drop_eq_getElem_cons hk).symm,List.take_append_drop] at this
    exact this
  ·obtain ⟨q,rfl,hq,hw⟩:=hz
   rw [List.take_of_length_le (Nat.le_refl _)] at hw
   exact ⟨hw, .inr ⟨q,rfl,hq⟩⟩
 obtain ⟨r,h1,h2⟩:=key
 rw [show ∀o:Option (AW Int Int),o.bind some=o from fun o=>by cases o<;>rfl] at h1
 refine AO (Q:=fun r=>Walk p.2.2.1 B E (j:Int) l r∧(r= -1∨ ∃q:Nat,r=(q:Int)∧q<B.length)) ⟨AW.get r,?_,h2⟩ fun x hx=>AG hx
 rw [h1]
 rfl
end
inductive Nul (R:Rl):Int→Prop
 | rule {r:BA} :r ∈ R→(∀s ∈ r.2.1,Nul R s)→Nul R r.1
inductive Pro (nT:Int) (R:Rl):Int→Prop
 | term {s:Int} :0≤s→s<nT→Pro nT R s
 | rule {r:BA} :r ∈ R→(∀s ∈ r.2.1,Pro nT R s)→Pro nT R r.1
structure Gr (nT:Int) (R:Rl):Prop where
 pos:0<nT
 zero: ∃r st,R[0]? =some r∧r.2.1= [st] ∧nT≤st∧(∀r' ∈ R,r.1 ∉ r'.2.1)∧ ∀k r',R[k]? =some r'→r'.1=r.1→k=0
 left: ∀r ∈ R,nT≤r.1
 right: ∀r ∈ R,∀s ∈ r.2.1,0<s
 pro: ∀r ∈ R,∀s ∈ r.2.1,Pro nT R s
def Pth (Tr:Nat→Int→Nat→Prop):Nat→List Int→Nat→Prop
 | n, [],m=>n=m
 | n,s::l,m=> ∃q,Tr n s q∧Pth Tr q l m
theorem Pth.app {Tr:Nat→Int→Nat→Prop} : ∀ {l l':List Int} {n m:Nat},Pth Tr n (l++l') m ↔ ∃q,Pth Tr n l q∧Pth Tr q l' m:=by
 intro l
 induction l with
 | nil=>intro l' n m; exact ⟨fun h=>⟨n,rfl,h⟩,fun ⟨q,h1,h2⟩=>by cases h1; exact h2⟩
 | cons s l ih=>
  intro l' n m
  constructor
  ·rintro ⟨q,h1,h2⟩
   obtain ⟨p,h3,h4⟩:=ih.1 h2
   exact ⟨p,⟨q,h1,h3⟩,h4⟩
  ·rintro ⟨p,⟨q,h1,h3⟩,h4⟩
   exact ⟨q,h1,ih.2 ⟨p,h3,h4⟩⟩
structure Aut (R:Rl) (S:Nat→Prop) (K:Nat→List Item) (Tr:Nat→Int→Nat→Prop):Prop where
 ok: ∀ {n x},S n→x ∈ K n→OkI R x
 kern: ∀ {n x},S n→x ∈ K n→(x=(0,0)∧n=0)∨1≤x.2
 zero: ∀x,x ∈ K 0 ↔ x=(0,0)
 s0:S 0
 st: ∀ {n s m},Tr n s m→S n∧S m∧1≤m∧0≤s
 go: ∀ {n x},S n→Cl R (K n) x→0≤beh R x→ ∃m,Tr n (beh R x) m
 into: ∀ {n s m x},Tr n s m→(x ∈ K m ↔ ∃y,Cl R (K n) y∧beh R y=s∧x=(y.1,y.2+1))
 some_: ∀ {n s m},Tr n s m→ ∃y,Cl R (K n) y∧beh R y=s
 fn: ∀ {n s m m'},Tr n s m→Tr n s m'→m=m'
 reach: ∀ {n},S n→ ∃l,Pth Tr 0 l n
def It (R:Rl) (K:Nat→List Item) (n k d:Nat):Prop:=Cl R (K n) ((k:Int),(d:Int))
theorem Kk (R:Rl) (k d:Nat) {r:BA} (h:R[k]? =some r):beh R ((k:Int),(d:Int))=(r.2.1[d]?).getD (-1):=by
 unfold beh
 dsimp only
 rw [Int.toNat_natCast,Int.toNat_natCast,h]
theorem MY {nT:Int} {R:Rl} (G:Gr nT R) {k d:Nat} {s:Int} (h:beh R ((k:Int),(d:Int))=s) (hs:0≤s): ∃r,R[k]? =some r∧r.2.1[d]? =some s:=by
 cases hr:R[k]? with
 | none=>unfold beh at h; dsimp only at h; rw [Int.toNat_natCast,hr] at h; dsimp only at h; omega
 | some r=>
  rw [Kk R k d hr] at h
  refine ⟨r,rfl,?_⟩
  cases hd:r.2.1[d]? with
  | none=>rw [hd] at h; simp at h; omega
  | some x=>rw [hd] at h; simp at h; rw [h]
section
variable {nT:Int} {R:Rl} {S:Nat→Prop} {K:Nat→List Item} {Tr:Nat→Int→Nat→Prop}
theorem Aut.form (A:Aut R S K Tr) {n:Nat} (hn:S n) {x:Item} (h:Cl R (K n) x): ∃k d:Nat,x=((k:Int),(d:Int))∧It R K n k d∧ ∃r,R[k]? =some r∧d≤r.2.1.length:=by
 obtain ⟨h0,h1,r,h2,h3⟩:=Cl.ok (fun x hx=>A.ok hn hx) h
 have e:x=((x.1.toNat:Int),(x.2.toNat:Int)):=Prod.ext (by simp only; omega) (by simp only; omega)
 exact ⟨x.1.toNat,x.2.toNat,e,by unfold It; rw [← e]; exact h,r,h2,h3⟩
theorem Aut.step (G:Gr nT R) (A:Aut R S K Tr) {n k d:Nat} {r:BA} {s:Int} (hn:S n) (h:It R K n k d) (hr:R[k]? =some r) (hs:r.2.1[d]? =some s): ∃m,Tr n s m∧It R K m k (d+1):=by
 have hb:beh R ((k:Int),(d:Int))=s:=by rw [Kk R k d hr,hs]; rfl
 have h0:0<s:=G.right r (List.mem_of_getElem? hr) s (List.mem_of_getElem? hs)
 obtain ⟨m,hm⟩:=A.go hn h (by rw [hb]; omega)
 rw [hb] at hm
 exact ⟨m,hm, .base ((A.into hm).2 ⟨_,h,hb,rfl⟩)⟩
theorem Aut.clos {n k d j:Nat} {r r':BA} {s:Int} (h:It R K n k d) (hr:R[k]? =some r) (hs:r.2.1[d]? =some s) (hj:R[j]? =some r') (hl:r'.1=s):It R K n j 0:=
 .step h hj (by rw [Kk R k d hr,hs,hl]; rfl)
theorem Aut.back (G:Gr nT R) (A:Aut R S K Tr) {n m k d:Nat} {s:Int} (hm:Tr n s m) (h:It R K m k (d+1)):It R K n k d∧ ∃r,R[k]? =some r∧r.2.1[d]? =some s:=by
 unfold It at h
 generalize hx:(((k:Int),((d+1:Nat):Int)):Item)=x at h
 cases h with
 | base h=>
  obtain ⟨y,h1,h2,h3⟩:=(A.into hm).1 h
  subst hx
  obtain ⟨e1,e2⟩:=Prod.mk.inj h3
  have e:y=((k:Int),(d:Int)):=Prod.ext (by simp only; omega) (by simp only; omega)
  subst e
  exact ⟨h1,MY G h2 (A.st hm).2.2.2⟩
 | step _ _ _=>have:=(Prod.mk.inj hx).2; omega
theorem Aut.at0 (A:Aut R S K Tr) {l:List Int} {n m:Nat} (hn:S n) (h:Pth Tr n l m):S m:=by
 induction l generalizing n with
 | nil=>cases h; exact hn
 | cons s l ih=>obtain ⟨q,h1,h2⟩:=h; exact ih (A.st h1).2.1 h2
theorem Pth.fn (A:Aut R S K Tr) {l:List Int} {n m m':Nat} (h:Pth Tr n l m) (h':Pth Tr n l m'):m=m':=by
 induction l generalizing n with
 | nil=>cases h; cases h'; rfl
 | cons s l ih=>obtain ⟨q,h1,h2⟩:=h; obtain ⟨q',h1',h2'⟩:=h'; cases A.fn h1 h1'; exact ih h2 h2'
theorem Aut.along (G:Gr nT R) (A:Aut R S K Tr) {k:Nat} {r:BA} (hr:R[k]? =some r): ∀ {l:List Int} {n d:Nat},S n→It R K n k d→r.2.1.drop d=l→ ∃m,Pth Tr n l m∧It R K m k (d+l.length):=by
 intro l
 induction l with
 | nil=>intro n d _ h _; exact ⟨n,rfl,h⟩
 | cons s l ih=>
  intro n d hn h hd
  have hs:r.2.1[d]? =some s:=by
   have:=congrArg (fun l=>l[0]?) hd
   simpa using this
  obtain ⟨q,h1,h2⟩:=A.step G hn h hr hs
  obtain ⟨m,h3,h4⟩:=ih (d:=d+1) (A.st h1).2.1 h2 (by
   have:=congrArg (List.drop 1) hd
   simpa using this)
  exact ⟨m,⟨q,h1,h3⟩,by rw [List.length_cons,show d+(l.length+1)=d+1+l.length by omega]; exact h4⟩
theorem Aut.whole (G:Gr nT R) (A:Aut R S K Tr) {n m k:Nat} {r:BA} (hn:S n) (hr:R[k]? =some r) (h:It R K n k 0) (hp:Pth Tr n r.2.1 m):It R K m k r.2.1.length:=by
 obtain ⟨q,h1,h2⟩:=A.along G hr hn h (l:=r.2.1) rfl
 cases Pth.fn A hp h1
 rw [Nat.zero_add] at h2
 exact h2
theorem Aut.part (G:Gr nT R) (A:Aut R S K Tr) {n m k:Nat} {r:BA} (hn:S n) (hr:R[k]? =some r) (h:It R K n k 0) {l l':List Int} (hl:r.2.1=l++l') (hp:Pth Tr n l m):It R K m k l.length:=by
 obtain ⟨q,h1,h2⟩:=A.along G hr hn h (l:=r.2.1) rfl
 rw [hl] at h1
 obtain ⟨m',h3,_⟩:=Pth.app.1 h1
 have key: ∀(l:List Int) (n d m:Nat),S n→It R K n k d→(∃l',r.2.1.drop d=l++l')→Pth Tr n l m→It R K m k (d+l.length):=by
  intro l
  induction l with
  | nil=>intro n d m _ h _ hp; cases hp; exact h
  | cons s l ih=>
   intro n d m hn h ⟨l',hd⟩ ⟨q,h1,h2⟩
   have hs:r.2.1[d]? =some s:=by
    have:=congrArg (fun l=>l[0]?) hd
    simpa using this
   obtain ⟨q',h3,h4⟩:=A.step G hn h hr hs
   cases A.fn h1 h3
   have:=ih q (d+1) m (A.st h1).2.1 h4 ⟨l',by
    have:=congrArg (List.drop 1) hd
    simpa using this⟩ h2
   rw [List.length_cons,show d+(l.length+1)=d+1+l.length by omega]
   exact this
 have:=key l n 0 m hn h ⟨l',hl⟩ hp
 rwa [Nat.zero_add] at this
theorem Aut.behind (G:Gr nT R) (A:Aut R S K Tr) {k:Nat} : ∀ {d:Nat} {l:List Int} {m:Nat},Pth Tr 0 l m→It R K m k d→ ∃(l1:List Int) (q:Nat) (r:BA),R[k]? =some r∧l=l1++r.2.1.take d∧Pth Tr 0 l1 q∧Pth Tr q (r.2.1.take d) m∧It R K q k 0∧d≤r.2.1.length:=by
 intro d
 induction d with
 | zero=>
  intro l m hp h
  obtain ⟨k',d',e,_,r,h2,_⟩:=A.form (A.at0 A.s0 hp) h
  obtain ⟨e1,_⟩:=Prod.mk.inj e
  have e1:k=k':=by omega
  subst e1
  exact ⟨l,m,r,h2,by simp,hp,by simp [Pth],h,Nat.zero_le _⟩
 | succ d ih=>
  intro l m hp h
  rcases List.eq_nil_or_concat l with rfl | ⟨l',s,rfl⟩
  ·cases hp
   exfalso
   unfold It at h
   generalize hx:(((k:Int),((d+1:Nat):Int)):Item)=x at h
   cases h with
   | base h=>rw [(A.zero _).1 h] at hx; have:=(Prod.mk.inj hx).2; omega
   | step _ _ _=>have:=(Prod.mk.inj hx).2; omega
  ·rw [List.concat_eq_append] at hp ⊢
   obtain ⟨n,h1,q,h2,h3⟩:=Pth.app.1 hp
   cases h3
   obtain ⟨h4,r,h5,h6⟩:=A.back G h2 h
   obtain ⟨l1,p,r',g1,g2,g3,g4,g5,g6⟩:=ih h1 h4
   rw [h5] at g1
   cases g1
   refine ⟨l1,p,r,h5,?_,g3,?_,g5,(List.getElem?_eq_some_iff.1 h6).1⟩
   ·rw [g2,List.append_assoc,List.take_add_one,h6]; rfl
   ·rw [List.take_add_one,h6]
    exact Pth.app.2 ⟨n,g4,m,h2,rfl⟩
inductive Rdd (nT:Int) (R:Rl) (K:Nat→List Item) (Tr:Nat→Int→Nat→Prop):Nat→Int→Prop
 | term {m q:Nat} {t:Int} :Tr m t q→t<nT→Rdd nT R K Tr m t
 | fin {m:Nat} :It R K m 0 1→Rdd nT R K Tr m 0
 | next {m q:Nat} {c t:Int} :Tr m c q→nT≤c→Nul R c→Rdd nT R K Tr q t→Rdd nT R K Tr m t
inductive Fol (nT:Int) (R:Rl) (K:Nat→List Item) (Tr:Nat→Int→Nat→Prop):Nat→Int→Int→Prop
 | read {n m:Nat} {a t:Int} :Tr n a m→Rdd nT R K Tr m t→Fol nT R K Tr n a t
 | incl {n m q k:Nat} {a t:Int} {r:BA} {b g:List Int} :Tr n a m→R[k]? =some r→r.2.1=b++a::g→(∀s ∈ g,Nul R s)→It R K q k 0→Pth Tr q b n→Fol nT R K Tr q r.1 t→Fol nT R K Tr n a t
def Lk (nT:Int) (R:Rl) (K:Nat→List Item) (Tr:Nat→Int→Nat→Prop) (s k:Nat) (t:Int):Prop:=
 (k=0∧t=0∧It R K s 0 1)∨(0<k∧ ∃(n m:Nat) (r:BA),R[k]? =some r∧Tr n r.1 m∧Pth Tr n r.2.1 s∧Fol nT R K Tr n r.1 t)
theorem Nul.var (G:Gr nT R) {s:Int} (h:Nul R s):nT≤s:=by
 cases h with
 | rule h _=>exact G.left _ h
theorem TX (G:Gr nT R) {k d:Nat} {r r0:BA} (h0:R[0]? =some r0) (hr:R[k]? =some r):r.2.1[d]? ≠ some r0.1:=by
 obtain ⟨z,st,e1,e2,e3,e4,e5⟩:=G.zero
 rw [e1] at h0
 cases h0
 exact fun h=>e4 r (List.mem_of_getElem? hr) (List.mem_of_getElem? h)
theorem Aut.top (G:Gr nT R) (A:Aut R S K Tr) {n k:Nat} (hn:S n) (hk:0<k) (h:It R K n k 0): ∃(j d:Nat) (r r':BA),It R K n j d∧R[k]? =some r∧R[j]? =some r'∧r'.2.1[d]? =some r.1:=by
 unfold It at h
 generalize hx:(((k:Int),((0:Nat):Int)):Item)=x at h
 cases h with
 | base h=>
  subst hx
  rcases A.kern hn h with ⟨e,_⟩ | e
  ·have:=(Prod.mk.inj e).1; omega
  ·dsimp only at e; omega
 | @step y k' r h h2 h3=>
  have e:=(Prod.mk.inj hx).1
  have e:k=k':=by omega
  subst e
  obtain ⟨j,d,rfl,h4,_⟩:=A.form hn h
  have h0:=G.left r (List.mem_of_getElem? h2)
  have hp:=G.pos
  obtain ⟨r',h5,h6⟩:=MY G h3.symm (by omega)
  exact ⟨j,d,r,r',h4,h2,h5,h6⟩
theorem Aut.goes (G:Gr nT R) (A:Aut R S K Tr) {n k:Nat} {r:BA} (hn:S n) (hk:0<k) (hr:R[k]? =some r) (h:It R K n k 0): ∃m,Tr n r.1 m:=by
 obtain ⟨j,d,r1,r',h1,h2,h3,h4⟩:=A.top G hn hk h
 rw [hr] at h2
 cases h2
 obtain ⟨m,hm,_⟩:=A.step G hn h1 h3 h4
 exact ⟨m,hm⟩
theorem Aut.starts (G:Gr nT R) (A:Aut R S K Tr) {n m k:Nat} {r:BA} (hr:R[k]? =some r) (h:Tr n r.1 m):0<k∧It R K n k 0:=by
 obtain ⟨y,h1,h2⟩:=A.some_ h
 obtain ⟨j,d,rfl,h3,_⟩:=A.form (A.st h).1 h1
 obtain ⟨r',h4,h5⟩:=MY G h2 (A.st h).2.2.2
 refine ⟨Nat.pos_of_ne_zero fun e=> ?_,Aut.clos h3 h4 h5 hr rfl⟩
 subst e
 exact TX G hr h4 h5
theorem Vy (G:Gr nT R) (A:Aut R S K Tr) {x:Int} (h:Pro nT R x): ¬Nul R x→ ∀(m k d:Nat) (r:BA),S m→It R K m k d→R[k]? =some r→r.2.1[d]? =some x→ ∃t,Rdd nT R K Tr m t:=by
 induction h with
 | @term s h0 h1=>
  intro _ m k d r hm h hr hd
  obtain ⟨q,h2,_⟩:=A.step G hm h hr hd
  exact ⟨s, .term h2 h1⟩
 | @rule r' hr' _ ih=>
  intro hn m k d r hm h hr hd
  obtain ⟨j,hj⟩:=List.getElem?_of_mem hr'
  have key: ∀(n d m:Nat),S m→It R K m j d→r'.2.1.length - d=n→(¬ ∀s ∈ r'.2.1.drop d,Nul R s)→ ∃t,Rdd nT R K Tr m t:=by
   intro n
   induction n with
   | zero=>
    intro d m hm h hl hx
    exact absurd (fun s hs=>by rw [List.drop_eq_nil_of_le (by omega)] at hs; cases hs) hx
   | succ n ihn=>
    intro d m hm h hl hx
    have hlt:d<r'.2.1.length:=by omega
    have hd:=List.getElem?_eq_getElem hlt
    by_cases g:Nul R r'.2.1[d]
    ·obtain ⟨q,h1,h2⟩:=A.step G hm h hj hd
     obtain ⟨t,ht⟩:=ihn (d+1) q (A.st h1).2.1 h2 (by omega) (fun hx'=>hx fun s hs=>by
      rw [List.drop_eq_getElem_cons hlt] at hs
      rcases List.mem_cons.1 hs with rfl | hs
      ·exact g
      ·exact hx' s hs)
     exact ⟨t, .next h1 (g.var G) g ht⟩
    ·exact ih _ (List.getElem_mem hlt) g m j d r' hm h hj hd
  exact key _ 0 m hm (Aut.clos h hr hd hj rfl) rfl fun hx=>hn (.rule hr' (by simpa using hx))
theorem TY (G:Gr nT R) (A:Aut R S K Tr) {k:Nat} {r:BA} (hr:R[k]? =some r): ∀(n d m:Nat),S m→It R K m k d→r.2.1.length - d=n→(¬ ∀s ∈ r.2.1.drop d,Nul R s)→ ∃t,Rdd nT R K Tr m t:=by
 intro n
 induction n with
 | zero=>
  intro d m hm h hl hx
  exact absurd (fun s hs=>by rw [List.drop_eq_nil_of_le (by omega)] at hs; cases hs) hx
 | succ n ihn=>
  intro d m hm h hl hx
  have hlt:d<r.2.1.length:=by omega
  have hd:=List.getElem?_eq_getElem hlt
  by_cases g:Nul R r.2.1[d]
  ·obtain ⟨q,h1,h2⟩:=A.step G hm h hr hd
   obtain ⟨t,ht⟩:=ihn (d+1) q (A.st h1).2.1 h2 (by omega) (fun hx'=>hx fun s hs=>by
    rw [List.drop_eq_getElem_cons hlt] at hs
    rcases List.mem_cons.1 hs with rfl | hs
    ·exact g
    ·exact hx' s hs)
   exact ⟨t, .next h1 (g.var G) g ht⟩
  ·exact Vy G A (G.pro r (List.mem_of_getElem? hr) _ (List.getElem_mem hlt)) g m k d r hm h hr hd
theorem FI {l:List Int} {d:Nat} {s:Int} (h:l[d]? =some s):l=l.take d++s::l.drop (d+1):=by
 have hlt:=(List.getElem?_eq_some_iff.1 h).1
 have e:=(List.getElem?_eq_some_iff.1 h).2
 conv=>lhs; rw [← List.take_append_drop d l,List.drop_eq_getElem_cons hlt,e]
theorem Vz (G:Gr nT R) (A:Aut R S K Tr): ∀(N:Nat) (l:List Int) (n:Nat),l.length=N→Pth Tr 0 l n→ ∀x,Cl R (K n) x→nT≤beh R x→ ∃t,Fol nT R K Tr n (beh R x) t:=by
 intro N
 induction N using Nat.strongRecOn with
 | _ N ihN=>
  intro l n hl hp x hx
  have hn:S n:=A.at0 A.s0 hp
  have hpos:=G.pos
  have common: ∀k d:Nat,It R K n k d→nT≤beh R ((k:Int),(d:Int))→(k ≠ 0→d=0→ ∃r,R[k]? =some r∧ ∃t,Fol nT R K Tr n r.1 t)→ ∃t,Fol nT R K Tr n (beh R ((k:Int),(d:Int))) t:=by
   intro k d h hb hz
   obtain ⟨a,ha⟩: ∃a,beh R ((k:Int),(d:Int))=a:=⟨_,rfl⟩
   rw [ha] at hb ⊢
   obtain ⟨r,hr,hd⟩:=MY G ha (by omega)
   obtain ⟨m,h1,h2⟩:=A.step G hn h hr hd
   by_cases hnul: ∀s ∈ r.2.1.drop (d+1),Nul R s
   ·by_cases hk:k=0
    ·subst hk
     obtain ⟨z,st,e1,e2,_⟩:=G.zero
     rw [hr] at e1
     cases e1
     rw [e2] at hd
     have:d=0:=by have:=(List.getElem?_eq_some_iff.1 hd).1; simp at this; exact this
     subst this
     exact ⟨0, .read h1 (.fin h2)⟩
    ·by_cases hd0:d=0
     ·obtain ⟨r',hr',t,ht⟩:=hz hk hd0
      rw [hr] at hr'
      cases hr'
      subst hd0
      exact ⟨t, .incl (b:= []) h1 hr (by have:=FI hd; simpa using this) hnul h rfl ht⟩
     ·obtain ⟨l1,q,r',g1,g2,g3,g4,g5,g6⟩:=A.behind G hp h
      rw [hr] at g1
      cases g1
      obtain ⟨j,d',r1,r2,j1,j2,j3,j4⟩:=A.top G (A.at0 A.s0 g3) (Nat.pos_of_ne_zero hk) g5
      rw [hr] at j2
      cases j2
      have hb':beh R ((j:Int),(d':Int))=r.1:=by rw [Kk R j d' j3,j4]; rfl
      have hlt:l1.length<N:=by
       have:=congrArg List.length g2
       rw [List.length_append,List.length_take] at this
       omega
      obtain ⟨t,ht⟩:=ihN l1.length hlt l1 q rfl g3 _ j1 (by rw [hb']; exact G.left r (List.mem_of_getElem? hr))
      rw [hb'] at ht
      exact ⟨t, .incl h1 hr (FI hd) hnul g5 g4 ht⟩
   ·obtain ⟨t,ht⟩:=TY G A hr _ (d+1) m (A.st h1).2.1 h2 rfl hnul
    exact ⟨t, .read h1 ht⟩
  induction hx with
  | @base x hx=>
   intro hb
   obtain ⟨k,d,rfl,h,_⟩:=A.form hn (.base hx)
   refine common k d h hb fun hk hd=> ?_
   subst hd
   rcases A.kern hn hx with ⟨e,_⟩ | e
   ·have:=(Prod.mk.inj e).1; omega
   ·dsimp only at e; omega
  | @step y k r hy hr hl' ih=>
   intro hb
   refine common k 0 (.step hy hr hl') hb fun _ _=>⟨r,hr,?_⟩
   rw [hl']
   exact ih (by rw [← hl']; exact G.left r (List.mem_of_getElem? hr))
theorem Qz (G:Gr nT R) (A:Aut R S K Tr) {s k:Nat} {r:BA} (hs:S s) (hr:R[k]? =some r):(∃t,Lk nT R K Tr s k t) ↔ It R K s k r.2.1.length:=by
 obtain ⟨z,st,e1,e2,_⟩:=G.zero
 constructor
 ·rintro ⟨t,⟨rfl,_,h⟩ | ⟨hk,n,m,r',h1,h2,h3,_⟩⟩
  ·rw [hr] at e1; cases e1; rw [e2]; exact h
  ·rw [hr] at h1
   cases h1
   exact A.whole G (A.st h2).1 hr (A.starts G hr h2).2 h3
 ·intro h
  by_cases hk:k=0
  ·subst hk
   rw [hr] at e1; cases e1; rw [e2] at h
   exact ⟨0, .inl ⟨rfl,rfl,h⟩⟩
  ·obtain ⟨l,hp⟩:=A.reach hs
   obtain ⟨l1,q,r',g1,g2,g3,g4,g5,g6⟩:=A.behind G hp h
   rw [hr] at g1
   cases g1
   rw [List.take_length] at g2 g4
   obtain ⟨m,hm⟩:=A.goes G (A.at0 A.s0 g3) (Nat.pos_of_ne_zero hk) hr g5
   obtain ⟨j,d',r1,r2,j1,j2,j3,j4⟩:=A.top G (A.at0 A.s0 g3) (Nat.pos_of_ne_zero hk) g5
   rw [hr] at j2
   cases j2
   have hb':beh R ((j:Int),(d':Int))=r.1:=by rw [Kk R j d' j3,j4]; rfl
   obtain ⟨t,ht⟩:=Vz G A _ l1 q rfl g3 _ j1 (by rw [hb']; exact G.left r (List.mem_of_getElem? hr))
   rw [hb'] at ht
   exact ⟨t, .inr ⟨Nat.pos_of_ne_zero hk,q,m,r,hr,hm,g4,ht⟩⟩
theorem Rq (G:Gr nT R) (A:Aut R S K Tr) {s k:Nat} {r:BA} (hs:S s) (hr:R[k]? =some r) (h:It R K s k r.2.1.length):(∃n m,Tr n r.1 m∧Pth Tr n r.2.1 s) ↔ 0<k:=by
 constructor
 ·rintro ⟨n,m,h1,h2⟩
  exact (A.starts G hr h1).1
 ·intro hk
  obtain ⟨t,⟨e,_⟩ | ⟨_,n,m,r',h1,h2,h3,_⟩⟩:=(Qz G A hs hr).2 h
  ·omega
  ·rw [hr] at h1; cases h1; exact ⟨n,m,h2,h3⟩
theorem Fol.tr {n:Nat} {a t:Int} (h:Fol nT R K Tr n a t): ∃m,Tr n a m:=by
 cases h with
 | read h _=>exact ⟨_,h⟩
 | incl h _ _ _ _ _ _=>exact ⟨_,h⟩
inductive Fs (nT:Int) (R:Rl):List Int→Int→Prop
 | term {s:Int} {l:List Int} :s<nT→Fs nT R (s::l) s
 | var {s t:Int} {l:List Int} {r:BA} :r ∈ R→r.1=s→Fs nT R r.2.1 t→Fs nT R (s::l) t
 | skip {s t:Int} {l:List Int} :Nul R s→Fs nT R l t→Fs nT R (s::l) t
inductive Fw (nT:Int) (R:Rl):Int→Int→Prop
 | zero {r:BA} :R[0]? =some r→Fw nT R r.1 0
 | first {r:BA} {b g:List Int} {a t:Int} :r ∈ R→r.2.1=b++a::g→Fs nT R g t→Fw nT R a t
 | left {r:BA} {b g:List Int} {a t:Int} :r ∈ R→r.2.1=b++a::g→(∀s ∈ g,Nul R s)→Fw nT R r.1 t→Fw nT R a t
theorem Ub {s:Nat} {t:Int} (h:Lk nT R K Tr s 0 t):t=0:=by
 rcases h with ⟨_,h,_⟩ | ⟨h,_⟩
 ·exact h
 ·omega
end
def KB (B:List dtK) (n:Nat):List Item:=match B[n]? with
 | some b=>b.1
 | none=> []
def SB (B:List dtK) (n:Nat):Prop:=n<B.length
def TrB (p:Ax) (B:List dtK) (E:List (List Edge)) (n:Nat) (s:Int) (m:Nat):Prop:= ∃b e,B[n]? =some b∧E[n]? =some e∧IB p.2.2.1 B b e s (m:Int)
section
variable {p:Ax} {B:List dtK} {E:List (List Edge)}
theorem O8 {n:Nat} {b:dtK} (h:B[n]? =some b):KB B n=b.1:=by unfold KB; rw [h]
theorem IB.to {b:dtK} {e:List Edge} {s:Int} {m:Nat} (h:IB p.2.2.1 B b e s (m:Int)):s ∈ sy p.2.2.1 b.2.1∧1≤m∧ ∃bt,B[m]? =some bt∧bt.1=nx p.2.2.1 b.2.1 s∧(s,(m:Int)) ∈ e:=by
 rcases h with ⟨h1,q,bt,h2,h3,h4,h5,h6⟩ | ⟨_,h⟩
 ·have e:m=q:=by omega
  subst e
  exact ⟨h1,h3,bt,h4,h5,h6⟩
 ·omega
theorem Eu (V:VPp p) (H:Fin p B E) {n:Nat} {b:dtK} (hb:B[n]? =some b) (x:Item):x ∈ b.2.1 ↔ Cl p.2.2.1 (KB B n) x:=by
 rw [O8 hb]
 exact (H.good V hb).2.2.1.mem x
theorem Kl (V:VPp p) (H:Fin p B E):Aut p.2.2.1 (SB B) (KB B) (TrB p B E) where
 ok {n x} hn hx:=by
  have hb:=List.getElem?_eq_getElem (l:=B) hn
  rw [O8 hb] at hx
  exact (H.good V hb).1.ok x hx
 kern {n x} hn hx:=by
  have hb:=List.getElem?_eq_getElem (l:=B) hn
  rw [O8 hb] at hx
  rcases Nat.eq_zero_or_pos n with rfl | h
  ·have:=H.zero
   rw [hb] at this
   rw [Option.some.inj this] at hx
   exact .inl ⟨by simpa [k0] using hx,rfl⟩
  ·obtain ⟨f,bf,e,h1,h2,h3,h4,h5,h6,h7⟩:=H.from_ n _ h hb
   rw [h4] at hx
   exact .inr (Qs V (H.good V h3).2.1.ok (LD.1 h5).1 x hx).2
 zero x:=by rw [O8 H.zero]; simp [k0]
 s0:=BQ H.zero
 st {n s m} h:=by
  obtain ⟨b,e,hb,he,hg⟩:=h
  obtain ⟨h1,h2,bt,h3,_⟩:=hg.to
  exact ⟨BQ hb,BQ h3,h2,(LD.1 h1).1⟩
 go {n x} hn hx h0:=by
  have hb:=List.getElem?_eq_getElem (l:=B) hn
  obtain ⟨e,he⟩:=H.edge hb
  have hs:beh p.2.2.1 x ∈ sy p.2.2.1 B[n].2.1:=LD.2 ⟨h0,x,(Eu V H hb x).2 hx,rfl⟩
  have hd:=H.done n _ e hb he
  rw [← hd.1] at hs
  obtain ⟨y,hy,hy'⟩:=List.mem_map.1 hs
  obtain ⟨t,bt,h1,h2,h3,h4⟩:=hd.2 y hy
  refine ⟨t,_,e,hb,he, .inl ⟨?_,t,bt,rfl,h2,h3,?_,?_⟩⟩
  ·rw [← hd.1]; exact hs
  ·rw [← hy']; exact h4
  ·rw [← hy',← h1]; exact hy
 into {n s m x} h:=by
  obtain ⟨b,e,hb,he,hg⟩:=h
  obtain ⟨h1,h2,bt,h3,h4,_⟩:=hg.to
  rw [O8 h3,h4,QH]
  constructor
  ·rintro ⟨y,g1,g2,g3⟩; exact ⟨y,(Eu V H hb y).1 g1,g2,g3⟩
  ·rintro ⟨y,g1,g2,g3⟩; exact ⟨y,(Eu V H hb y).2 g1,g2,g3⟩
 some_ {n s m} h:=by
  obtain ⟨b,e,hb,he,hg⟩:=h
  obtain ⟨y,g1,g2⟩:=(LD.1 hg.to.1).2
  exact ⟨y,(Eu V H hb y).1 g1,g2⟩
 fn {n s m m'} h h':=by
  obtain ⟨b,e,hb,he,hg⟩:=h
  obtain ⟨b',e',hb',he',hg'⟩:=h'
  rw [hb] at hb'
  rw [he] at he'
  cases hb'
  cases he'
  have:=IB.unique H hg hg'
  omega
 reach {n} hn:=by
  induction n using Nat.strongRecOn with
  | _ n ih=>
   rcases Nat.eq_zero_or_pos n with rfl | h
   ·exact ⟨[],rfl⟩
   ·have hb:=List.getElem?_eq_getElem (l:=B) hn
    obtain ⟨f,bf,e,h1,h2,h3,h4,h5,h6,h7⟩:=H.from_ n _ h hb
    obtain ⟨l,hl⟩:=ih f h1 (BQ h3)
    exact ⟨l++ [B[n].2.2.2],Pth.app.2 ⟨f,hl,n,⟨bf,e,h3,h6, .inl ⟨h5,n,_,rfl,h,hb,h4,h7⟩⟩,rfl⟩⟩
theorem O9 (H:Fin p B E): ∀ {l:List Int} {n m:Nat},n<B.length→(Walk p.2.2.1 B E (n:Int) l (m:Int) ↔ Pth (TrB p B E) n l m):=by
 intro l
 induction l with
 | nil=>
  intro n m hn
  constructor
  ·intro h
   generalize hq:(n:Int)=n' at h
   generalize hr:(m:Int)=m' at h
   cases h
   have:n=m:=by omega
   exact this
  ·rintro rfl
   exact .nil _
 | cons s l ih=>
  intro n m hn
  constructor
  ·intro h
   generalize hq:(n:Int)=n' at h
   generalize hr:(m:Int)=m' at h
   cases h with
   | stop _ _ _=>omega
   | @step j q b e _ _ _ hb he hg hql hw=>
    have e:n=j:=by omega
    subst e
    subst hr
    exact ⟨q,⟨b,_,hb,he,hg⟩,(ih hql).1 hw⟩
  ·rintro ⟨q,⟨b,e,hb,he,hg⟩,hp⟩
   obtain ⟨_,_,bt,h3,_⟩:=hg.to
   exact .step hb he hg (BQ h3) ((ih (BQ h3)).2 hp)
theorem WU {nt nl:Nat} (G:Pl nt nl p) (hp: ∀v:Nat,v<p.2.1.length→Pro ((p.1.length:Nat):Int) p.2.2.1 ((p.1.length+v:Nat):Int)):Gr ((p.1.length:Nat):Int) p.2.2.1:=by
 have hT:=G.terms.len
 obtain ⟨st,s1,s2,s3⟩:=G.first
 have each: ∀(k:Nat) r,p.2.2.1[k]? =some r→(k=0∧r=(((nt+1+p.2.1.length:Nat):Int), [st],0))∨(1≤k∧Pr nt p.2.1.length nl r):=fun k r hk=>by
  rcases Nat.eq_zero_or_pos k with rfl | h
  ·rw [s3] at hk; exact .inl ⟨rfl,(Option.some.inj hk).symm⟩
  ·exact .inr ⟨h,G.rules k r h hk⟩
 have syms: ∀r ∈ p.2.2.1,∀s ∈ r.2.1,0<s∧s< ((nt+1+p.2.1.length:Nat):Int):=fun r hr s hs=>by
  obtain ⟨k,hk⟩:=List.getElem?_of_mem hr
  rcases each k r hk with ⟨_,rfl⟩ | ⟨_,h⟩
  ·simp at hs; subst hs; omega
  ·exact h.right s hs
 refine ⟨by omega,⟨_,st,s3,rfl,by omega,fun r' hr' hm=> ?_,fun k r' hk he=> ?_⟩,fun r hr=> ?_,fun r hr s hs=>(syms r hr s hs).1,fun r hr s hs=> ?_⟩
 ·have:=syms r' hr' _ hm
  dsimp only at this
  omega
 ·rcases each k r' hk with ⟨h,_⟩ | ⟨_,h⟩
  ·exact h
  ·have:=h.left
   dsimp only at he
   omega
 ·obtain ⟨k,hk⟩:=List.getElem?_of_mem hr
  rcases each k r hk with ⟨_,rfl⟩ | ⟨_,h⟩
  ·dsimp only; omega
  ·have:=h.left; omega
 ·have:=syms r hr s hs
  by_cases h:s< ((p.1.length:Nat):Int)
  ·exact .term (by omega) h
  ·have e:s=((p.1.length+(s.toNat - p.1.length):Nat):Int):=by omega
   rw [e]
   exact hp _ (by omega)
end
end Go.Proofs.YteolcjbobmpdiaaGreatDoor
namespace Go.Proofs.YteolcjbobmpdiaaGreatDoor
open Go Go.Eng Dg
set_option linter.unusedVariables false
abbrev dtP:Type:=Ax
abbrev dtA:Type:=DN
noncomputable def Rr (ss:List AT) (x y:Int):Option (Bool×List AT):=
 (idx ss x).bind fun s=>(idx ss y).bind fun o=>need (OkS s∧OkS o) <| some (EY s o,ss.set x.toNat (BB s o))
noncomputable def Uc (ss:List AT) (x:Int) (o:AT):Option (Bool×List AT):=
 (idx ss x).bind fun s=>need (OkS s∧OkS o) <| some (EY s o,ss.set x.toNat (BB s o))
def nT (p:dtP):Int:=((p.1.length:Nat):Int)
noncomputable def JJ (p:dtP) (m:Int) (null:List Bool) (x:Int) (ss:List AT) (seq:List Int):Option (Bool×Bool×List AT):=
 (Cv (σ:=Bool×List AT) (β:=Bool×Bool×List AT) 0 ((seq.length:Nat):Int) (false,ss) fun i z=>
  (idx seq i).bind fun sym=>(BV p sym).bind fun t=>
  cond t
   ((CQ (nT p) [sym]).bind fun o=>(Uc z.2 x o).bind fun u=>some (.done (u.1 || z.1,false,u.2)))
   (need (IntKind.wrap .i64 (sym - nT p) <m) <| (Rr z.2 x (IntKind.wrap .i64 (sym - nT p))).bind fun u=>(idx null (IntKind.wrap .i64 (sym - nT p))).bind fun b=>
    cond b (some (.next (u.1 || z.1,u.2))) (some (.done (u.1 || z.1,false,u.2))))).bind fun e=>match e with
 | .next z=>some (z.1,true,z.2)
 | .done r=>some r
noncomputable def MZ (p:dtP) (m:Int) (null:List Bool) (ss:List AT):Option (Bool×List Bool×List AT):=
 forS (σ:=Bool×List Bool×List AT) 0 ((p.2.2.1.length:Nat):Int) (false,null,ss) fun i z=>
  (idx p.2.2.1 i).bind fun r=>need (0≤IntKind.wrap .i64 (r.1 - nT p)∧IntKind.wrap .i64 (r.1 - nT p) <m) <|
  (JJ p m z.2.1 (IntKind.wrap .i64 (r.1 - nT p)) z.2.2 r.2.1).bind fun g=>
  (idx z.2.1 (IntKind.wrap .i64 (r.1 - nT p))).bind fun b=>
  (Dm z.2.1 (IntKind.wrap .i64 (r.1 - nT p)) (b || g.2.1)).bind fun null'=>
  some (z.1 || g.1 || (g.2.1 && !b),null',g.2.2)
noncomputable def Km (p:dtP) (m:Int) (null:List Bool) (ss:List AT):Option (Bool×List AT):=
 forS (σ:=Bool×List AT) 0 ((p.2.2.1.length:Nat):Int) (false,ss) fun i z=>
  (idx p.2.2.1 i).bind fun r=>
  forS (σ:=Bool×List AT) 0 ((r.2.1.length:Nat):Int) z fun j z=>
   (idx r.2.1 j).bind fun sym=>(BV p sym).bind fun t=>cond t (some z)
   (need (0≤IntKind.wrap .i64 (sym - nT p)∧IntKind.wrap .i64 (sym - nT p) <m) <|
    (JJ p m null (m+IntKind.wrap .i64 (sym - nT p)) z.2 (r.2.1.drop (j+1).toNat)).bind fun g=>
    (cond g.2.1 (need (0≤IntKind.wrap .i64 (r.1 - nT p)∧IntKind.wrap .i64 (r.1 - nT p) <m) <| (Rr g.2.2 (m+IntKind.wrap .i64 (sym - nT p)) (m+IntKind.wrap .i64 (r.1 - nT p))).bind fun u=>some (u.1 || g.1,u.2)) (some (g.1,g.2.2))).bind fun h=>
    some (z.1 || h.1,h.2))
noncomputable def LG (p:dtP):Option (List AT):=
 forS (σ:=List AT) 0 (IntKind.wrap .i64 (((p.2.1.length:Nat):Int) +1)) [] fun _ acc=>(Bj (nT p)).bind fun s=>app acc [s]
noncomputable def Ix (ss:List AT):Option (List (List Int)):=
 forS (σ:=List (List Int)) 0 ((ss.length:Nat):Int) [] fun i acc=>(idx ss i).bind fun s=>(Hw s).bind fun l=>app acc [l]
abbrev dtF:Type:=VB
noncomputable def Ma (p:dtP):Option dtF:=
 (E0 (IntKind.wrap .i64 (((p.2.1.length:Nat):Int) +1)) false).bind fun null=>
 (LG p).bind fun f=>(LG p).bind fun g=>
 (loop (σ:=Int×List Bool×List AT) (β:=Int×List Bool×List AT) (1,null,f++g) fun z=>
  (MZ p ((f.length:Nat):Int) z.2.1 z.2.2).bind fun r=>cond r.1 (some (.next (IntKind.wrap .i64 (z.1+1),r.2))) (some (.done (z.1,r.2)))).bind fun z=>
 (idx (z.2.2.drop f.length) ((p.2.1.length:Nat):Int)).bind fun s=>(Ap s 0).bind fun a=>
 (loop (σ:=List AT) (β:=List AT) (z.2.2.set (f.length+p.2.1.length) a.2) fun ss=>
  (Km p ((f.length:Nat):Int) z.2.1 ss).bind fun r=>cond r.1 (some (.next r.2)) (some (.done r.2))).bind fun ss=>
 (Ix (ss.take f.length)).bind fun a=>(Ix (ss.drop f.length)).bind fun b=>some (z.2.1,a,b,z.1)
end Go.Proofs.YteolcjbobmpdiaaGreatDoor
namespace Go.Proofs.YteolcjbobmpdiaaGreatDoor.Dg
open Go Go.Eng
set_option linter.unusedVariables false
abbrev Di:Int:=9223372036854775807
def lv (low:List Int) (v:Int):Int:=(idx low v).getD 0
theorem LH {low:List Int} {v:Int} (h0:0≤v) (h1:v< (low.length:Int)):idx low v=some (lv low v):=by
 have:idx low v=some low[v.toNat] :=JC h0 (by omega)
 unfold lv
 rw [this]; rfl
theorem TZ {low:List Int} {v:Int} (h:v<0∨(low.length:Int) ≤v):lv low v=0:=by
 unfold lv idx
 split
 ·rw [List.getElem?_eq_none (by omega)]; rfl
 ·rfl
theorem N7 {low:List Int} {x e:Int} (h0:0≤x) (h1:x< (low.length:Int)) (v:Int):lv (low.set x.toNat e) v=if v=x then e else lv low v:=by
 by_cases hv:v=x
 ·subst hv
  rw [if_pos rfl]
  unfold lv idx
  rw [if_pos h0,List.getElem?_set,if_pos rfl,if_pos (by omega)]
  rfl
 ·rw [if_neg hv]
  unfold lv idx
  split
  ·rw [List.getElem?_set,if_neg (by omega)]
  ·rfl
inductive Reach (ll:List (List Int)) (n:Int):Int→Int→Prop where
 | refl (x:Int):Reach ll n x x
 | step {x y z:Int} :y ∈ CW ll x n→Reach ll n y z→Reach ll n x z
theorem Reach.trans {ll:List (List Int)} {n x y z:Int} (h:Reach ll n x y) (k:Reach ll n y z):Reach ll n x z:=by
 induction h with
 | refl=>exact k
 | step e _ ih=>exact .step e (ih k)
theorem Reach.one {ll:List (List Int)} {n x y:Int} (h:y ∈ CW ll x n):Reach ll n x y:= .step h (.refl _)
theorem Hf {ll:List (List Int)} {n x y:Int} (h:y ∈ CW ll x n):0≤y∧y<n:=by
 unfold CW at h
 split at h
 ·cases h
 ·have:=(List.mem_filter.1 h).2
  unfold Io at this
  simp at this
  omega
theorem Reach.closed {ll:List (List Int)} {n:Int} {D:Int→Prop} (hD: ∀v w,D v→w ∈ CW ll v n→D w) {x y:Int} (h:Reach ll n x y):D x→D y:=by
 induction h with
 | refl=>exact id
 | step e _ ih=>exact fun hx=>ih (hD _ _ hx e)
structure V0 (ll:List (List Int)) (n:Int) {A:Type} (ledA:A→Int→Int→Option A) (partA:A→List Int→Option A) where
 I:(Int→Prop)→A→Prop
 Q:A→Int→Int→Prop
 led: ∀ {D:Int→Prop} {a:A} {x to:Int},I D a→0≤x→x<n→to ∈ CW ll x n→D to∨Reach ll n to x→ ¬D x→ ∃a',ledA a x to=some a'∧I D a'∧Q a' x to∧ ∀y z,Q a y z→Q a' y z
 part: ∀ {D:Int→Prop} {a:A} {l:List Int},I D a→l ≠ [] →l.Nodup→(∀v ∈ l,0≤v∧v<n∧ ¬D v)→(∀v ∈ l,∀w ∈ CW ll v n,Q a v w∧(D w∨w ∈ l))→(∀v ∈ l,∀z,z ∈ l ↔ Reach ll n v z∧Reach ll n z v)→
  ∃a',partA a l=some a'∧I (fun v=>D v∨v ∈ l) a'∧ ∀y z,Q a y z→Q a' y z
section
variable (ll:List (List Int)) (n:Int)
structure Inv (low stk:List Int):Prop where
 len:(low.length:Int)=n
 on: ∀(i:Nat) (v:Int),stk[i]? =some v→0≤v∧v<n∧1≤lv low v∧lv low v≤(i:Int) +1
 off: ∀v:Int,0≤v→v<n→v ∉ stk→lv low v=0∨lv low v=Di
 nodup:stk.Nodup
 back: ∀(i:Nat) (v:Int),stk[i]? =some v→ ∃(j:Nat) (u:Int),lv low v=(j:Int) +1∧stk[j]? =some u∧Reach ll n v u
 clo: ∀v w:Int,lv low v=Di→w ∈ CW ll v n→lv low w=Di
variable {ll:List (List Int)} {n:Int}
theorem Inv.size {low stk:List Int} (H:Inv ll n low stk):stk.length≤low.length:=by
 have h:=List.Nodup.length_le_of_subset (l₂:=(List.range low.length).map fun k:Nat=>(k:Int)) H.nodup (fun v hv=>by
  obtain ⟨i,hi⟩:=List.getElem?_of_mem hv
  have:=H.on i v hi
  have hl:=H.len
  exact List.mem_map.2 ⟨v.toNat,List.mem_range.2 (by omega),by omega⟩)
 simpa using h
theorem Inv.mem {low stk:List Int} (H:Inv ll n low stk) (hn:n≤100000) {v:Int} (h0:0≤v) (h1:v<n) (hv:lv low v ≠ 0) (hm:lv low v ≠ Di): ∃i:Nat,stk[i]? =some v:=by
 by_cases h:v ∈ stk
 ·exact List.getElem?_of_mem h
 ·rcases H.off v h0 h1 h with h | h
  ·exact absurd h hv
  ·exact absurd h hm
theorem Inv.notMax {low stk:List Int} (H:Inv ll n low stk) (hn:n≤100000) {i:Nat} {v:Int} (h:stk[i]? =some v):lv low v ≠ Di:=by
 have h1:=(H.on i v h).2.2.2
 have h2:=H.size
 have h3:=H.len
 have h4:i<stk.length:=by
  rcases Nat.lt_or_ge i stk.length with g | g
  ·exact g
  ·rw [List.getElem?_eq_none g] at h; cases h
 intro h5
 rw [h5] at h1
 simp only [Di] at h1
 omega
theorem J9 {α:Type} {l:List α} {i:Nat} {v:α} (h:l[i]? =some v):i<l.length:=by
 rcases Nat.lt_or_ge i l.length with g | g
 ·exact g
 ·rw [List.getElem?_eq_none g] at h; cases h
theorem PA {low low':List Int} (hl:low'.length=low.length) (h: ∀v,lv low v ≠ 0→lv low' v ≠ 0):low'.count 0≤low.count 0:=by
 have key: ∀(l l':List Int),l'.length=l.length→(∀i:Nat,(l[i]?).getD 0 ≠ 0→(l'[i]?).getD 0 ≠ 0)→l'.count 0≤l.count 0:=by
  intro l
  induction l with
  | nil=>intro l' hl _; rw [List.eq_nil_of_length_eq_zero hl]; exact Nat.le_refl _
  | cons x l ih=>
   intro l' hl h
   cases l' with
   | nil=>simp
   | cons y l'=>
    have h1:=ih l' (by simpa using hl) fun i hi=>by simpa using h (i+1) (by simpa using hi)
    have h0:=h 0
    simp only [List.getElem?_cons_zero,Option.getD_some] at h0
    rw [List.count_cons,List.count_cons]
    by_cases hx:x=0
    ·subst hx
     simp only [beq_self_eq_true,if_true]
     split<;>omega
    ·have:=h0 hx
     rw [if_neg (by simpa using this),if_neg (by simpa using hx)]
     omega
 refine key low low' hl fun i hi=> ?_
 have:=h (i:Int)
 unfold lv at this
 rw [Cq,Cq] at this
 exact this hi
theorem HD {low:List Int} {x e:Int} (h0:0≤x) (h1:x< (low.length:Int)) (hx:lv low x=0) (he:e ≠ 0):(low.set x.toNat e).count 0+1≤low.count 0:=by
 have key: ∀(l:List Int) (i:Nat),l[i]? =some 0→(l.set i e).count 0+1≤l.count 0:=by
  intro l
  induction l with
  | nil=>intro i h; simp at h
  | cons y l ih=>
   intro i h
   cases i with
   | zero=>
    simp only [List.getElem?_cons_zero,Option.some.injEq] at h
    subst h
    rw [List.set_cons_zero,List.count_cons,List.count_cons]
    simp [he]
   | succ i=>
    have:=ih i (by simpa using h)
    rw [List.set_cons_succ,List.count_cons,List.count_cons]
    omega
 refine key low x.toNat ?_
 have:=LH (low:=low) h0 h1
 unfold idx at this
 rw [if_pos h0,hx] at this
 exact this
end
section
variable {ll:List (List Int)} {n:Int} {A:Type} {ledA:A→Int→Int→Option A} {partA:A→List Int→Option A} (S:V0 ll n ledA partA)
abbrev Dn (low:List Int) (v:Int):Prop:=lv low v=Di
structure Ud (low stk:List Int) (x:Int) (a:A) (low' ext:List Int) (a':A):Prop where
 inv:Inv ll n low' (stk++ext)
 keep: ∀v:Int,lv low v ≠ 0→lv low' v=lv low v
 seen:lv low' x ≠ 0
 fresh: ∀v ∈ ext,lv low v=0
 reach: ∀v ∈ ext,Reach ll n x v
 strict: ∀(i:Nat) (v:Int),ext[i]? =some v→lv low' x≤lv low' v∧lv low' v< (stk.length:Int) +i+1
 edges: ∀v ∈ ext,∀w ∈ CW ll v n,lv low' w ≠ 0∧S.Q a' v w∧ ∀i:Nat,stk[i]? =some w→lv low' v≤(i:Int) +1
 ok:S.I (Dn low') a'
 mono: ∀y z:Int,S.Q a y z→S.Q a' y z
structure DY (low0 stk:List Int) (x:Int) (a0:A) (es:List Int) (q:Int) (low ext:List Int) (a:A):Prop where
 inv:Inv ll n low (stk++x::ext)
 keep: ∀v:Int,lv low0 v ≠ 0→lv low v=lv low0 v
 fresh: ∀v ∈ ext,lv low0 v=0
 reach: ∀v ∈ ext,Reach ll n x v
 strict: ∀(i:Nat) (v:Int),ext[i]? =some v→(lv low x≤lv low v∨q≤lv low v)∧lv low v< (stk.length:Int) +i+2
 edges: ∀v ∈ ext,∀w ∈ CW ll v n,lv low w ≠ 0∧S.Q a v w∧ ∀i:Nat,stk[i]? =some w→lv low v≤(i:Int) +1
 own: ∀w ∈ es,lv low w ≠ 0∧S.Q a x w∧ ∀i:Nat,stk[i]? =some w→lv low x≤(i:Int) +1
 ok:S.I (Dn low) a
 mono: ∀y z:Int,S.Q a0 y z→S.Q a y z
theorem V1 (stk:List Int) (x:Int) (ext:List Int):(stk++x::ext)[stk.length]? =some x:=by
 rw [List.getElem?_append_right (Nat.le_refl _),Nat.sub_self]; rfl
theorem LI {stk:List Int} {i:Nat} {v:Int} (h:stk[i]? =some v) (r:List Int):(stk++r)[i]? =some v:=by
 rw [List.getElem?_append_left (J9 h)]; exact h
theorem V2 {stk:List Int} {x:Int} {ext:List Int} {i:Nat} {v:Int} (h:ext[i]? =some v):(stk++x::ext)[stk.length+1+i]? =some v:=by
 rw [List.getElem?_append_right (by omega),show stk.length+1+i - stk.length=i+1 by omega]
 exact h
theorem FI {stk:List Int} {x:Int} {ext:List Int} {i:Nat} {v:Int} (h:(stk++x::ext)[i]? =some v):(stk[i]? =some v)∨(i=stk.length∧v=x)∨ ∃k,i=stk.length+1+k∧ext[k]? =some v:=by
 rcases Nat.lt_trichotomy i stk.length with g | g | g
 ·left; rw [List.getElem?_append_left g] at h; exact h
 ·right; left
  subst g
  rw [V1] at h
  exact ⟨rfl,(Option.some.inj h).symm⟩
 ·right; right
  refine ⟨i - stk.length - 1,by omega,?_⟩
  rw [List.getElem?_append_right (by omega),show i - stk.length=(i - stk.length - 1) +1 by omega] at h
  exact h
theorem DY.all {low0 stk:List Int} {x q:Int} {a0:A} {es low ext:List Int} {a:A} (R:DY S low0 stk x a0 es q low ext a) (hx: ∀u ∈ stk,Reach ll n u x): ∀(i:Nat) (v:Int),(stk++x::ext)[i]? =some v→Reach ll n v x:=by
 intro i
 induction i using Nat.strongRecOn with
 | ind i ih=>
  intro v hv
  rcases FI hv with h | ⟨_,rfl⟩ | ⟨k,rfl,hk⟩
  ·exact hx v (List.mem_of_getElem? h)
  ·exact .refl _
  ·obtain ⟨j,u,e1,e2,e3⟩:=R.inv.back _ v hv
   have:=(R.strict k v hk).2
   exact e3.trans (ih j (by omega) u e2)
variable {low0 stk:List Int} {x q:Int} {a0:A} {es low ext:List Int} {a:A}
theorem DY.not_stk (R:DY S low0 stk x a0 es q low ext a) {v:Int} (hv:v ∈ x::ext):v ∉ stk:=fun h=>by
 have:=(List.nodup_append.1 R.inv.nodup).2.2
 exact this v h v hv rfl
theorem DY.not_x (R:DY S low0 stk x a0 es q low ext a) {v:Int} (hv:v ∈ ext):v ≠ x:=fun h=>by
 have:=(List.nodup_append.1 R.inv.nodup).2.1
 rw [List.nodup_cons] at this
 subst h
 exact this.1 hv
theorem DY.x_on (R:DY S low0 stk x a0 es q low ext a):0≤x∧x<n∧1≤lv low x∧lv low x≤(stk.length:Int) +1:=R.inv.on _ _ (V1 stk x ext)
theorem DY.begin (hn:n≤100000) (H:Inv ll n low0 stk) (h0:0≤x) (h1:x<n) (hx:lv low0 x=0) (hI:S.I (Dn low0) a0):DY S low0 stk x a0 [] (lv (low0.set x.toNat ((stk.length:Int) +1)) x) (low0.set x.toNat ((stk.length:Int) +1)) [] a0:=by
 have hlen:=H.len
 have hsz:=H.size
 have hs:=fun v=>N7 (low:=low0) (x:=x) (e:=(stk.length:Int) +1) h0 (by omega) v
 have hxs:x ∉ stk:=fun h=>by
  obtain ⟨i,hi⟩:=List.getElem?_of_mem h
  have:=(H.on i x hi).2.2.1
  omega
 have hD:Dn (low0.set x.toNat ((stk.length:Int) +1))=Dn low0:=by
  funext v
  apply propext
  show lv _ v=Di ↔ lv low0 v=Di
  rw [hs]
  split
  ·rename_i e; subst e; rw [hx]; simp only [Di]; omega
  ·exact Iff.rfl
 have hne: ∀ {v:Int},lv low0 v ≠ 0→v ≠ x:=fun h e=>by subst e; exact h hx
 refine ⟨⟨?_,?_,?_,?_,?_,?_⟩,?_,?_,?_,?_,?_,?_,?_,?_⟩
 ·rw [List.length_set]; exact hlen
 ·intro i v hv
  rcases FI hv with h | ⟨rfl,rfl⟩ | ⟨k,_,hk⟩
  ·have h2:=H.on i v h
   rw [hs,if_neg (hne (by omega))]
   exact h2
  ·rw [hs,if_pos rfl]
   exact ⟨h0,h1,by omega,by omega⟩
  ·simp at hk
 ·intro v g0 g1 hv
  have hvx:v ≠ x:=fun e=>hv (by rw [e]; simp)
  rw [hs,if_neg hvx]
  exact H.off v g0 g1 fun h=>hv (List.mem_append_left _ h)
 ·rw [List.nodup_append]
  exact ⟨H.nodup,by simp,fun a ha b hb e=>by simp at hb; subst hb; subst e; exact hxs ha⟩
 ·intro i v hv
  rcases FI hv with h | ⟨rfl,rfl⟩ | ⟨k,_,hk⟩
  ·obtain ⟨j,u,e1,e2,e3⟩:=H.back i v h
   have h2:=H.on i v h
   exact ⟨j,u,by rw [hs,if_neg (hne (by omega))]; exact e1,LI e2 _,e3⟩
  ·exact ⟨stk.length,v,by rw [hs,if_pos rfl],V1 _ _ _, .refl _⟩
  ·simp at hk
 ·intro v w hv hw
  have hv':Dn low0 v:=by rw [← hD]; exact hv
  have:=H.clo v w hv' hw
  show Dn _ w
  rw [hD]
  exact this
 ·intro v hv
  rw [hs,if_neg (hne hv)]
 ·intro v hv; cases hv
 ·intro v hv; cases hv
 ·intro i v hv; simp at hv
 ·intro v hv; cases hv
 ·intro w hw; cases hw
 ·rw [hD]; exact hI
 ·exact fun y z h=>h
theorem DY.child (R:DY S low0 stk x a0 es (lv low x) low ext a) {to:Int} {low' ext':List Int} {a':A} (hto:to ∈ CW ll x n) (hz:lv low to=0) (Po:Ud S low (stk++x::ext) to a low' ext' a'):DY S low0 stk x a0 es (lv low' to) low' (ext++ext') a':=by
 have hx:=R.x_on
 have hkx:lv low' x=lv low x:=Po.keep x (by omega)
 have hon: ∀v ∈ ext,lv low v ≠ 0:=fun v hv=>by
  obtain ⟨i,hi⟩:=List.getElem?_of_mem hv
  have:=(R.inv.on _ _ (V2 (stk:=stk) (x:=x) hi)).2.2.1
  omega
 have hf0: ∀v,lv low v=0→lv low0 v=0:=fun v hv=>by
  by_cases h:lv low0 v=0
  ·exact h
  ·have:=R.keep v h
   omega
 refine ⟨?_,?_,?_,?_,?_,?_,?_,Po.ok,fun y z h=>Po.mono y z (R.mono y z h)⟩
 ·have:=Po.inv
  rwa [List.append_assoc,List.cons_append] at this
 ·intro v hv
  have h1:=R.keep v hv
  rw [Po.keep v (by rw [h1]; exact hv),h1]
 ·intro v hv
  rcases List.mem_append.1 hv with h | h
  ·exact R.fresh v h
  ·exact hf0 v (Po.fresh v h)
 ·intro v hv
  rcases List.mem_append.1 hv with h | h
  ·exact R.reach v h
  ·exact .step hto (Po.reach v h)
 ·intro i v hv
  rcases Nat.lt_or_ge i ext.length with g | g
  ·rw [List.getElem?_append_left g] at hv
   have h1:=R.strict i v hv
   rw [Po.keep v (hon v (List.mem_of_getElem? hv)),hkx]
   exact ⟨.inl (h1.1.elim id id),h1.2⟩
  ·rw [List.getElem?_append_right g] at hv
   have h1:=Po.strict _ v hv
   refine ⟨.inr h1.1,?_⟩
   have h2:=h1.2
   rw [List.length_append,List.length_cons] at h2
   omega
 ·intro v hv w hw
  rcases List.mem_append.1 hv with h | h
  ·obtain ⟨e1,e2,e3⟩:=R.edges v h w hw
   rw [Po.keep v (hon v h),Po.keep w e1]
   exact ⟨e1,Po.mono _ _ e2,e3⟩
  ·obtain ⟨e1,e2,e3⟩:=Po.edges v h w hw
   exact ⟨e1,e2,fun i hi=>e3 i (LI hi _)⟩
 ·intro w hw
  obtain ⟨e1,e2,e3⟩:=R.own w hw
  rw [Po.keep w e1,hkx]
  exact ⟨e1,Po.mono _ _ e2,e3⟩
theorem DY.upd (hn:n≤100000) {to:Int} (hx: ∀u ∈ stk,Reach ll n u x) (hz:lv low0 x=0) (R:DY S low0 stk x a0 es (lv low to) low ext a) (hto:to ∈ CW ll x n) (hne:lv low to ≠ 0):
 ∃a',ledA a x to=some a'∧DY S low0 stk x a0 (es++ [to]) (lv (low.set x.toNat (if lv low to<lv low x then lv low to else lv low x)) x) (low.set x.toNat (if lv low to<lv low x then lv low to else lv low x)) ext a':=by
 have hxo:=R.x_on
 have hsz:=R.inv.size
 have hlen:=R.inv.len
 rw [List.length_append,List.length_cons] at hsz
 obtain ⟨t0,t1⟩:=Hf hto
 have hD0: ¬Dn low x:=fun h=>by have h:lv low x=Di:=h; simp only [Di] at h; omega
 have hto':Dn low to∨ ∃i:Nat,(stk++x::ext)[i]? =some to:=by
  by_cases h:lv low to=Di
  ·exact .inl h
  ·exact .inr (R.inv.mem hn t0 t1 hne h)
 obtain ⟨a',h1,h2,h3,h4⟩:=S.led R.ok hxo.1 hxo.2.1 hto (hto'.imp id fun ⟨i,hi⟩=>R.all S hx i to hi) hD0
 refine ⟨a',h1,?_⟩
 obtain ⟨m,hm⟩: ∃m,(if lv low to<lv low x then lv low to else lv low x)=m:=⟨_,rfl⟩
 rw [hm]
 have hq1:1≤lv low to:=by
  rcases hto' with h | ⟨i,hi⟩
  ·have h:lv low to=Di:=h
   rw [h]; decide
  ·exact (R.inv.on i to hi).2.2.1
 have hmp:m≤lv low x:=by rw [← hm]; split<;>omega
 have hmq:m≤lv low to:=by rw [← hm]; split<;>omega
 have hm1:1≤m:=by rw [← hm]; split<;>omega
 have hs:=fun v=>N7 (low:=low) (x:=x) (e:=m) hxo.1 (by omega) v
 have hD:Dn (low.set x.toNat m)=Dn low:=by
  funext v
  apply propext
  show lv _ v=Di ↔ lv low v=Di
  rw [hs]
  split
  ·rename_i e; subst e; simp only [Di]; omega
  ·exact Iff.rfl
 refine ⟨⟨?_,?_,?_,R.inv.nodup,?_,?_⟩,?_,R.fresh,R.reach,?_,?_,?_,?_,fun y z h=>h4 y z (R.mono y z h)⟩
 ·rw [List.length_set]; exact hlen
 ·intro i v hv
  obtain ⟨g1,g2,g3,g4⟩:=R.inv.on i v hv
  rw [hs]
  split
  ·rename_i e; subst e; exact ⟨g1,g2,hm1,by omega⟩
  ·exact ⟨g1,g2,g3,g4⟩
 ·intro v g0 g1 hv
  have hvx:v ≠ x:=fun e=>hv (by rw [e]; simp)
  rw [hs,if_neg hvx]
  exact R.inv.off v g0 g1 hv
 ·intro i v hv
  rw [hs]
  split
  ·rename_i e
   subst e
   by_cases hlt:lv low to<lv low v
   ·rw [if_pos hlt] at hm
    subst hm
    rcases hto' with h | ⟨k,hk⟩
    ·have h:lv low to=Di:=h
     rw [h] at hlt
     simp only [Di] at hlt
     omega
    ·obtain ⟨j,u,e1,e2,e3⟩:=R.inv.back k to hk
     exact ⟨j,u,e1,e2, .step hto e3⟩
   ·rw [if_neg hlt] at hm
    subst hm
    exact R.inv.back i v hv
  ·exact R.inv.back i v hv
 ·intro v w hv hw
  have hv':Dn low v:=by rw [← hD]; exact hv
  show Dn _ w
  rw [hD]
  exact R.inv.clo v w hv' hw
 ·intro v hv
  have hvx:v ≠ x:=fun e=>hv (by rw [e]; exact hz)
  rw [hs,if_neg hvx]
  exact R.keep v hv
 ·intro i v hv
  have hvx:=R.not_x S (List.mem_of_getElem? hv)
  obtain ⟨g1,g2⟩:=R.strict i v hv
  rw [hs x,if_pos rfl,hs v,if_neg hvx]
  refine ⟨.inl ?_,g2⟩
  rcases g1 with g | g<;>omega
 ·intro v hv w hw
  obtain ⟨e1,e2,e3⟩:=R.edges v hv w hw
  rw [hs v,if_neg (R.not_x S hv)]
  refine ⟨?_,h4 _ _ e2,e3⟩
  rw [hs]
  split<;>omega
 ·intro w hw
  rw [hs x,if_pos rfl]
  refine ⟨?_,?_,?_⟩
  ·rw [hs]
   split
   ·omega
   ·rcases List.mem_append.1 hw with h | h
    ·exact (R.own w h).1
    ·simp at h; subst h; exact hne
  ·rcases List.mem_append.1 hw with h | h
   ·exact h4 _ _ (R.own w h).2.1
   ·simp at h; subst h; exact h3
  ·intro i hi
   rcases List.mem_append.1 hw with h | h
   ·have:=(R.own w h).2.2 i hi; omega
   ·simp at h
    subst h
    have:=(R.inv.on i w (LI hi _)).2.2.2
    omega
 ·rw [hD]; exact h2
theorem DY.stay (hz:lv low0 x=0) (R:DY S low0 stk x a0 (CW ll x n) (lv low x) low ext a) (hne:lv low x ≠ (stk.length:Int) +1):Ud S low0 stk x a0 low (x::ext) a:=by
 have hx:=R.x_on
 refine ⟨R.inv,R.keep,by omega,?_,?_,?_,?_,R.ok,R.mono⟩
 ·intro v hv
  rcases List.mem_cons.1 hv with h | h
  ·rw [h]; exact hz
  ·exact R.fresh v h
 ·intro v hv
  rcases List.mem_cons.1 hv with h | h
  ·rw [h]; exact .refl _
  ·exact R.reach v h
 ·intro i v hv
  cases i with
  | zero=>
   simp only [List.getElem?_cons_zero,Option.some.injEq] at hv
   subst hv
   exact ⟨Int.le_refl _,by omega⟩
  | succ i=>
   have:=R.strict i v (by simpa using hv)
   exact ⟨this.1.elim id id,by omega⟩
 ·intro v hv w hw
  rcases List.mem_cons.1 hv with h | h
  ·subst h; exact R.own w hw
  ·exact R.edges v h w hw
theorem Ue {low:List Int} : ∀(l:List Int),(∀v ∈ l,0≤v∧v< (low.length:Int))→l.length≤9223372036854775807→ ∃low':List Int,(forS 0 (l.length:Int) low fun i low=>(idx l i).bind fun y=>Dm low y 9223372036854775807)=some low'∧low'.length=low.length∧ ∀v,lv low' v=if v ∈ l then Di else lv low v:=by
 intro l hl hb
 obtain ⟨low',h1,h2,h3⟩:=B6 (f:=fun i (low:List Int)=>(idx l i).bind fun y=>Dm low y 9223372036854775807) (n:=l.length) (fun k low'=>low'.length=low.length∧ ∀v,lv low' v=if v ∈ l.take k then Di else lv low v) hb (s:=low) ⟨rfl,fun v=>by simp⟩ (fun k s hk ⟨g1,g2⟩=>by
  have hr:=hl _ (List.getElem_mem hk)
  refine ⟨s.set (l[k]).toNat Di,by rw [Es hk]; exact Ga hr.1 (by omega),by rw [List.length_set]; exact g1,fun v=> ?_⟩
  rw [N7 hr.1 (by omega),g2,List.take_succ_eq_append_getElem hk]
  by_cases e:v=l[k]
  ·rw [if_pos e,if_pos (List.mem_append_right _ (by rw [e]; exact List.mem_singleton.2 rfl))]
  ·rw [if_neg e]
   by_cases h:v ∈ l.take k
   ·rw [if_pos h,if_pos (List.mem_append_left _ h)]
   ·rw [if_neg h,if_neg fun g=>(List.mem_append.1 g).elim h fun g=>e (List.mem_singleton.1 g)])
 refine ⟨low',h1,h2,fun v=> ?_⟩
 rw [h3,List.take_length]
theorem DY.pop (hn:n≤100000) (hx: ∀u ∈ stk,Reach ll n u x) (hz:lv low0 x=0) (R:DY S low0 stk x a0 (CW ll x n) (lv low x) low ext a) (he:lv low x=(stk.length:Int) +1) {low':List Int} (hlen':low'.length=low.length) (hlow: ∀v,lv low' v=if v ∈ x::ext then Di else lv low v):
 ∃a',partA a (x::ext)=some a'∧Ud S low0 stk x a0 low' [] a':=by
 have hxo:=R.x_on
 have hsz:=R.inv.size
 have hlen:=R.inv.len
 rw [List.length_append,List.length_cons] at hsz
 have hge: ∀v ∈ x::ext,(stk.length:Int) +1≤lv low v:=fun v hv=>by
  rcases List.mem_cons.1 hv with h | h
  ·subst h; omega
  ·obtain ⟨i,hi⟩:=List.getElem?_of_mem h
   have:=(R.strict i v hi).1.elim id id
   omega
 have hed: ∀v ∈ x::ext,∀w ∈ CW ll v n,lv low w ≠ 0∧S.Q a v w∧ ∀i:Nat,stk[i]? =some w→lv low v≤(i:Int) +1:=fun v hv w hw=>by
  rcases List.mem_cons.1 hv with h | h
  ·subst h; exact R.own w hw
  ·exact R.edges v h w hw
 have hmem: ∀v ∈ x::ext,∃i:Nat,(stk++x::ext)[i]? =some v:=fun v hv=>List.getElem?_of_mem (List.mem_append_right _ hv)
 have hcl: ∀v ∈ x::ext,∀w ∈ CW ll v n,lv low w=Di∨w ∈ x::ext:=fun v hv w hw=>by
  obtain ⟨e1,e2,e3⟩:=hed v hv w hw
  obtain ⟨w0,w1⟩:=Hf hw
  by_cases hM:lv low w=Di
  ·exact .inl hM
  ·obtain ⟨i,hi⟩:=R.inv.mem hn w0 w1 e1 hM
   rcases FI hi with h | ⟨_,rfl⟩ | ⟨k,_,hk⟩
   ·have h1:=e3 i h
    have h2:=hge v hv
    have h3:=J9 h
    omega
   ·exact .inr (by simp)
   ·exact .inr (List.mem_cons_of_mem _ (List.mem_of_getElem? hk))
 have hnd: ∀v ∈ x::ext,¬lv low v=Di:=fun v hv=>by
  obtain ⟨i,hi⟩:=hmem v hv
  exact R.inv.notMax hn hi
 have hto: ∀v ∈ x::ext,Reach ll n x v∧Reach ll n v x:=fun v hv=>by
  obtain ⟨i,hi⟩:=hmem v hv
  refine ⟨?_,R.all S hx i v hi⟩
  rcases List.mem_cons.1 hv with h | h
  ·rw [h]; exact .refl _
  ·exact R.reach v h
 have hD:Dn low'=fun v=>Dn low v∨v ∈ x::ext:=by
  funext v
  apply propext
  show lv low' v=Di ↔ _
  rw [hlow]
  split
  ·exact ⟨fun _=> .inr (by assumption),fun _=>rfl⟩
  ·exact ⟨fun h=> .inl h,fun h=>h.elim id fun g=>absurd g (by assumption)⟩
 have hndp:=(List.nodup_append.1 R.inv.nodup).2.1
 obtain ⟨a',h1,h2,h3⟩:=S.part (l:=x::ext) R.ok (by simp) hndp (fun v hv=>by
  obtain ⟨i,hi⟩:=hmem v hv
  have:=R.inv.on i v hi
  exact ⟨this.1,this.2.1,hnd v hv⟩) (fun v hv w hw=>⟨(hed v hv w hw).2.1,hcl v hv w hw⟩) (fun v hv z=>by
  constructor
  ·intro hzl
   exact ⟨(hto v hv).2.trans (hto z hzl).1,(hto z hzl).2.trans (hto v hv).1⟩
  ·rintro ⟨g1,g2⟩
   rcases g1.closed (D:=fun v=>lv low v=Di∨v ∈ x::ext) (fun v w hv hw=>by
    rcases hv with h | h
    ·exact .inl (R.inv.clo v w h hw)
    ·exact hcl v h w hw) (.inr hv) with h | h
   ·exact absurd (g2.closed (D:=fun v=>lv low v=Di) (fun v w hv hw=>R.inv.clo v w hv hw) h) (hnd v hv)
   ·exact h)
 refine ⟨a',h1,⟨⟨?_,?_,?_,?_,?_,?_⟩,?_,?_,?_,?_,?_,?_,?_,fun y z h=>h3 y z (R.mono y z h)⟩⟩
 ·rw [hlen']; exact hlen
 ·intro i v hv
  rw [List.append_nil] at hv
  have hns:v ∉ x::ext:=fun h=>R.not_stk S h (List.mem_of_getElem? hv)
  rw [hlow,if_neg hns]
  exact R.inv.on i v (LI hv _)
 ·intro v g0 g1 hv
  rw [List.append_nil] at hv
  rw [hlow]
  split
  ·exact .inr rfl
  ·rename_i h
   exact R.inv.off v g0 g1 fun g=>(List.mem_append.1 g).elim hv h
 ·rw [List.append_nil]
  exact (List.nodup_append.1 R.inv.nodup).1
 ·intro i v hv
  rw [List.append_nil] at hv ⊢
  have hns:v ∉ x::ext:=fun h=>R.not_stk S h (List.mem_of_getElem? hv)
  obtain ⟨j,u,e1,e2,e3⟩:=R.inv.back i v (LI hv _)
  have h4:=(R.inv.on i v (LI hv _)).2.2.2
  have h5:=J9 hv
  refine ⟨j,u,by rw [hlow,if_neg hns]; exact e1,?_,e3⟩
  rw [List.getElem?_append_left (by omega)] at e2
  exact e2
 ·intro v w hv hw
  have hv':Dn low v∨v ∈ x::ext:=by
   have:Dn low' v:=hv
   rwa [hD] at this
  show Dn low' w
  rw [hD]
  rcases hv' with h | h
  ·exact .inl (R.inv.clo v w h hw)
  ·exact hcl v h w hw
 ·intro v hv
  have hns:v ∉ x::ext:=fun h=>by
   rcases List.mem_cons.1 h with h | h
   ·rw [h] at hv; exact hv hz
   ·exact hv (R.fresh v h)
  rw [hlow,if_neg hns]
  exact R.keep v hv
 ·rw [hlow,if_pos (by simp)]; decide
 ·intro v hv; cases hv
 ·intro v hv; cases hv
 ·intro i v hv; simp at hv
 ·intro v hv; cases hv
 ·rw [hD]; exact h2
theorem QJ (hn:n≤100000) (hll: ∀l ∈ ll,l.length≤1073741824): ∀(fuel:Nat) (low stk:List Int) (a:A) (x:Int),Inv ll n low stk→0≤x→x<n→lv low x=0→(∀u ∈ stk,Reach ll n u x)→S.I (Dn low) a→low.count 0≤fuel→
 ∃low' ext a',Ip ll n ledA partA fuel (low,stk,a) x=some (low',stk++ext,a')∧Ud S low stk x a low' ext a':=by
 intro fuel
 induction fuel with
 | zero=>
  intro low stk a x H h0 h1 hx _ _ hc
  have hlen:=H.len
  have:=HD (e:=1) h0 (by omega) hx (by decide)
  omega
 | succ f ih=>
  intro low stk a x H h0 h1 hx hr hI hc
  have hlen:=H.len
  have hsz:=H.size
  have hfl:(CW ll x n).length≤1073741824:=by
   unfold CW
   split
   ·simp
   ·refine Nat.le_trans (List.length_filter_le _ _) ?_
    cases hg:ll[x.toNat]? with
    | none=>simp
    | some l=>exact hll l (List.mem_of_getElem? hg)
  show ∃low' ext a',MC ll n ledA partA (Ip ll n ledA partA f) (low,stk,a) x=some (low',stk++ext,a')∧_
  unfold MC
  dsimp only
  rw [Pq (by simp; omega),Option.bind_some,Ga h0 (by omega),Option.bind_some,EU hll]
  have hst:(((stk++ [x]).length:Nat):Int)=(stk.length:Int) +1:=by simp
  rw [hst]
  have hc1:=HD (e:=(stk.length:Int) +1) h0 (by omega) hx (by omega)
  obtain ⟨st,e1,low1,ext1,a1,rfl,R,hc2⟩:=B6 (f:=fun i st=>(idx (CW ll x n) i).bind fun to=>toD ledA (Ip ll n ledA partA f) x to st) (n:=(CW ll x n).length)
   (fun k st=> ∃low1 ext1 a1,st=((low1,stk++x::ext1,a1):C7 A)∧DY S low stk x a ((CW ll x n).take k) (lv low1 x) low1 ext1 a1∧low1.count 0≤f) (by omega) (s:=((low.set x.toNat ((stk.length:Int) +1),stk++ [x],a):C7 A))
   ⟨_, [],a,rfl,by rw [List.take_zero]; exact DY.begin S hn H h0 h1 hx hI,by omega⟩ (fun k st hk ⟨low1,ext1,a1,e,R,hc2⟩=>by
    subst e
    have hto:=List.getElem_mem hk
    obtain ⟨t0,t1⟩:=Hf hto
    have hl1:=R.inv.len
    rw [Es hk,Option.bind_some,List.take_succ_eq_append_getElem hk]
    generalize (CW ll x n)[k] =to at *
    unfold toD
    dsimp only
    rw [LH t0 (by omega),Option.bind_some]
    have mid: ∃low2 ext2 a2,(cond (lv low1 to==0) (Ip ll n ledA partA f (low1,stk++x::ext1,a1) to) (some (low1,stk++x::ext1,a1)))=some (low2,stk++x::ext2,a2)∧DY S low stk x a ((CW ll x n).take k) (lv low2 to) low2 ext2 a2∧lv low2 to ≠ 0∧low2.count 0≤f:=by
     by_cases hz:lv low1 to=0
     ·rw [show (lv low1 to==0)=true by simp [hz],cond_true]
      obtain ⟨low2,ext2,a2,g1,g2⟩:=ih low1 (stk++x::ext1) a1 to R.inv t0 t1 hz (fun u hu=>by
       obtain ⟨i,hi⟩:=List.getElem?_of_mem hu
       exact (R.all S hr i u hi).trans (.one hto)) R.ok hc2
      refine ⟨low2,ext1++ext2,a2,by rw [g1,List.append_assoc,List.cons_append],R.child S hto hz g2,g2.seen,?_⟩
      have hl2:=g2.inv.len
      exact Nat.le_trans (PA (by omega) fun v hv=>by rw [g2.keep v hv]; exact hv) hc2
     ·rw [show (lv low1 to==0)=false by simp [hz],cond_false]
      exact ⟨low1,ext1,a1,rfl,⟨R.inv,R.keep,R.fresh,R.reach,fun i v hv=>⟨.inl ((R.strict i v hv).1.elim id id),(R.strict i v hv).2⟩,R.edges,R.own,R.ok,R.mono⟩,hz,hc2⟩
    obtain ⟨low2,ext2,a2,g1,R2,hne,hc3⟩:=mid
    have hl2:=R2.inv.len
    have hx2:=R2.x_on
    rw [g1]
    simp only [Option.bind_some]
    rw [LH h0 (by omega),Option.bind_some,LH t0 (by omega),Option.bind_some,Ga h0 (by omega),Option.bind_some]
    obtain ⟨a3,g3,R3⟩:=R2.upd S hn hr hx hto hne
    refine ⟨_,by rw [g3]; rfl,_,ext2,a3,rfl,R3,?_⟩
    refine Nat.le_trans (PA (by simp) fun v hv=> ?_) hc3
    rw [N7 h0 (by omega)]
    split
    ·have:1≤lv low2 to:=by
      by_cases hM:lv low2 to=Di
      ·rw [hM]; decide
      ·obtain ⟨i,hi⟩:=R2.inv.mem hn t0 t1 hne hM
       exact (R2.inv.on i to hi).2.2.1
     split<;>omega
    ·exact hv)
  rw [List.take_length] at R
  have hl1:=R.inv.len
  have hs1:=R.inv.size
  have hxo:=R.x_on
  rw [e1,Option.bind_some]
  unfold SX
  dsimp only
  rw [LH h0 (by omega),Option.bind_some,hst]
  by_cases hd:lv low1 x=(stk.length:Int) +1
  ·rw [show (lv low1 x !=(stk.length:Int) +1)=false by simp [hd],cond_false]
   have hsn:(stk++ [x]).length=stk.length+1:=by simp
   rw [hsn,EU ⟨by omega,by simp,by omega⟩]
   have hdr:(stk++x::ext1).drop (stk.length+1 - 1)=x::ext1:=by simp
   have htk:(stk++x::ext1).take (stk.length+1 - 1)=stk:=by simp
   rw [hdr,htk]
   obtain ⟨low2,g1,g2,g3⟩:=Ue (low:=low1) (x::ext1) (fun v hv=>by
    obtain ⟨i,hi⟩:=List.getElem?_of_mem (List.mem_append_right stk hv)
    have:=R.inv.on i v hi
    exact ⟨this.1,by omega⟩) (by rw [List.length_append] at hs1; omega)
   obtain ⟨a2,g4,g5⟩:=R.pop S hn hr hx hd g2 g3
   exact ⟨low2, [],a2,by rw [g1,Option.bind_some,g4,List.append_nil]; rfl,g5⟩
  ·rw [show (lv low1 x !=(stk.length:Int) +1)=true by simp [hd],cond_true]
   exact ⟨low1,x::ext1,a1,rfl,R.stay S hx hd⟩
end
section
variable {ll:List (List Int)} {n:Int} {A:Type} {ledA:A→Int→Int→Option A} {partA:A→List Int→Option A} (S:V0 ll n ledA partA)
theorem Rs (h0:0≤n) (hn:n≤100000) (hll: ∀l ∈ ll,l.length≤1073741824) {a:A} (hI:S.I (fun _=>False) a) {fuel:Nat} (hf:n.toNat≤fuel): ∃st',ND ll n ledA partA fuel a=some st'∧S.I (fun v=>0≤v∧v<n) st'.2.2:=by
 unfold ND
 rw [EU ⟨h0,by omega⟩]
 have hrep: ∀v,lv (List.replicate n.toNat (0:Int)) v=0:=fun v=>by
  unfold lv idx
  split
  ·rw [List.getElem?_replicate]
   split<;>rfl
  ·rfl
 have hn':n=((n.toNat:Nat):Int):=by omega
 have hloop:=B6 (f:=fun i (st:C7 A)=>(idx st.1 i).bind fun e=>cond (e==0) (Ip ll n ledA partA fuel st i) (some st)) (n:=n.toNat)
  (fun k st=> ∃low a',st=(low, [],a')∧Inv ll n low [] ∧(∀v:Int,0≤v→v<k→lv low v ≠ 0)∧S.I (Dn low) a') (by omega) (s:=(List.replicate n.toNat (0:Int), [],a))
  ⟨_,_,rfl,⟨by simp; omega,fun i v hv=>by simp at hv,fun v _ _ _=> .inl (hrep v), .nil,fun i v hv=>by simp at hv,fun v w hv=>by rw [hrep] at hv; simp [Di] at hv⟩,fun v g0 g1=>by omega,by
   have:Dn (List.replicate n.toNat (0:Int))=fun _=>False:=by
    funext v
    apply propext
    show lv _ v=Di ↔ False
    rw [hrep]
    exact ⟨fun h=>(by simp [Di] at h),fun h=>h.elim⟩
   rw [this]; exact hI⟩ (fun k st hk ⟨low,a1,e,H,hseen,hok⟩=>by
    subst e
    have hlen:=H.len
    dsimp only
    rw [LH (by omega) (by omega),Option.bind_some]
    by_cases hz:lv low (k:Int)=0
    ·rw [show (lv low (k:Int)==0)=true by simp [hz],cond_true]
     have hcl:low.count 0≤low.length:=List.count_le_length
     obtain ⟨low',ext,a2,g1,Po⟩:=QJ S hn hll fuel low [] a1 k H (by omega) (by omega) hz (fun u hu=>by cases hu) hok (by omega)
     have hext:ext= [] :=by
      cases ext with
      | nil=>rfl
      | cons v r=>
       have h1:=(Po.strict 0 v rfl).2
       have h2:=(Po.inv.on 0 v rfl).2.2.1
       simp at h1
       omega
     subst hext
     refine ⟨_,g1,low',a2,rfl,Po.inv,fun v g0 g2=> ?_,Po.ok⟩
     by_cases hv:v=(k:Int)
     ·subst hv; exact Po.seen
     ·have:=hseen v g0 (by omega)
      rw [Po.keep v this]; exact this
    ·rw [show (lv low (k:Int)==0)=false by simp [hz],cond_false]
     refine ⟨_,rfl,low,a1,rfl,H,fun v g0 g2=> ?_,hok⟩
     by_cases hv:v=(k:Int)
     ·subst hv; exact hz
     ·exact hseen v g0 (by omega))
 rw [← hn'] at hloop
 obtain ⟨st',e1,low,a',rfl,H,hseen,hok⟩:=hloop
 refine ⟨_,e1,?_⟩
 have hlen:=H.len
 have:Dn low=fun v=>0≤v∧v<n:=by
  funext v
  apply propext
  show lv low v=Di ↔ _
  constructor
  ·intro h
   rcases Int.lt_or_le v 0 with g | g
   ·rw [TZ (.inl g)] at h; cases h
   ·refine ⟨g,?_⟩
    rcases Int.lt_or_le v n with g' | g'
    ·exact g'
    ·rw [TZ (.inr (by omega))] at h; cases h
  ·rintro ⟨g0,g1⟩
   rcases H.off v g0 g1 (by simp) with h | h
   ·exact absurd h (hseen v g0 (by omega))
   ·exact h
 rw [← this]
 exact hok
end
def gv (a:List AT) (v:Int):AT:=(idx a v).getD (0, [])
theorem N8 {a:List AT} {v:Int} (h0:0≤v) (h1:v< (a.length:Int)):idx a v=some (gv a v):=by
 have:idx a v=some a[v.toNat] :=JC h0 (by omega)
 unfold gv
 rw [this]; rfl
theorem Ta {a:List AT} {x:Int} {s:AT} (h0:0≤x) (h1:x< (a.length:Int)) (v:Int):gv (a.set x.toNat s) v=if v=x then s else gv a v:=by
 by_cases hv:v=x
 ·subst hv
  rw [if_pos rfl]
  unfold gv idx
  rw [if_pos h0,List.getElem?_set,if_pos rfl,if_pos (by omega)]
  rfl
 ·rw [if_neg hv]
  unfold gv idx
  split
  ·rw [List.getElem?_set,if_neg (by omega)]
  ·rfl
section
variable (ll:List (List Int)) (n wide:Int) (B:List AT)
def Jv (v j:Int):Prop:= ∃z,Reach ll n v z∧mem (gv B z) j=true
structure Iy (a:List AT):Prop where
 len:(a.length:Int)=n
 ok: ∀v,0≤v→v<n→OkS (gv a v)∧(gv a v).1=wide
 base: ∀v j,0≤v→v<n→mem (gv B v) j=true→mem (gv a v) j=true
 sound: ∀v j,0≤v→v<n→mem (gv a v) j=true→Jv ll n B v j
variable {ll n wide B}
theorem Jv.back {v w j:Int} (h:Reach ll n v w) (k:Jv ll n B w j):Jv ll n B v j:=by
 obtain ⟨z,h1,h2⟩:=k
 exact ⟨z,h.trans h1,h2⟩
theorem Uf {a:List AT} (H:Iy ll n wide B a) {v j:Int} (h0:0≤v) (h1:v<n) (h:mem (gv a v) j=true):j<wide:=by
 obtain ⟨k1,k2⟩:=H.ok v h0 h1
 have:=(K6 k1 h).2
 omega
theorem Iy.led {a:List AT} (H:Iy ll n wide B a) {x to:Int} (h0:0≤x) (h1:x<n) (t0:0≤to) (t1:to<n) (hr:Reach ll n x to): ∃a',MJ a x to=some a'∧Iy ll n wide B a'∧(∀v,v ≠ x→gv a' v=gv a v)∧(∀j,mem (gv a' x) j=(mem (gv a x) j || mem (gv a to) j)):=by
 have hlen:=H.len
 obtain ⟨kx,wx⟩:=H.ok x h0 h1
 obtain ⟨kt,wt⟩:=H.ok to t0 t1
 obtain ⟨u1,u2,u3⟩:=Kb kx kt
 have hs:=fun v=>Ta (a:=a) (x:=x) (s:=BB (gv a x) (gv a to)) h0 (by omega) v
 have hm: ∀j,mem (BB (gv a x) (gv a to)) j=(mem (gv a x) j || mem (gv a to) j):=fun j=>by
  rw [u3]
  by_cases h:mem (gv a to) j=true
  ·have:=Uf H t0 t1 h
   rw [decide_eq_true (by omega),Bool.and_true]
  ·rw [Bool.not_eq_true] at h
   rw [h]; rfl
 refine ⟨a.set x.toNat (BB (gv a x) (gv a to)),?_,⟨by rw [List.length_set]; exact hlen,?_,?_,?_⟩,fun v hv=>by rw [hs,if_neg hv],fun j=>by rw [hs,if_pos rfl,hm]⟩
 ·unfold MJ
  rw [N8 h0 (by omega),Option.bind_some,N8 t0 (by omega),Option.bind_some,EU ⟨kx,kt⟩,Ga h0 (by omega)]
 ·intro v g0 g1
  rw [hs]
  split
  ·exact ⟨u1,by rw [u2,wx]⟩
  ·exact H.ok v g0 g1
 ·intro v j g0 g1 h
  rw [hs]
  split
  ·rename_i e
   subst e
   rw [hm,H.base v j g0 g1 h]; rfl
  ·exact H.base v j g0 g1 h
 ·intro v j g0 g1 h
  rw [hs] at h
  split at h
  ·rename_i e
   subst e
   rw [hm,Bool.or_eq_true] at h
   rcases h with h | h
   ·exact H.sound v j g0 g1 h
   ·exact (H.sound to j t0 t1 h).back hr
  ·exact H.sound v j g0 g1 h
theorem Ug {s:AT} (H:OkS s):CF s=some s:=by
 unfold CF cloneD
 have h1:=H.len
 have h2:=H.hi
 rw [if_pos (by omega)]
 rfl
theorem Iy.part {a:List AT} (H:Iy ll n wide B a) {l0:Int} {l:List Int} (hin: ∀v ∈ l0::l,0≤v∧v<n) (hnd:(l0::l).Nodup) (hb:l.length≤100000) (hr: ∀v ∈ l0::l,∀w ∈ l0::l,Reach ll n v w):
 ∃a',La a (l0::l)=some a'∧Iy ll n wide B a'∧(∀v,v ∉ l0::l→gv a' v=gv a v)∧ ∀v ∈ l0::l,∀w ∈ l0::l,∀j,mem (gv a w) j=true→mem (gv a' v) j=true:=by
 have i0:=hin l0 (by simp)
 have hnl:l0 ∉ l:=(List.nodup_cons.1 hnd).1
 obtain ⟨a1,e1,H1,o1,m1,n1⟩:=B6 (f:=fun i (a:List AT)=>(idx l i).bind fun y=>MJ a l0 y) (n:=l.length)
  (fun k b=>Iy ll n wide B b∧(∀v,v ≠ l0→gv b v=gv a v)∧(∀j,mem (gv a l0) j=true→mem (gv b l0) j=true)∧ ∀w ∈ l.take k,∀j,mem (gv a w) j=true→mem (gv b l0) j=true) (by omega) (s:=a)
  ⟨H,fun _ _=>rfl,fun _ h=>h,fun w hw=>by simp at hw⟩ (fun k b hk ⟨Hb,ob,mb,nb⟩=>by
   have hy:l[k] ∈ l:=List.getElem_mem hk
   obtain ⟨y0,y1⟩:=hin _ (List.mem_cons_of_mem _ hy)
   obtain ⟨b',g1,g2,g3,g4⟩:=Hb.led i0.1 i0.2 y0 y1 (hr _ (by simp) _ (List.mem_cons_of_mem _ hy))
   refine ⟨b',by rw [Es hk]; exact g1,g2,fun v hv=>(g3 v hv).trans (ob v hv),fun j h=>by rw [g4,mb j h]; rfl,fun w hw j h=> ?_⟩
   rw [List.take_succ_eq_append_getElem hk] at hw
   rw [g4]
   rcases List.mem_append.1 hw with hw | hw
   ·rw [nb w hw j h]; rfl
   ·have hw:=List.mem_singleton.1 hw
    rw [hw] at h
    have h2:=ob l[k] (fun e=>hnl (by rw [← e]; exact hy))
    rw [h2,h,Bool.or_true])
 rw [List.take_length] at n1
 have hl1:=H1.len
 have k1:=H1.ok l0 i0.1 i0.2
 obtain ⟨a2,e2,H2,o2,m2⟩:=B6 (f:=fun i (a:List AT)=>(idx l i).bind fun y=>(idx a l0).bind fun s=>(CF s).bind fun s=>Dm a y s) (n:=l.length)
  (fun k b=>Iy ll n wide B b∧(∀v,v ∉ l.take k→gv b v=gv a1 v)∧ ∀v ∈ l.take k,gv b v=gv a1 l0) (by omega) (s:=a1)
  ⟨H1,fun _ _=>rfl,fun w hw=>by simp at hw⟩ (fun k b hk ⟨Hb,ob,mb⟩=>by
   have hy:l[k] ∈ l:=List.getElem_mem hk
   have hlb:=Hb.len
   obtain ⟨y0,y1⟩:=hin _ (List.mem_cons_of_mem _ hy)
   have hb0:gv b l0=gv a1 l0:=ob l0 fun h=>hnl (List.mem_of_mem_take h)
   have hs:=fun v=>Ta (a:=b) (x:=l[k]) (s:=gv a1 l0) y0 (by omega) v
   refine ⟨b.set (l[k]).toNat (gv a1 l0),?_,⟨by rw [List.length_set]; exact hlb,?_,?_,?_⟩,?_,?_⟩
   ·rw [Es hk,Option.bind_some,N8 i0.1 (by omega),Option.bind_some,hb0,Ug k1.1,Option.bind_some,Ga y0 (by omega)]
   ·intro v g0 g1
    rw [hs]
    split
    ·exact k1
    ·exact Hb.ok v g0 g1
   ·intro v j g0 g1 h
    rw [hs]
    split
    ·rename_i e
     subst e
     exact n1 _ hy j (H.base _ j g0 g1 h)
    ·exact Hb.base v j g0 g1 h
   ·intro v j g0 g1 h
    rw [hs] at h
    split at h
    ·rename_i e
     subst e
     exact (H1.sound l0 j i0.1 i0.2 h).back (hr _ (List.mem_cons_of_mem _ hy) _ (by simp))
    ·exact Hb.sound v j g0 g1 h
   ·intro v hv
    rw [List.take_succ_eq_append_getElem hk] at hv
    have h1:v ∉ l.take k:=fun h=>hv (List.mem_append_left _ h)
    have h2:v ≠ l[k] :=fun h=>hv (List.mem_append_right _ (List.mem_singleton.2 h))
    rw [hs,if_neg h2]
    exact ob v h1
   ·intro v hv
    rw [List.take_succ_eq_append_getElem hk] at hv
    rw [hs]
    split
    ·rfl
    ·rename_i h2
     rcases List.mem_append.1 hv with h | h
     ·exact mb v h
     ·exact absurd (List.mem_singleton.1 h) h2)
 rw [List.take_length] at o2 m2
 refine ⟨a2,?_,H2,fun v hv=> ?_,fun v hv w hw j h=> ?_⟩
 ·unfold La
  rw [show idx (l0::l) 0=some l0 from rfl,Option.bind_some,show (l0::l).drop 1=l from rfl,e1,Option.bind_some,e2]
 ·rw [List.mem_cons,not_or] at hv
  rw [o2 v hv.2,o1 v hv.1]
 ·have hv':gv a2 v=gv a1 l0:=by
   rcases List.mem_cons.1 hv with e | e
   ·rw [e]; exact o2 l0 hnl
   ·exact m2 v e
  rw [hv']
  rcases List.mem_cons.1 hw with e | e
  ·subst e; exact m1 j h
  ·exact n1 w e j h
def Rt (hn:n≤100000):V0 ll n MJ La where
 I D a:=Iy ll n wide B a∧ ∀v,D v→0≤v→v<n→ ∀j,Jv ll n B v j→mem (gv a v) j=true
 Q a y z:= ¬Reach ll n z y→ ∀j,Jv ll n B z j→mem (gv a y) j=true
 led:=by
  rintro D a x to ⟨H,hD⟩ h0 h1 hto hr hx
  obtain ⟨t0,t1⟩:=Hf hto
  obtain ⟨a',e,H',o,m⟩:=H.led h0 h1 t0 t1 (.one hto)
  have grow: ∀v j,mem (gv a v) j=true→mem (gv a' v) j=true:=fun v j h=>by
   by_cases hv:v=x
   ·subst hv; rw [m,h]; rfl
   ·rw [o v hv]; exact h
  refine ⟨a',e,⟨H',fun v hv g0 g1 j hj=>grow v j (hD v hv g0 g1 j hj)⟩,fun hnr j hj=> ?_,fun y z h hnr j hj=>grow y j (h hnr j hj)⟩
  rcases hr with g | g
  ·rw [m,hD to g t0 t1 j hj,Bool.or_true]
  ·exact absurd g hnr
 part:=by
  rintro D a l ⟨H,hD⟩ hne hnd hin hq hscc
  obtain ⟨l0,l',rfl⟩: ∃l0 l',l=l0::l':=by
   cases l with
   | nil=>exact absurd rfl hne
   | cons a l=>exact ⟨a,l,rfl⟩
  have hlen:(l0::l').length≤100000:=by
   have h:=List.Nodup.length_le_of_subset (l₂:=(List.range n.toNat).map fun k:Nat=>(k:Int)) hnd (fun v hv=>by
    have:=hin v hv
    exact List.mem_map.2 ⟨v.toNat,List.mem_range.2 (by omega),by omega⟩)
   simp at h ⊢
   omega
  obtain ⟨a',e,H',o,m⟩:=H.part (fun v hv=>⟨(hin v hv).1,(hin v hv).2.1⟩) hnd (by simp at hlen; omega) (fun v hv w hw=>((hscc v hv w).1 hw).1)
  have grow: ∀v j,mem (gv a v) j=true→mem (gv a' v) j=true:=fun v j h=>by
   by_cases hv:v ∈ l0::l'
   ·exact m v hv v hv j h
   ·rw [o v hv]; exact h
  have key: ∀ {y z:Int},Reach ll n y z→ ∀j,mem (gv B z) j=true→y ∈ l0::l'→ ∃w ∈ l0::l',mem (gv a w) j=true:=fun {y z} hr j hj=>by
   induction hr with
   | refl y=>
    intro hy
    exact ⟨y,hy,H.base y j (hin y hy).1 (hin y hy).2.1 hj⟩
   | @step y w z he hr ih=>
    intro hy
    by_cases hw:w ∈ l0::l'
    ·exact ih hj hw
    ·refine ⟨y,hy,(hq y hy w he).1 (fun hwy=>hw ((hscc y hy w).2 ⟨.one he,hwy⟩)) j ⟨z,hr,hj⟩⟩
  refine ⟨a',e,⟨H',fun v hv g0 g1 j hj=> ?_⟩,fun y z h hnr j hj=>grow y j (h hnr j hj)⟩
  rcases hv with hv | hv
  ·exact grow v j (hD v hv g0 g1 j hj)
  ·obtain ⟨z,hz1,hz2⟩:=hj
   obtain ⟨w,hw,hm⟩:=key hz1 j hz2 hv
   exact m v hv w hw j hm
end
theorem JK {α:Type} {f:Int→List α→Option (List α)} {n:Nat} (hn:n≤9223372036854775807) (P:Nat→α→Prop) (hs: ∀(k:Nat) (acc:List α),k<n→acc.length=k→ ∃x,f (k:Int) acc=some (acc++ [x])∧P k x):
 ∃r,forS 0 (n:Int) ([] :List α) f=some r∧r.length=n∧ ∀(k:Nat) (x:α),r[k]? =some x→P k x:=by
 obtain ⟨r,h1,h2,h3⟩:=B6 (f:=f) (n:=n) (fun k acc=>acc.length=k∧ ∀(j:Nat) (x:α),acc[j]? =some x→P j x) hn (s:= []) ⟨rfl,fun j x h=>by simp at h⟩ (fun k acc hk ⟨g1,g2⟩=>by
  obtain ⟨x,e1,e2⟩:=hs k acc hk g1
  refine ⟨_,e1,by simp [g1],fun j y hj=> ?_⟩
  rcases Nat.lt_trichotomy j acc.length with g | g | g
  ·rw [List.getElem?_append_left g] at hj; exact g2 j y hj
  ·subst g
   rw [List.getElem?_append_right (Nat.le_refl _),Nat.sub_self] at hj
   cases hj
   rw [g1]; exact e2
  ·rw [List.getElem?_eq_none (by simp; omega)] at hj; cases hj)
 exact ⟨r,h1,h2,h3⟩
theorem Uh {α:Type} {l:List α} (h:l.length<1073741824) (x:α):app l [x] =some (l++ [x]):=Pq (by simp; omega)
theorem WV {l:List Int} (h:l.length≤9223372036854775807) (x:Int):Ce l x=some (decide (x ∈ l)):=by
 unfold Ce
 rcases KS (f:=fun i_z2 (z2:Unit)=>(idx l i_z2).bind fun e23=>cond (e23==x) (some (AW.done true)) (some (AW.next ()))) (fun k _=>x ∉ l.take k) (fun b=>b=true∧x ∈ l) h (s:=()) (by simp) (fun k s hk hI=>by
  rw [Es hk,Option.bind_some]
  by_cases e:l[k] =x
  ·rw [show (l[k] ==x)=true by simp [e]]
   exact .inr ⟨true,rfl,rfl,by rw [← e]; exact List.getElem_mem hk⟩
  ·rw [show (l[k] ==x)=false by simp [e]]
   refine .inl ⟨(),rfl,?_⟩
   rw [List.take_succ_eq_append_getElem hk]
   intro hm
   rcases List.mem_append.1 hm with g | g
   ·exact hI g
   ·exact e (List.mem_singleton.1 g).symm) with ⟨s,e,hI⟩ | ⟨b,e,rfl,hx⟩
 ·rw [List.take_length] at hI
  rw [e,decide_eq_false hI]; rfl
 ·rw [e,decide_eq_true hx]; rfl
theorem Iw {l:List Int} (h:l.length≤9223372036854775807) (x:Int):Dk l x=some (decide (x ∈ l)):=by
 unfold Dk EX
 rcases KS (f:=fun i_z2 (z2:Unit)=>(idx l i_z2).bind fun e23=>cond (x==e23) (some (AW.done i_z2)) (some (AW.next ()))) (fun k _=>x ∉ l.take k) (fun (b:Int)=>0≤b∧x ∈ l) h (s:=()) (by simp) (fun k s hk hI=>by
  rw [Es hk,Option.bind_some]
  by_cases e:x=l[k]
  ·rw [show (x==l[k])=true by simp [e]]
   exact .inr ⟨(k:Int),rfl,by omega,by rw [e]; exact List.getElem_mem hk⟩
  ·rw [show (x==l[k])=false by simp [e]]
   refine .inl ⟨(),rfl,?_⟩
   rw [List.take_succ_eq_append_getElem hk]
   intro hm
   rcases List.mem_append.1 hm with g | g
   ·exact hI g
   ·exact e (List.mem_singleton.1 g)) with ⟨s,e,hI⟩ | ⟨b,e,hb,hx⟩
 ·rw [List.take_length] at hI
  rw [e,decide_eq_false hI]; rfl
 ·rw [e,decide_eq_true hx]
  show some (decide (b≥0))=_
  rw [decide_eq_true (show b≥0 from hb)]
structure Few (ll base:List (List Int)):Prop where
 e:ll.length≤25
 b:base.length≤25
 el: ∀l ∈ ll,l.length≤10
 bl: ∀l ∈ base,l.length≤10
theorem LJ (s:AT):(DF s).length≤64 * s.2.length:=NE _ _
theorem Le {s:AT} (H:OkS s):(DF s).length≤1073741824:=by
 have h1:=LJ s
 have h2:=H.len
 have h3:=H.hi
 omega
theorem N9 {n:Int} (h0:0≤n) (h1:n≤1000):JZ n=n:=by unfold JZ; rw [if_neg (by omega),if_neg (by omega)]
def bz (base:List (List Int)) (z:Int):List Int:=(idx base z).getD []
theorem Q0 {a:List AT} {k:Nat} {s:AT} (h:a[k]? =some s):gv a (k:Int)=s:=by
 unfold gv
 rw [Cq,h]; rfl
theorem PB {ll:List (List Int)} {B:List AT} {wide:Int} (h0:0≤wide) (h1:wide≤1000) (hb:B.length≤100000) (hll: ∀l ∈ ll,l.length≤1073741824) (hB: ∀(k:Nat) (s:AT),B[k]? =some s→OkS s∧s.1=wide):
 ∃r,Gs ll B=some r∧r.length=B.length∧ ∀(k:Nat) (s:AT),r[k]? =some s→OkS s∧s.1=wide∧ ∀j,mem s j=true ↔ Jv ll (B.length:Int) B k j:=by
 unfold Gs
 have hget: ∀k (hk:k<B.length),OkS B[k] ∧B[k].1=wide:=fun k hk=>hB k _ (List.getElem?_eq_getElem hk)
 have hgv: ∀v:Int,0≤v→v< (B.length:Int)→OkS (gv B v)∧(gv B v).1=wide:=fun v g0 g1=>by
  have:=hget v.toNat (by omega)
  rw [← Q0 (List.getElem?_eq_getElem (show v.toNat<B.length by omega)),Int.toNat_of_nonneg g0] at this
  exact this
 obtain ⟨w,ew,hw⟩:=B6 (f:=fun i (w:Int)=>(idx B i).bind fun s=>some (if s.1>w then s.1 else w)) (n:=B.length) (fun k (w:Int)=>0≤w∧w≤wide∧(0<k→w=wide)) (by omega) (s:=0) ⟨by omega,by omega,by omega⟩ (fun k w hk ⟨g0,g1,g2⟩=>by
  rw [Es hk,Option.bind_some,(hget k hk).2]
  refine ⟨_,rfl,?_⟩
  split
  ·exact ⟨by omega,by omega,fun _=>rfl⟩
  ·exact ⟨by omega,by omega,by omega⟩)
 rw [ew,Option.bind_some]
 obtain ⟨all,ea,la,pa⟩:=JK (f:=fun i (acc:List AT)=>(idx B i).bind fun s=>(Hw s).bind fun l=>(CQ w l).bind fun s'=>app acc [s']) (n:=B.length) (by omega) (fun k s=>OkS s∧s.1=wide∧ ∀j,mem s j=mem (gv B k) j) (fun k acc hk ha=>by
  have hk':=hget k hk
  have hwe:w=wide:=hw.2.2 (by omega)
  rw [Es hk,Option.bind_some,Iq hk'.1,Option.bind_some]
  obtain ⟨s,e,g1,g2,g3⟩:=of_ok w (DF B[k]) (by have:=Le hk'.1; omega)
  rw [hwe,N9 h0 h1] at g2 g3
  refine ⟨s,by rw [e,Option.bind_some,Uh (by omega)],g1,g2,fun j=> ?_⟩
  rw [g3,Q0 (List.getElem?_eq_getElem hk)]
  by_cases hm:mem B[k] j=true
  ·have h2:=K6 hk'.1 hm
   rw [hk'.2] at h2
   rw [decide_eq_true h2,hm,Bool.true_and]
   exact List.contains_iff_mem.2 ((ED hk'.1 j).2 hm)
  ·have hn:(DF B[k]).contains j=false:=by
    rw [Bool.eq_false_iff]
    intro hc
    exact hm ((ED hk'.1 j).1 (List.contains_iff_mem.1 hc))
   rw [hn,Bool.and_false]
   rw [Bool.not_eq_true] at hm
   exact hm.symm)
 rw [ea,Option.bind_some]
 have hall: ∀v:Int,0≤v→v< (B.length:Int)→OkS (gv all v)∧(gv all v).1=wide∧ ∀j,mem (gv all v) j=mem (gv B v) j:=fun v g0 g1=>by
  have hlt:v.toNat<all.length:=by omega
  have:=pa v.toNat _ (List.getElem?_eq_getElem hlt)
  rw [← Q0 (List.getElem?_eq_getElem hlt),Int.toNat_of_nonneg g0] at this
  exact this
 have hS:Iy ll (B.length:Int) wide B all:=⟨by omega,fun v g0 g1=>⟨(hall v g0 g1).1,(hall v g0 g1).2.1⟩,fun v j g0 g1 h=>by rw [(hall v g0 g1).2.2]; exact h,fun v j g0 g1 h=>⟨v, .refl _,by rw [← (hall v g0 g1).2.2]; exact h⟩⟩
 obtain ⟨⟨low,stk,fin⟩,est,hI,hD⟩:=Rs (Rt (ll:=ll) (n:=(B.length:Int)) (wide:=wide) (B:=B) (by omega)) (by omega) (by omega) hll (a:=all) ⟨hS,fun v hv=>hv.elim⟩ (fuel:=B.length) (by omega)
 dsimp only at hI hD
 have hfin: ∀v:Int,0≤v→v< (B.length:Int)→ ∀j,mem (gv fin v) j=true ↔ Jv ll (B.length:Int) B v j:=fun v g0 g1 j=>⟨hI.sound v j g0 g1,hD v ⟨g0,g1⟩ g0 g1 j⟩
 rw [est,Option.bind_some]
 have lf:=hI.len
 refine JK (by omega) (fun k s=>OkS s∧s.1=wide∧ ∀j,mem s j=true ↔ Jv ll (B.length:Int) B k j) fun k acc hk ha=> ?_
 have hk':=hget k hk
 obtain ⟨f1,f2⟩:=hI.ok (k:Int) (by omega) (by omega)
 dsimp only
 rw [Es hk,Option.bind_some,N8 (by omega) (by omega),Option.bind_some,Iq f1,Option.bind_some,hk'.2]
 obtain ⟨s,e,g1,g2,g3⟩:=of_ok wide (DF (gv fin (k:Int))) (by have:=Le f1; omega)
 rw [N9 h0 h1] at g2 g3
 refine ⟨s,by rw [e,Option.bind_some,Uh (by omega)],g1,g2,fun j=> ?_⟩
 rw [g3,← hfin (k:Int) (by omega) (by omega)]
 constructor
 ·intro h
  rw [Bool.and_eq_true] at h
  exact (ED f1 j).1 (List.contains_iff_mem.1 h.2)
 ·intro h
  have h2:=K6 f1 h
  rw [f2] at h2
  rw [decide_eq_true h2,Bool.true_and]
  exact List.contains_iff_mem.2 ((ED f1 j).2 h)
def Mz (ll base:List (List Int)) (wide i j:Int):Prop:=0≤j∧j<wide∧ ∃z,Reach ll (base.length:Int) i z∧j ∈ bz base z
end Go.Proofs.YteolcjbobmpdiaaGreatDoor.Dg
namespace Go.Proofs.YteolcjbobmpdiaaGreatDoor
open Go Go.Eng Dg
set_option linter.unusedVariables false
set_option maxRecDepth 100000
structure Sy (p:dtP):Prop where
 t1:1≤p.1.length∧p.1.length≤1000
 v1:p.2.1.length≤1000
 few:p.2.2.1.length≤1000
 left: ∀r ∈ p.2.2.1,nT p≤r.1∧r.1≤nT p+((p.2.1.length:Nat):Int)
 right: ∀r ∈ p.2.2.1,∀s ∈ r.2.1,0≤s∧s<nT p+((p.2.1.length:Nat):Int)
 short: ∀r ∈ p.2.2.1,r.2.1.length≤1000
theorem NO {α:Type} {p q:α→Bool} : ∀ {l:List α},(∀x ∈ l,p x=true→q x=true)→l.countP p≤l.countP q:=by
 intro l
 induction l with
 | nil=>intro _; simp
 | cons a l ih=>
  intro h
  have h1:=ih fun x hx=>h x (List.mem_cons_of_mem _ hx)
  have h2:=h a List.mem_cons_self
  rw [List.countP_cons,List.countP_cons]
  cases hp:p a with
  | false=>simp; omega
  | true=>rw [h2 hp]; simp; omega
theorem Ru {α:Type} {p q:α→Bool} : ∀ {l:List α},(∀x ∈ l,p x=true→q x=true)→(∃x ∈ l,q x=true∧p x=false)→l.countP p<l.countP q:=by
 intro l
 induction l with
 | nil=>rintro _ ⟨x,hx,_⟩; cases hx
 | cons a l ih=>
  rintro h ⟨x,hx,h1,h2⟩
  have h3:=NO (l:=l) fun x hx=>h x (List.mem_cons_of_mem _ hx)
  have h4:=h a List.mem_cons_self
  rw [List.countP_cons,List.countP_cons]
  rcases List.mem_cons.1 hx with rfl | hx
  ·rw [h1,h2]; simp; omega
  ·have h5:=ih (fun x hx=>h x (List.mem_cons_of_mem _ hx)) ⟨x,hx,h1,h2⟩
   cases hp:p a with
   | false=>simp; omega
   | true=>rw [h4 hp]; simp; omega
def card (s:AT):Nat:=(List.range 1000).countP fun k:Nat=>mem s (k:Int)
theorem Ui (s:AT):card s≤1000:=by
 unfold card
 have:=List.countP_le_length (p:=fun k:Nat=>mem s (k:Int)) (l:=List.range 1000)
 rwa [List.length_range] at this
theorem Uj: ∀(l:List Int) {s:AT} {g:Bool},OkS s→(∀i ∈ l,0≤i)→(l.foldl Dg.stepG (s,false,g)).2.2=true→g=true∨ ∃i ∈ l,i<s.1∧mem s i=false:=by
 intro l
 induction l with
 | nil=>intro s g _ _ h; exact .inl h
 | cons i l ih=>
  intro s g H h0 h
  rw [List.foldl_cons] at h
  by_cases hi:s.1≤i
  ·have e:Dg.stepG (s,false,g) i=(s,true,g):=by unfold Dg.stepG; rw [if_neg (by simp),if_pos hi]
   rw [e,Sv l rfl] at h
   exact .inl h
  ·obtain ⟨s',hd,h1,h2,h3⟩:=Dg.add_ok H i
   have e:Dg.stepG (s,false,g) i=(s',false,(decide (0≤i∧i<s.1) && !mem s i) || g):=by unfold Dg.stepG; rw [if_neg (by simp),if_neg hi,hd]; rfl
   rw [e] at h
   have hi0:=h0 i (by simp)
   rcases ih h1 (fun i hi=>h0 i (List.mem_cons_of_mem _ hi)) h with g1 | ⟨j,j1,j2,j3⟩
   ·rw [Bool.or_eq_true,Bool.and_eq_true] at g1
    rcases g1 with ⟨_,g1⟩ | g1
    ·exact .inr ⟨i,by simp,by omega,by simpa using g1⟩
    ·exact .inl g1
   ·refine .inr ⟨j,List.mem_cons_of_mem _ j1,by rw [← h2]; exact j2,?_⟩
    rw [h3,Bool.or_eq_false_iff] at j3
    exact j3.1
theorem PC {s o:AT} (H:OkS s) (K:OkS o):OkS (BB s o)∧(BB s o).1=s.1∧card s≤card (BB s o)∧(EY s o=true→card s<card (BB s o)):=by
 obtain ⟨h1,h2,h3⟩:=Kb H K
 refine ⟨h1,h2,NO fun k _ hk=>by rw [h3,hk]; rfl,fun hg=> ?_⟩
 rcases Uj (DF o) H (fun i hi=>(Ir K hi).1) hg with h | ⟨i,i1,i2,i3⟩
 ·cases h
 ·obtain ⟨i4,i5⟩:=Ir K i1
  have hw:=H.hi
  refine Ru (fun k _ hk=>by rw [h3,hk]; rfl) ⟨i.toNat,List.mem_range.2 (by omega),?_,?_⟩
  ·rw [Int.toNat_of_nonneg i4,h3,i3,(ED K i).1 i1,decide_eq_true i2]; rfl
  ·rw [Int.toNat_of_nonneg i4]; exact i3
def Ss (w:Int) (ss:List AT):Prop:= ∀s ∈ ss,OkS s∧s.1=w
def room (ss:List AT):Nat:=(ss.map fun s=>1000 - card s).sum
theorem Q1: ∀ {ss:List AT} {k:Nat} {s s':AT},ss[k]? =some s→card s≤card s'→room (ss.set k s') ≤room ss∧(card s<card s'→room (ss.set k s') <room ss):=by
 intro ss
 induction ss with
 | nil=>intro k s s' h; simp at h
 | cons a ss ih=>
  intro k s s' h hc
  have hle:=Ui s'
  cases k with
  | zero=>
   obtain rfl:a=s:=by simpa using h
   simp only [List.set_cons_zero,room,List.map_cons,List.sum_cons]
   exact ⟨by omega,fun h=>by omega⟩
  | succ k=>
   obtain ⟨h1,h2⟩:=ih (k:=k) (s:=s) (s':=s') (by simpa using h) hc
   simp only [room] at h1 h2
   simp only [List.set_cons_succ,room,List.map_cons,List.sum_cons]
   exact ⟨by omega,fun h=>by have:=h2 h; omega⟩
theorem Ss.set {w:Int} {ss:List AT} (H:Ss w ss) {k:Nat} {s:AT} (hs:OkS s∧s.1=w):Ss w (ss.set k s):=fun x hx=>by
 rcases List.mem_or_eq_of_mem_set hx with h | rfl
 ·exact H x h
 ·exact hs
theorem Uk {w:Int} {ss:List AT} {x:Int} {o:AT} (H:Ss w ss) (h0:0≤x) (h1:x< (ss.length:Int)) (ho:OkS o):
 Ok (Uc ss x o) fun r=>Ss w r.2∧r.2.length=ss.length∧room r.2≤room ss∧(r.1=true→room r.2<room ss):=by
 have hlt:x.toNat<ss.length:=by omega
 have hx:=List.getElem?_eq_getElem hlt
 obtain ⟨k1,k2⟩:=H _ (List.getElem_mem hlt)
 obtain ⟨u1,u2,u3,u4⟩:=PC k1 ho
 obtain ⟨s1,s2⟩:=Q1 hx u3
 unfold Uc
 exact DS h0 hx (Bc ⟨k1,ho⟩ (AG ⟨H.set ⟨u1,u2.trans k2⟩,by simp,s1,fun g=>s2 (u4 g)⟩))
theorem Q2 {w:Int} {ss:List AT} {x y:Int} (H:Ss w ss) (h0:0≤x) (h1:x< (ss.length:Int)) (g0:0≤y) (g1:y< (ss.length:Int)):
 Ok (Rr ss x y) fun r=>Ss w r.2∧r.2.length=ss.length∧room r.2≤room ss∧(r.1=true→room r.2<room ss):=by
 have hlt:x.toNat<ss.length:=by omega
 have hlt2:y.toNat<ss.length:=by omega
 have hx:=List.getElem?_eq_getElem hlt
 have hy:=List.getElem?_eq_getElem hlt2
 obtain ⟨k1,k2⟩:=H _ (List.getElem_mem hlt)
 have ho:=(H _ (List.getElem_mem hlt2)).1
 obtain ⟨u1,u2,u3,u4⟩:=PC k1 ho
 obtain ⟨s1,s2⟩:=Q1 hx u3
 unfold Rr
 exact DS h0 hx (DS g0 hy (Bc ⟨k1,ho⟩ (AG ⟨H.set ⟨u1,u2.trans k2⟩,by simp,s1,fun g=>s2 (u4 g)⟩)))
def Nl (p:dtP) (null:List Bool) (s:Int):Prop:=nT p≤s∧null[(s - nT p).toNat]? =some true
def mu (null:List Bool) (ss:List AT):Nat:=room ss+null.countP (fun b=> !b)
theorem HD: ∀ {l:List Bool} {k:Nat},l[k]? =some false→(l.set k true).countP (fun b=> !b) +1=l.countP (fun b=> !b):=by
 intro l
 induction l with
 | nil=>intro k h; simp at h
 | cons a l ih=>
  intro k h
  cases k with
  | zero=>
   obtain rfl:a=false:=by simpa using h
   simp
  | succ k=>
   have:=ih (k:=k) (by simpa using h)
   rw [List.set_cons_succ,List.countP_cons,List.countP_cons]
   omega
theorem Tb {α:Type} {l:List α} {k:Nat} {x:α} (h:l[k]? =some x):l.set k x=l:=by
 refine List.ext_getElem? fun i=> ?_
 rw [List.getElem?_set]
 split
 ·rename_i e
  subst e
  rw [h,if_pos (List.getElem?_eq_some_iff.1 h).1]
 ·rfl
theorem V3 (p:dtP) {s:Int} (h:s<nT p) (null:List Bool): ¬Nl p null s:=fun g=>by have:=g.1; omega
section
variable {p:dtP} {w:Int}
theorem NP (S:Sy p) {null:List Bool} {ss:List AT} {x:Nat} {seq:List Int} {m:Nat} (hm:m=p.2.1.length+1) (hn:null.length=m) (H:Ss w ss) (hl:ss.length=m+m) (hx:x<m+m) (hs: ∀s ∈ seq,0≤s∧s<nT p+((p.2.1.length:Nat):Int)) (hq:seq.length≤1000):
 Ok (JJ p (m:Int) null (x:Int) ss seq) fun r=>Ss w r.2.2∧r.2.2.length=ss.length∧room r.2.2≤room ss∧(r.1=true→room r.2.2<room ss)∧(r.2.1=true ↔ ∀s ∈ seq,Nl p null s):=by
 have hT:=S.t1
 have hV:=S.v1
 have hnT:nT p=(p.1.length:Int):=rfl
 unfold JJ
 refine F8 (fun k (z:Bool×List AT)=>Ss w z.2∧z.2.length=ss.length∧room z.2≤room ss∧(z.1=true→room z.2<room ss)∧ ∀s ∈ seq.take k,Nl p null s)
  (fun b=>Ss w b.2.2∧b.2.2.length=ss.length∧room b.2.2≤room ss∧(b.1=true→room b.2.2<room ss)∧b.2.1=false∧ ¬ ∀s ∈ seq,Nl p null s) (by omega) ⟨H,rfl,Nat.le_refl _,(fun h=>by cases h),by simp⟩ (fun k z hk hz=> ?_) (fun z hz=>AG ?_) fun b hb=>AG ?_
 ·obtain ⟨g,s1⟩:=z
  obtain ⟨z1,z2,z3,z4,z5⟩:=hz
  dsimp only at z1 z2 z3 z4 z5 ⊢
  have hsk:=List.getElem?_eq_getElem hk
  have hmem:=List.getElem_mem hk
  obtain ⟨b0,b1⟩:=hs _ hmem
  refine AZ hsk (AR (Hd p seq[k]) ?_)
  refine Ae (fun hc=> ?_) fun hc=> ?_
  ·rw [Bool.and_eq_true,decide_eq_true_eq,decide_eq_true_eq] at hc
   obtain ⟨o,e,o1,o2,_⟩:=Dg.of_ok (nT p) [seq[k]] (by simp)
   refine AR e (AO (Uk z1 (x:=(x:Int)) (by omega) (by omega) o1) fun u hu=> ?_)
   obtain ⟨u1,u2,u3,u4⟩:=hu
   refine Bs ⟨u1,u2.trans z2,Nat.le_trans u3 z3,fun h=> ?_,rfl,fun hall=>V3 p (by omega) null (hall _ hmem)⟩
   dsimp only at h ⊢
   rw [Bool.or_eq_true] at h
   rcases h with h | h
   ·have:=u4 h; omega
   ·have:=z4 h; omega
  ·rw [Bool.and_eq_false_iff,decide_eq_false_iff_not,decide_eq_false_iff_not] at hc
   have e:IntKind.wrap .i64 (seq[k] - nT p)=(((seq[k] - nT p).toNat:Nat):Int):=by rw [w64 (by omega) (by omega)]; omega
   have hlt:(seq[k] - nT p).toNat<m:=by omega
   rw [e]
   refine Bc (by omega) (AO (Q2 z1 (x:=(x:Int)) (by omega) (by omega) (by omega) (by omega)) fun u hu=> ?_)
   obtain ⟨u1,u2,u3,u4⟩:=hu
   have hb:=List.getElem?_eq_getElem (l:=null) (i:=(seq[k] - nT p).toNat) (by omega)
   refine AZ hb ?_
   have hor:(u.1 || g)=true→room u.2<room ss:=fun h=>by
    rw [Bool.or_eq_true] at h
    rcases h with h | h
    ·have:=u4 h; omega
    ·have:=z4 h; omega
   refine Ae (fun hc2=>CJ ⟨u1,u2.trans z2,Nat.le_trans u3 z3,hor,fun s hs'=> ?_⟩) fun hc2=>Bs ⟨u1,u2.trans z2,Nat.le_trans u3 z3,hor,rfl,fun hall=> ?_⟩
   ·rw [List.take_add_one,hsk] at hs'
    rcases List.mem_append.1 hs' with h | h
    ·exact z5 s h
    ·have:s=seq[k] :=by simpa using h
     subst this
     exact ⟨by omega,by rw [hb,hc2]⟩
   ·have:=(hall _ hmem).2
    rw [hb,hc2] at this
    cases this
 ·obtain ⟨z1,z2,z3,z4,z5⟩:=hz
  rw [List.take_of_length_le (Nat.le_refl _)] at z5
  exact ⟨z1,z2,z3,z4,fun _=>z5,fun _=>rfl⟩
 ·obtain ⟨z1,z2,z3,z4,z5,z6⟩:=hb
  exact ⟨z1,z2,z3,z4,fun h=>(by rw [z5] at h; cases h),fun h=>absurd h z6⟩
structure Tc (p:dtP) (w:Int) (null:List Bool) (ss:List AT) (k:Nat) (z:Bool×List Bool×List AT):Prop where
 len:z.2.1.length=null.length
 sets:Ss w z.2.2
 lens:z.2.2.length=ss.length
 le:mu z.2.1 z.2.2≤mu null ss
 lt:z.1=true→mu z.2.1 z.2.2<mu null ss
 stay:z.1=false→z.2.1=null∧ ∀(j:Nat) r,j<k→p.2.2.1[j]? =some r→(∀s ∈ r.2.1,Nl p null s)→Nl p null r.1
 sound:(∀s,Nl p null s→Nul p.2.2.1 s)→ ∀s,Nl p z.2.1 s→Nul p.2.2.1 s
theorem Td (S:Sy p) {null:List Bool} {ss:List AT} {m:Nat} (hm:m=p.2.1.length+1) (hn:null.length=m) (H:Ss w ss) (hl:ss.length=m+m):
 Ok (MZ p (m:Int) null ss) (Tc p w null ss p.2.2.1.length):=by
 have hT:=S.t1
 have hV:=S.v1
 have hF:=S.few
 have hnT:nT p=(p.1.length:Int):=rfl
 refine B6 (n:=p.2.2.1.length) (fun k=>Tc p w null ss k) (by omega) (s:=(false,null,ss)) ⟨rfl,H,rfl,Nat.le_refl _,(fun h=>by cases h),fun _=>⟨rfl,fun j r hj=>by omega⟩,fun h=>h⟩ fun k z hk hz=> ?_
 obtain ⟨c,nu,s1⟩:=z
 have hr:=List.getElem?_eq_getElem hk
 have hmem:=List.getElem_mem hk
 obtain ⟨r,hre⟩: ∃r,p.2.2.1[k] =r:=⟨_,rfl⟩
 rw [hre] at hr hmem
 obtain ⟨l0,l1⟩:=S.left r hmem
 have e:IntKind.wrap .i64 (r.1 - nT p)=(((r.1 - nT p).toNat:Nat):Int):=by rw [w64 (by omega) (by omega)]; omega
 have hlt:(r.1 - nT p).toNat<m:=by omega
 have hlen:=hz.len
 have hls:=hz.lens
 dsimp only at hlen hls ⊢
 refine AZ hr ?_
 rw [e]
 refine Bc (by omega) ?_
 have nR:=S.right r hmem
 refine AO (NP S (null:=nu) (ss:=s1) (x:=(r.1 - nT p).toNat) hm (by omega) hz.sets (by omega) (by omega) nR (S.short r hmem)) fun g hg=> ?_
 obtain ⟨g1,g2,g3,g4,g5⟩:=hg
 have hb:=List.getElem?_eq_getElem (l:=nu) (i:=(r.1 - nT p).toNat) (by omega)
 refine AZ hb (HX (by omega) (by omega) (AG ?_))
 rw [Int.toNat_natCast]
 obtain ⟨b,hbe⟩: ∃b,nu[(r.1 - nT p).toNat] =b:=⟨_,rfl⟩
 rw [hbe] at hb ⊢
 by_cases hflip:b=false∧g.2.1=true
 ·obtain ⟨rfl,hg21⟩:=hflip
  have hc:=HD hb
  have hle:=hz.le
  rw [hg21]
  refine ⟨by simp [hlen],g1,g2.trans hls,?_,fun _=> ?_,fun h=> ?_,fun hs s h=> ?_⟩
  ·show mu (nu.set _ true) g.2.2≤mu null ss
   unfold mu at hle ⊢
   dsimp only at hle
   omega
  ·show mu (nu.set _ true) g.2.2<mu null ss
   unfold mu at hle ⊢
   dsimp only at hle
   omega
  ·exfalso
   dsimp only at h
   simp at h
  ·obtain ⟨h0,h1⟩:=h
   change (nu.set _ true)[_]? =some true at h1
   rw [List.getElem?_set] at h1
   split at h1
   ·rename_i he
    have:s=r.1:=by omega
    subst this
    exact .rule hmem fun s hs'=>hz.sound hs s (g5.1 hg21 s hs')
   ·exact hz.sound hs s ⟨h0,h1⟩
 ·have hbb:(b || g.2.1)=b:=by
   cases b with
   | true=>rfl
   | false=>cases hgg:g.2.1 with
    | false=>rfl
    | true=>exact absurd ⟨rfl,hgg⟩ hflip
  have hff:(g.2.1 && !b)=false:=by
   cases b with
   | true=>simp
   | false=>cases hgg:g.2.1 with
    | false=>rfl
    | true=>exact absurd ⟨rfl,hgg⟩ hflip
  rw [hbb,hff,Tb hb,Bool.or_false]
  have hle:=hz.le
  have hlt':=hz.lt
  unfold mu at hle hlt'
  dsimp only at hle hlt'
  refine ⟨hlen,g1,g2.trans hls,?_,fun h=> ?_,fun h=> ?_,hz.sound⟩
  ·unfold mu; dsimp only; omega
  ·unfold mu
   dsimp only at h ⊢
   rw [Bool.or_eq_true] at h
   rcases h with h | h
   ·have:=hlt' h; omega
   ·have:=g4 h; omega
  ·dsimp only at h ⊢
   rw [Bool.or_eq_false_iff] at h
   obtain ⟨h1,h2⟩:=hz.stay h.1
   dsimp only at h1
   subst h1
   refine ⟨rfl,fun j r' hj hr' ha=> ?_⟩
   rcases Nat.lt_succ_iff_lt_or_eq.1 hj with hj | rfl
   ·exact h2 j r' hj hr' ha
   ·rw [hr] at hr'
    cases hr'
    refine ⟨l0,?_⟩
    rw [hb]
    rw [g5.2 ha] at hff
    simpa using hff
end
section
variable {p:dtP} {w:Int}
theorem QK (S:Sy p) {null:List Bool} {ss:List AT} {m:Nat} (hm:m=p.2.1.length+1) (hn:null.length=m) (H:Ss w ss) (hl:ss.length=m+m):
 Ok (Km p (m:Int) null ss) fun r=>Ss w r.2∧r.2.length=ss.length∧room r.2≤room ss∧(r.1=true→room r.2<room ss):=by
 have hT:=S.t1
 have hV:=S.v1
 have hF:=S.few
 have hnT:nT p=(p.1.length:Int):=rfl
 refine B6 (n:=p.2.2.1.length) (fun _ (z:Bool×List AT)=>Ss w z.2∧z.2.length=ss.length∧room z.2≤room ss∧(z.1=true→room z.2<room ss)) (by omega) (s:=(false,ss)) ⟨H,rfl,Nat.le_refl _,(fun h=>by cases h)⟩ fun k z hk hz=> ?_
 have hr:=List.getElem?_eq_getElem hk
 have hmem:=List.getElem_mem hk
 obtain ⟨r,hre⟩: ∃r,p.2.2.1[k] =r:=⟨_,rfl⟩
 rw [hre] at hr hmem
 obtain ⟨l0,l1⟩:=S.left r hmem
 have nR:=S.right r hmem
 have nS:=S.short r hmem
 refine AZ hr (B6 (fun _ (z:Bool×List AT)=>Ss w z.2∧z.2.length=ss.length∧room z.2≤room ss∧(z.1=true→room z.2<room ss)) (by omega) hz fun j z hj hz=> ?_)
 obtain ⟨g,s1⟩:=z
 obtain ⟨z1,z2,z3,z4⟩:=hz
 dsimp only at z1 z2 z3 z4 ⊢
 obtain ⟨b0,b1⟩:=nR _ (List.getElem_mem hj)
 refine AZ (List.getElem?_eq_getElem hj) (AR (Hd p _) ?_)
 refine Ae (fun hc=>AG ⟨z1,z2,z3,z4⟩) fun hc=> ?_
 rw [Bool.and_eq_false_iff,decide_eq_false_iff_not,decide_eq_false_iff_not] at hc
 have e:IntKind.wrap .i64 (r.2.1[j] - nT p)=(((r.2.1[j] - nT p).toNat:Nat):Int):=by rw [w64 (by omega) (by omega)]; omega
 have e2:(m:Int) +(((r.2.1[j] - nT p).toNat:Nat):Int)=((m+(r.2.1[j] - nT p).toNat:Nat):Int):=by omega
 have hlt:(r.2.1[j] - nT p).toNat<m:=by omega
 rw [e,e2]
 refine Bc (by omega) (AO (NP S (null:=null) (ss:=s1) (x:=m+(r.2.1[j] - nT p).toNat) (seq:=r.2.1.drop ((j:Int) +1).toNat) hm hn z1 (by omega) (by omega) (fun s hs=>nR s (List.mem_of_mem_drop hs)) (by simp; omega)) fun q hq=> ?_)
 obtain ⟨q1,q2,q3,q4,_⟩:=hq
 refine AO (Q:=fun (u:Bool×List AT)=>Ss w u.2∧u.2.length=ss.length∧room u.2≤room s1∧(u.1=true→room u.2<room s1)) ?_ fun u hu=> ?_
 ·refine Ae (fun hg=> ?_) fun hg=>AG ⟨q1,q2.trans z2,q3,q4⟩
  have e3:IntKind.wrap .i64 (r.1 - nT p)=(((r.1 - nT p).toNat:Nat):Int):=by rw [w64 (by omega) (by omega)]; omega
  rw [e3]
  refine Bc (by omega) (AO (Q2 q1 (by omega) (by omega) (by omega) (by omega)) fun u hu=>AG ?_)
  obtain ⟨u1,u2,u3,u4⟩:=hu
  refine ⟨u1,u2.trans (q2.trans z2),Nat.le_trans u3 q3,fun h=> ?_⟩
  dsimp only at h ⊢
  rw [Bool.or_eq_true] at h
  rcases h with h | h
  ·have:=u4 h; omega
  ·have:=q4 h; omega
 ·obtain ⟨u1,u2,u3,u4⟩:=hu
  refine AG ⟨u1,u2,Nat.le_trans u3 z3,fun h=> ?_⟩
  dsimp only at h ⊢
  rw [Bool.or_eq_true] at h
  rcases h with h | h
  ·have:=z4 h; omega
  ·have:=u4 h; omega
theorem Kn (S:Sy p):JZ (nT p)=nT p:=by
 have hT:=S.t1
 have hnT:nT p=(p.1.length:Int):=rfl
 exact N9 (by omega) (by omega)
theorem PD (S:Sy p):Ok (LG p) fun f=>f.length=p.2.1.length+1∧Ss (nT p) f:=by
 have hV:=S.v1
 unfold LG
 have e:IntKind.wrap .i64 (((p.2.1.length:Nat):Int) +1)=((p.2.1.length+1:Nat):Int):=by rw [w64 (by omega) (by omega)]; omega
 rw [e]
 obtain ⟨l,h1,h2,h3⟩:=JK (f:=fun _ acc=>(Bj (nT p)).bind fun s=>app acc [s]) (n:=p.2.1.length+1) (by omega) (fun _ (s:AT)=>OkS s∧s.1=nT p) fun k acc hk ha=>by
  obtain ⟨s,e,g1,g2,_⟩:=Dg.new_ok (nT p)
  rw [e,Option.bind_some,Uh (by omega)]
  exact ⟨s,rfl,g1,g2.trans (Kn S)⟩
 refine ⟨l,h1,h2,fun s hs=> ?_⟩
 obtain ⟨k,hk⟩:=List.getElem?_of_mem hs
 exact h3 k s hk
theorem PE {ss:List AT} (H:Ss w ss) (hl:ss.length≤100000):Ok (Ix ss) fun l=>l.length=ss.length∧ ∀x ∈ l,x.length≤64000:=by
 unfold Ix
 obtain ⟨l,h1,h2,h3⟩:=JK (f:=fun i (acc:List (List Int))=>(idx ss i).bind fun s=>(Hw s).bind fun l=>app acc [l]) (n:=ss.length) (by omega) (fun _ (x:List Int)=>x.length≤64000) fun k acc hk ha=>by
  have hs:=(H _ (List.getElem_mem hk)).1
  rw [Es hk,Option.bind_some,Iq hs,Option.bind_some,Uh (by omega)]
  refine ⟨_,rfl,?_⟩
  have h1:=LJ ss[k]
  have h2:=hs.len
  have h3:=hs.hi
  omega
 refine ⟨l,h1,h2,fun x hx=> ?_⟩
 obtain ⟨k,hk⟩:=List.getElem?_of_mem hx
 exact h3 k x hk
structure Te (p:dtP) (fa:dtF):Prop where
 len:fa.1.length=p.2.1.length+1
 nul: ∀s,nT p≤s→(fa.1[(s - nT p).toNat]? =some true ↔ Nul p.2.2.1 s)
 flen:fa.2.1.length=p.2.1.length+1
 few: ∀l ∈ fa.2.1,l.length≤64000
theorem Ul (S:Sy p) {null:List Bool} (hn:null.length=p.2.1.length+1) (hc: ∀(j:Nat) r,p.2.2.1[j]? =some r→(∀s ∈ r.2.1,Nl p null s)→Nl p null r.1) {s:Int} (h:Nul p.2.2.1 s):Nl p null s:=by
 induction h with
 | rule hr _ ih=>
  obtain ⟨j,hj⟩:=List.getElem?_of_mem hr
  exact hc j _ hj ih
theorem Tf (S:Sy p):Ok (Ma p) (Te p):=by
 have hT:=S.t1
 have hV:=S.v1
 have hF:=S.few
 have hnT:nT p=(p.1.length:Int):=rfl
 unfold Ma
 have e:IntKind.wrap .i64 (((p.2.1.length:Nat):Int) +1)=((p.2.1.length+1:Nat):Int):=by rw [w64 (by omega) (by omega)]; omega
 rw [e]
 refine AR (x:=List.replicate (p.2.1.length+1) false) (by unfold E0; rw [if_pos ⟨by omega,by omega⟩,Int.toNat_natCast]) ?_
 refine AO (PD S) fun f hf=>AO (PD S) fun g hg=> ?_
 obtain ⟨f1,f2⟩:=hf
 obtain ⟨g1,g2⟩:=hg
 have hfg:Ss (nT p) (f++g):=fun s hs=>(List.mem_append.1 hs).elim (f2 s) (g2 s)
 refine De (fun (z:Int×List Bool×List AT)=>z.2.1.length=p.2.1.length+1∧Ss (nT p) z.2.2∧z.2.2.length=f.length+f.length∧ ∀s,Nl p z.2.1 s→Nul p.2.2.1 s) (fun z=>mu z.2.1 z.2.2)
  (fun z=>z.2.1.length=p.2.1.length+1∧Ss (nT p) z.2.2∧z.2.2.length=f.length+f.length∧(∀s,Nl p z.2.1 s→Nul p.2.2.1 s)∧ ∀(j:Nat) r,p.2.2.1[j]? =some r→(∀s ∈ r.2.1,Nl p z.2.1 s)→Nl p z.2.1 r.1) ⟨by simp,hfg,by simp [f1,g1],fun s h=> ?_⟩ (fun z hz=> ?_) fun z hz=> ?_
 ·have:=h.2
  dsimp only at this
  rw [List.getElem?_replicate] at this
  split at this<;>simp at this
 ·obtain ⟨c,nu,s1⟩:=z
  obtain ⟨z1,z2,z3,z4⟩:=hz
  dsimp only at z1 z2 z3 z4 ⊢
  refine AO (Td S (null:=nu) (ss:=s1) (m:=f.length) f1 (by omega) z2 (by omega)) fun r hr=> ?_
  refine Ae (fun hc=>CJ ⟨⟨hr.len.trans z1,hr.sets,hr.lens.trans z3,hr.sound z4⟩,hr.lt hc⟩) fun hc=>Bs ⟨hr.len.trans z1,hr.sets,hr.lens.trans z3,hr.sound z4,?_⟩
  obtain ⟨h1,h2⟩:=hr.stay hc
  dsimp only
  rw [h1]
  exact fun j r' hj=>h2 j r' (BQ hj) hj
 ·obtain ⟨c,nu,s1⟩:=z
  obtain ⟨z1,z2,z3,z4,z5⟩:=hz
  dsimp only at z1 z2 z3 z4 z5 ⊢
  have hlt:f.length+p.2.1.length<s1.length:=by omega
  have hget:=List.getElem?_eq_getElem hlt
  obtain ⟨k1,k2⟩:=z2 _ (List.getElem_mem hlt)
  refine AZ (x:=s1[f.length+p.2.1.length]) (by rw [List.getElem?_drop]; exact hget) ?_
  obtain ⟨s',a1,a2,a3,_⟩:=Dg.add_ok k1 0
  refine AR a1 ?_
  refine De (fun (ss:List AT)=>Ss (nT p) ss∧ss.length=f.length+f.length) room (fun (ss:List AT)=>Ss (nT p) ss∧ss.length=f.length+f.length) ⟨z2.set ⟨a2,a3.trans k2⟩,by simp [z3]⟩ (fun ss hss=> ?_) fun ss hss=> ?_
  ·refine AO (QK S (null:=nu) (ss:=ss) (m:=f.length) f1 (by omega) hss.1 hss.2) fun r hr=> ?_
   exact Ae (fun hc=>CJ ⟨⟨hr.1,hr.2.1.trans hss.2⟩,hr.2.2.2 hc⟩) fun hc=>Bs ⟨hr.1,hr.2.1.trans hss.2⟩
  ·refine AO (PE (w:=nT p) (fun s hs=>hss.1 s (List.mem_of_mem_take hs)) (by simp; omega)) fun a ha=>AO (PE (w:=nT p) (fun s hs=>hss.1 s (List.mem_of_mem_drop hs)) (by simp; omega)) fun b hb=>AG ?_
   refine ⟨z1,fun s hs=>⟨fun h=>z4 s ⟨hs,h⟩,fun h=>(Ul S z1 z5 h).2⟩,?_,ha.2⟩
   dsimp only
   rw [ha.1,List.length_take]
   omega
end
end Go.Proofs.YteolcjbobmpdiaaGreatDoor
