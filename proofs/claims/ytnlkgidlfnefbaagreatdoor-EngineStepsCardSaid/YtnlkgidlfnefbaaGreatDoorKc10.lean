/- The parts Sim4 to P2, put together. Conditions: each tells its own. -/
import Derived.Test.YtnlkgidlfnefbaaGreatDoorKc5
import Derived.Test.YtnlkgidlfnefbaaGreatDoorKc6
import Derived.Test.YtnlkgidlfnefbaaGreatDoorKc9
import Derived.Test.YtnlkgidlfnefbaaGreatDoorKc7
import Derived.KernelRfl
import Derived.Lib.Walk
import Derived.StillTailTactics
import Derived.Sort.Grow
set_option linter.unusedVariables false
set_option maxRecDepth 100000
set_option maxHeartbeats 4000000
open List renaming getElem?_eq_getElem → bD,getElem?_eq_some_iff → bO,mem_of_getElem? → eE,getElem_mem → hA,mem_singleton → hC,getElem?_append_left → hM,mem_append → kF,length_cons → kG,getElem?_append_right → kH,length_nil → kI,pairwise_iff_getElem → kJ,length_append → kO,take_of_length_le → kT,getElem?_eq_none → kU,getElem?_of_mem → kV,mem_append_left → kW,length_pos_of_mem → kY,take_add_one → lA,append_assoc → lB,nodup_iff_pairwise_ne → lC,length_take → lG,nodup_append → lK,length_filter_le → lL,filter_cons → lN,length_map → lO,flatMap_cons → lR,size_toArray → lS,mem_map → lZ,mem_append_right → mA,flatMap_append → mC,getElem_of_mem → mD,filter_append → mH,getElem_take → mJ,length → mM
open Go.Proofs.Tryz renaming prog → kK,underlying22 → lQ,underlying9 → lU,underlying179 → mE,underlying110 → mF,underlying113 → mG,underlying3 → mL
open Go.Eng.Ro renaming SliceIs → kL,int → lM,bool → lY,prod → mU
open Nat renaming lt_succ_iff_lt_or_eq → kQ,le_refl → lD,lt_or_ge → lP
open Classical renaming propDecidable → kX
open Go.Eng.Rep renaming ro → kZ
open Go.IntKind renaming wrap → lF
open Array renaming getElem?_push → lH
open UInt8 renaming ofNat → lI
open Bool renaming not_eq_true' → lJ,and_eq_true → lW
open Go.Eng.St renaming cell → lT,freezeRow → lX,cells → mI,openR → mQ,shutR → mR
open Option renaming bind_some → lV
open Go.Eng.Sub renaming refl → mB,trans → mS
open Go.Value renaming int → mK
open Go.Eng.AY renaming next → mN,done → mO
open Prod renaming ext → mP
open Go.Eng.Ok renaming eq → mT
open Go.Proofs.Tryz
namespace Go.Proofs.YtnlkgidlfnefbaaGreatDoor
open Go Go.Eng
section
variable {φ:AD}{h:AH}{F:List Chk}
theorem Qz:GU kK 22 22 5 1:=⟨lQ,.inl lQ,⟨t5,by kernel_rfl,rfl,⟨_,rfl,rfl⟩,by decide,by decide⟩,by decide⟩
noncomputable def Ee (a:List BQ):Option ByteArray:=(forS (σ:=List Int) 0 (a.length:Int) ([]:List Int) λb h=>(idx a b).bind λc=>(ET h c.1 10).bind λt8=>(app t8 ([(46:Int)]:List Int)).bind λd=>(ET d c.2 10).bind λe=>(app e ([(32:Int)]:List Int)).bind λf=>some f).bind λi=>(Ww i).bind λg=>some g
theorem Pz {h:AH}{A:Slc}{d:List BQ}(C:Glob (BZ h)) (f:kL Bx (BZ h) A d) (D:St (BZ h) [] h) {r:ByteArray}(hd:Ee d=some r):
 CallsH kK 60 [(sv A)] h (Ae λv E=>∃ψ:AD,∃y:ByteArray,Sub (BZ h) ψ∧v=((.one (.atom .string)):Sh).val y∧y=r∧St ψ [] E):=by
 refine BF mixed func60 ?_;rw[Qe];unfold N6;unfold Ee at hd;have i:A.2.1=mM d:=f.length;have⟨bd,w,hd⟩:=bS hd;refine Bb w (λz (y:Int×Slc×Unit) w_ g=>∃ψ:AD,∃j:List Int,Sub (BZ h) ψ∧ψ=(BZ h)∧y.1=z∧j=g∧St ψ (cR 5 (lM .u8) y.2.1 j:: []) w_) ((0:Int),((none,0,0):Slc),()) rfl ⟨(BZ h),[],(mB _),rfl,rfl,rfl,(D.nil 5 (lM .u8))⟩ ?_ ?_ ?_
 ·rintro _ F bf _ _ ⟨bg,bi,k,rfl,rfl,rfl,e⟩ b a0 l m;try dsimp only at b a0 l m
  refine Ai (dT i l) ?_;have⟨c,G,b⟩:=bS b;obtain⟨bj,bl,H,I,J,n⟩:=(f.mono k).get G;refine AF _ H (Am I ?_);obtain⟨_,_,rfl,rfl,rfl⟩:=J;refine AL (x:=c.1) (AM e.sub (n 0 _ rfl)) rfl<|AL (x:=c.2) (by rw[Ac];exact(AM e.sub (n 1 _ rfl))) rfl<|AU (vs:=[.int .i64 (0:Int),.int .i64 (0:Int)]) e λr6 bp K=>AG K rfl rfl λbs L=>AG L rfl rfl λbt o=>AA (x:=c.1) o rfl ?_;have⟨bw,M,b⟩:=bS b;refine AE (Mw C o.at1 M) ?_;rintro _ bx ⟨bz,t8,c0,N,rfl,rfl,rfl,al⟩;refine⟨t8,rfl,?_⟩;refine AU (vs:=[.int .u8 (46:Int)]) al λr9 c1 p=> ?_;have⟨c2,ap,b⟩:=bS b;refine AZ (r:=(lM .u8)) (ms:=([(46:Int)]:List Int)) Qz p.tail rfl (mI p) (.cons (a:=[_]) rfl .nil) rfl ap ?_;intro O c3 q;refine AA (x:=c.2) q.at1 rfl ?_;have⟨c4,P,b⟩:=bS b;refine AE (Mw C q P) ?_;rintro _ c5 ⟨c6,B,c7,b1,rfl,rfl,rfl,Q⟩;refine⟨B,rfl,?_⟩;refine AU (vs:=[.int .u8 (32:Int)]) Q λR c8 s=> ?_;have⟨S,T,b⟩:=bS b;refine AZ (r:=(lM .u8)) (ms:=([(32:Int)]:List Int)) Qz s.tail rfl (mI s) (.cons (a:=[_]) rfl .nil) rfl T ?_;intro U c9 V;obtain rfl:=iS b;exact jZ rfl rfl ⟨(BZ h),S,((k.trans N).trans b1),rfl,m,rfl,V.at1.tail⟩
 ·rintro _ F ch ⟨cl,W,X,rfl,rfl,rfl,Y⟩ Z;refine AW (dF i Z)<|AO (kB rfl ⟨_,(BZ h),W,X,rfl,rfl,rfl,Y⟩)
 rintro z1 cm ⟨_,cp,cs,ba,rfl,_,rfl,t⟩;try dsimp only at hd
 have⟨u,bb,hd⟩:=bS hd;refine Vv (x:=u) lQ underlying5 lU (St.bytes t) bb ?_;obtain rfl:=iS hd;exact AB ⟨(BZ h),u,ba,(by first | with_reducible rfl | (show Value.string _=Value.string _;with_reducible rfl)|rfl),(by first | with_reducible rfl | rfl),t.tail⟩
theorem LJ {c:Slc}{a:List BQ}(g:Glob φ) (b:kL Bx φ c a) (d:St φ F h) {r:ByteArray}(hd:Ee a=some r):
 CallsH kK 60 [(sv c)] h (Ae λv f=>∃ψ:AD,∃y:ByteArray,Sub φ ψ∧v=((.one (.atom .string)):Sh).val y∧y=r∧St ψ F f):=by refine CallsH.mono (Pz (g.mono d.sub) (b.mono d.sub) (mB _) hd) ?_;rintro e f ⟨v,rfl,ψ,y,i,rfl,rfl,s1⟩;exact⟨_,rfl,φ,y,mB _,rfl,rfl,d.keep (i.trans s1.sub)⟩
noncomputable def B1 (a_0:IK) (a:List BQ):Option (List Int):=(forS (σ:=List Int) 0 (a.length:Int) ([]:List Int) λb h=>(idx a b).bind λc=>(B8 a_0 (c.1,c.2)).bind λi=>(cond (decide (i≥ 0)) ((app h ([i]:List Int)).bind λd=>some d) (some h)).bind λe=>some e).bind λj=>(W6 j).bind λf=>(OF f).bind λg=>some g
theorem Ip {B:Option Addr}{d:IK}{A:Slc}{f:List BQ}(k:kL Bx φ A f) (H:St φ (cO 112 (kZ Ca) B d::F) h) {r:(List Int)}(hd:B1 d f=some r):
 CallsH kK 63 [(.pointer B),(sv A)] h (Ae λv I=>∃ψ:AD,∃y:Slc,∃l:List Int,Sub φ ψ∧v=((.one aS):Sh).val y∧l=r∧kL (lM .i64) ψ y l∧St ψ (cO 112 (kZ Ca) B d::F) I):=by
 refine AN mixed func63 (If ..) ?_;have m:A.2.1=mM f:=k.length;have⟨bb,u,hd⟩:=bS hd;refine Bb u (λw y D g=>∃ψ:AD,∃n:List Int,Sub φ ψ∧y.1=w∧n=g∧St ψ (cR 3 (lM .i64) y.2.1 n::cO 112 (kZ Ca) B d::F) D) ((0:Int),((none,0,0):Slc),()) rfl ⟨φ,[],sb,rfl,rfl,(((H.nil 3 (lM .i64)).at1).at1)⟩ ?_ ?_ ?_
 ·rintro _ J bd _ _ ⟨bf,x,bg,rfl,rfl,o⟩ b bi z a0;refine Ai (dT m z)<|YC k b o λe b=>AU (vs:=[.int .i64 (0:Int),.int .i64 (0:Int)]) o λK bj L=>AG L rfl rfl λbl M=>AG M rfl rfl λbp i=>AA i rfl<|AA i rfl ?_;have⟨bs,N,b⟩:=bS b;refine AE (Do (A:=(e.1,e.2,())) i.at2 N) ?_;rintro _ bt ⟨j,E,bw,rfl,rfl,p⟩;refine⟨E,rfl,?_⟩;have⟨O,c,b⟩:=bS b;refine Ad (λy D g=>∃ψ:AD,∃q:List Int,Sub j ψ∧q=g∧St ψ (cR 3 (lM .i64) y.1 q::cO 112 (kZ Ca) B d::cW 124 K [.int .i64 e.1,.int .i64 e.2]::F) D) (g:=O) ?_ ?_
  ·refine kD c rfl (λc=>?_) (λc=>?_)
   ·refine AU (vs:=[.int .i64 E]) p λP bx s=> ?_;have⟨Q,R,c⟩:=bS c;refine AZ (r:=(lM .i64)) (ms:=([E]:List Int)) Ci s.tail.at2 rfl (mI s) (.cons (a:=[_]) rfl .nil) rfl R ?_;intro S bz T;exact jY rfl ⟨j,Q,sb,iS c,T.at2.at2.at2⟩
   exact jY rfl ⟨j,x,sb,iS c,p.at2.at2.at2.at2⟩
  rintro U c0 ⟨V,W,c1,rfl,X⟩;obtain rfl:=iS b;exact jZ rfl rfl ⟨V,W,sb,a0,rfl,X.at2.tail.at1.at1⟩
 ·rintro _ J c2 ⟨al,ap,c3,rfl,rfl,Y⟩ b1;refine AW (dF m b1)<|AO (kB rfl ⟨_,al,ap,sb,rfl,rfl,Y.at1.at1⟩)
 rintro z1 c4 ⟨_,c5,c6,c7,_,rfl,Z⟩;have⟨c8,b3,hd⟩:=bS hd;refine AE (YE Z b3) ?_;rintro _ c9 ⟨ch,G,cl,cm,rfl,rfl,b4⟩;refine⟨G,rfl,?_⟩;have⟨cp,b5,hd⟩:=bS hd;refine AE (Ua b4 b5) ?_;rintro _ cs ⟨cu,C,b6,cw,rfl,rfl,b7⟩;refine⟨C,rfl,?_⟩;have⟨b8,cx,b9,ba⟩:=lX (t:=C) b7;exact AB ⟨b8,C,b6,sb,rfl,iS hd,b9,ba⟩
noncomputable def Cm (a_0:D5) (a:Int):Option (List BQ):=(Bv a_0 a).bind λt1=>(cloneD t1.2.1).bind λt2=>some t2
theorem F6 {A:Option Addr}{a:D5}{B:Int}(c:Pt F4 φ A a) (C:St φ F h) {r:(List BQ)}(hd:Cm a B=some r):
 CallsH kK 147 [(.pointer A),(.int .i64 B)] h (Ae λv D=>∃ψ:AD,∃y:Slc,∃b:List BQ,Sub φ ψ∧v=((.one aS):Sh).val y∧b=r∧kL Bx ψ y b∧St ψ F D):=by refine AN mixed func147 (J2 ..) ?_;have⟨n,d,hd⟩:=bS hd;refine AE (FK c C d) ?_;rintro _ o ⟨p,t1,q,s,u,w,rfl,rfl,x,e,z,f⟩;refine⟨t1,rfl,?_⟩;have⟨a0,g,hd⟩:=bS hd;refine AE (Ps e f g) ?_;rintro _ E ⟨G,t2,i,H,rfl,rfl,j⟩;refine⟨t2,rfl,?_⟩;have⟨k,I,l,m⟩:=lX (t:=t2) j;exact AB ⟨k,t2,i,sb,rfl,iS hd,l,m⟩
noncomputable def Cn (a_0:D5) (a:Int):Option (List Jr):=(Bv a_0 a).bind λt1=>(cloneD t1.2.2.1).bind λt2=>some t2
theorem F7 {A:Option Addr}{a:D5}{B:Int}(c:Pt F4 φ A a) (C:St φ F h) {r:(List Jr)}(hd:Cn a B=some r):
 CallsH kK 109 [(.pointer A),(.int .i64 B)] h (Ae λv D=>∃ψ:AD,∃y:Slc,∃b:List Jr,Sub φ ψ∧v=((.one aS):Sh).val y∧b=r∧kL HX ψ y b∧St ψ F D):=by refine AN mixed func109 (J3 ..) ?_;have⟨n,d,hd⟩:=bS hd;refine AE (FK c C d) ?_;rintro _ o ⟨p,t1,q,s,u,w,rfl,rfl,x,z,e,f⟩;refine⟨t1,rfl,?_⟩;have⟨a0,g,hd⟩:=bS hd;refine AE (Uq e f g) ?_;rintro _ E ⟨G,t2,i,H,rfl,rfl,j⟩;refine⟨t2,rfl,?_⟩;have⟨k,I,l,m⟩:=lX (t:=t2) j;exact AB ⟨k,t2,i,sb,rfl,iS hd,l,m⟩
end
end Go.Proofs.YtnlkgidlfnefbaaGreatDoor
namespace Go.Proofs.YtnlkgidlfnefbaaGreatDoor
open Go Go.Eng Go.RowKit Go.Shelf Go.Sort
def orI (x y:Int):Int:=if x=0 then y else x
theorem or2 {b:Nat}{x y:Int}(w:World) (o:w.cell? ⟨b,0,none⟩=some (.int .i64 x)) (p:w.cell? ⟨b,1,none⟩=some (.int .i64 y)):
 Calls kK 139 #[.slice (jX b) 2 2] w λe g=>e= .returned (.int .i64 (orI x y))∧g=w:=by
 have j:prog.follows .mixedOrders=true:=mixed
 go_enter func139,ntmps139
 go_wp2
 go_loop [5,8] (λ_ i=>∃k:Nat,k≤2∧i= .int .i64 k∧(1≤k→x=0)∧(2≤k→y=0)) (λ_ i=>match i with | .int _ m=>2 - m.toNat | _=>0)
 case atStart=>exact⟨0,by omega,rfl,by omega,by omega⟩
 case round=>
  obtain⟨k,q,rfl,c,l⟩:=hrel;have d:k=0∨k=1∨k=2:=by omega
  rcases d with rfl | rfl | rfl
  ·go_wp2
   ·have a:(x !=0)=true:=by assumption
    go_ret
    exact⟨by unfold orI;rw[if_neg (by simpa using a)];rfl,rfl⟩
   ·have a:(x !=0)=false:=by assumption
    exact⟨⟨1,by omega,rfl,λ_=>by simpa using a,λh=>by omega⟩,by decide⟩
  ·go_wp2
   ·have a:(y !=0)=true:=by assumption
    go_ret
    have f:=c (by omega);subst f;exact⟨rfl,rfl⟩
   ·have a:(y !=0)=false:=by assumption
    exact⟨⟨2,by omega,rfl,λ_=>c (by omega),λ_=>by simpa using a⟩,by decide⟩
  ·go_wp2
   go_ret
   have f:=c (by omega);have n:=l (by omega);subst f;subst n;exact⟨rfl,rfl⟩
theorem Lw {w:World}{b i:Nat}{c:Array Value}{t:TypeId}{v:Value}(a:w.heap[b]? =some (.cells c t (0,0))) (d:c[i]? =some v):w.cell? ⟨b,i,none⟩=some v:=by rw[Vb,GT (c:=c) (t:=t) (f:=(0,0)) a rfl];exact d
theorem SN (w:World) (x y:Int):(w.alloc (.cells #[.int .i64 x,.int .i64 y] 3)).cell? ⟨w.heap.size,0,none⟩=some (.int .i64 x)∧(w.alloc (.cells #[.int .i64 x,.int .i64 y] 3)).cell? ⟨w.heap.size,1,none⟩=some (.int .i64 y):=by
 have a:(w.alloc (.cells #[.int .i64 x,.int .i64 y] 3)).heap[w.heap.size]? =some (.cells #[.int .i64 x,.int .i64 y] 3 (0,0)):=by
  show(w.heap.push _)[w.heap.size]? =_;rw[lH,if_pos rfl]
 exact⟨Lw a rfl,Lw a rfl⟩
theorem Q0 (w:World) (o:Obj):w.alloc o=grow w #[o]:=by show({w with heap:=w.heap.push o} :World)= {w with heap:=w.heap++ #[o]};rw[Array.push_eq_append]
theorem gX {a b:Int×Int}(w:World):
 Calls kK 100 #[.agg #[.int .i64 a.1,.int .i64 a.2],.agg #[.int .i64 b.1,.int .i64 b.2]] w λe l=>e= .returned (.int .i64 (orI (Lib.compareInt a.1 b.1) (Lib.compareInt a.2 b.2)))∧ ∃q g,l=grow (w.drewN q) g:=by
 have m:prog.follows .mixedOrders=true:=mixed;have n:∀args w,(callFunc 140 args).run kK w= .ok (.enter 140 args) w:=enters_of func140 (by kernel_rfl) rfl;have o:∀args w,(callFunc 139 args).run kK w= .ok (.enter 139 args) w:=enters_of func139 (by kernel_rfl) rfl
 go_enter func100,ntmps100
 go_wp2
 obtain⟨A,h⟩:∃A,A=Obj.cells #[mK .i64 a.1,mK .i64 a.2] 124 (0,0):=⟨_,rfl⟩;obtain⟨B,i⟩:∃B,B=Obj.cells #[mK .i64 b.1,mK .i64 b.2] 124 (0,0):=⟨_,rfl⟩;obtain⟨W,c⟩:∃W,W=(w.alloc A).alloc B:=⟨_,rfl⟩;have j:W.heap=(w.heap.push A).push B:=by rw[c];rfl
 have d:W.heap[w.heap.size]? =some A:=by rw[j,lH,if_neg (by simp),lH,if_pos rfl]
 have f:W.heap[w.heap.size+1]? =some B:=by rw[j,lH,if_pos (by simp)]
 rw[←h,←i,←c];rw[h]at d;rw[i]at f;have p:W.drew.cell? ⟨w.heap.size,0,none⟩=some (.int .i64 a.1):=Lw (w:=W.drew) d rfl;have r:W.drew.cell? ⟨w.heap.size,1,none⟩=some (.int .i64 a.2):=Lw (w:=W.drew) d rfl;have s:W.drew.cell? ⟨w.heap.size+1,0,none⟩=some (.int .i64 b.1):=Lw (w:=W.drew) f rfl;have t:W.drew.cell? ⟨w.heap.size+1,1,none⟩=some (.int .i64 b.2):=Lw (w:=W.drew) f rfl;have k:grow w #[A,B] =W:=by rw[c,Q0,Q0,grow_grow];rfl
 clear j d f c h i;refine wp_region_still_tail 10 (by kernel_rfl) (by kernel_rfl) ?_;simp only[List.take_succ_cons,List.take_zero,List.drop_succ_cons,List.drop_zero]
 still_step
 still_step
 still_step
 still_step
 still_call (Any.cmp_Compare_int OE _ _ _)
 still_step
 still_step
 still_step
 still_step
 still_call (Any.cmp_Compare_int OE _ _ _)
 refine wpStill_nil ?_;clear p r s t;change wpList _ _ _ _ _ W.drew
 generalize u:W.drew=V
 go_wp2_with (go_at_call 139;refine(or2 (x:=Lib.compareInt a.1 b.1) (y:=Lib.compareInt a.2 b.2) _ (SN _ _ _).1 (SN _ _ _).2).mono ?_;rintro e l ⟨rfl,rfl⟩)
 go_ret
 refine⟨rfl,1,#[A,B] ++ #[.cells #[.int .i64 (Lib.compareInt a.1 b.1),.int .i64 (Lib.compareInt a.2 b.2)] 3 (0,0)],?_⟩;rw[Q0,←u,←k,←grow_grow];rfl
abbrev Item:=Int×Int
def Gh (x:Item):List Value:=[.int .i64 x.1,.int .i64 x.2]
def cfI (x y:Item):Int:=orI (Lib.compareInt x.1 y.1) (Lib.compareInt x.2 y.2)
def EU (x y:Item):Bool:=decide (x.1<y.1∨x.1=y.1∧x.2<y.2)
def Hg (l:List Item):List Item:=SE (λx y=> !EU y x) l
theorem ON (a b c:Item) (d:(!EU b a)=true) (e:(!EU c b)=true):(!EU c a)=true:=by simp only[EU,lJ,decide_eq_false_iff_not]at *;omega
theorem OO (a b:Item):(!EU b a || !EU a b)=true:=by simp only[EU,Bool.or_eq_true,lJ,decide_eq_false_iff_not];omega
theorem YL (l:List Item):Hg l=l.mergeSort λx y=> !EU y x:=
 UZ ON OO (λa b c d=>by
  simp only[EU,lJ,decide_eq_false_iff_not]at *;exact mP (by omega) (by omega)) l
def JS (l:List Item):Option (List Item):=if l.length<4611686018427387904 then some (Hg l) else none
theorem YM {φ:AD}{vs:List Value}{l:List Item}(H:Bx.All φ vs l):vs=l.flatMap Gh:=by
 induction H with
 |nil=>rfl
 |cons h _ a=>
  obtain⟨_,_,rfl,rfl,rfl⟩:=h;rw[a,lR];rfl
theorem YN {φ:AD}(l:List Item):Bx.All φ (l.flatMap Gh) l:=by
 induction l with
 |nil=>exact .nil
 |cons x l b=>exact Ro.All.cons (a:=Gh x) ⟨[_],_,rfl,rfl,rfl⟩ b
theorem Zt (l:List Item):∀t:Nat,t<l.length *2→(l.flatMap Gh)[t]? =some ((Gh (l[t / 2]?.getD (0,0)))[t % 2]!):=by
 induction l with
 |nil=>intro t h;simp at h
 |cons x l a=>
  intro t h;rw[lR]
  match t with
  | 0=>rfl
  | 1=>rfl
  |t+2=>
   rw[kH (by simp[Gh])];have e:t+2 - (Gh x).length=t:=by simp[Gh]
   rw[e,a t (by simp at h;omega),show(t+2) / 2=t / 2+1 by omega,List.getElem?_cons_succ,show(t+2) % 2=t % 2 by omega]
theorem OP (l:List Item):(l.flatMap Gh).length=l.length *2:=by
 induction l with
 |nil=>rfl
 |cons x l a=>rw[lR,kO,a,kG];simp[Gh];omega
theorem Q1 (l:List Item):flatK Gh 2 l.toArray=(l.flatMap Gh).toArray:=by
 refine ext_get! (by rw[size_flatK,lS,lS,OP]) λt b=> ?_;rw[size_flatK,lS]at b;rw[get_flatK _ _ _ _ (by simpa using b)];have c:=Zt l t b;have a:t< (l.flatMap Gh).length:=by rw[OP];exact b
 rw[bD a]at c;rw[getElem!_pos _ t (by simpa using a)];have d:t / 2<l.length:=by omega
 rw[getElem!_pos _ (t / 2) (by simpa using d)];rw[bD d]at c;simp only[List.getElem_toArray];exact(Option.some.inj c).symm
theorem Q2 (x y:Item):ltOf cfI x y=EU x y:=by
 unfold ltOf cfI EU orI Lib.compareInt;by_cases a:x.1<y.1
 ·simp[a]
 ·by_cases d:y.1<x.1
  ·have:¬x.1=y.1:=by omega
   simp[a,d,this]
  ·have b:x.1=y.1:=by omega
   by_cases c:x.2<y.2
   ·simp[b,c]
   ·by_cases e:y.2<x.2<;>simp[b,c,e]
theorem WD (x y:Item):EU x y=true↔(x.1<y.1∨x.1=y.1∧x.2<y.2):=by unfold EU;exact decide_eq_true_iff
theorem LK (x y:Item):EU x y=false↔¬(x.1<y.1∨x.1=y.1∧x.2<y.2):=by unfold EU;exact decide_eq_false_iff_not
theorem iI:SWO (ltOf cfI) where
 irrefl x:=by rw[Q2,LK];omega
 trans x y z a b:=by rw[Q2,WD]at *;omega
 ntrans x y z a b:=by rw[Q2,LK]at *;omega
theorem iJ (x y:Item) (a:ltOf cfI x y=false) (b:ltOf cfI y x=false):x=y:=by rw[Q2,LK]at a b;exact mP (by omega) (by omega)
section
variable {φ:AD}{h:AH}{F:List Chk}
theorem WE {t:Slc}{l r:List Item}(f:St φ (cR 124 Bx t l::F) h) (hd:JS l=some r):
 CallsH kK 99 [.slice t.1 t.2.1 t.2.2,.func (.func 100) #[] #[]] h (Ae λv q=>∃ψ:AD,∃y:Unit,∃l1:List Item,Sub φ ψ∧v=((.tuple []):Sh).val y∧l1=r∧St ψ (cR 124 Bx t l1::F) q):=by
 unfold JS at hd;split at hd
 ·rename_i s
  cases hd;intro w u;subst u;rcases St.rowHoldsF f with⟨z,g⟩|⟨b,off,vs,ht,hall,g,hlt,hfit,hH⟩
  ·subst z;rw[g];have i:=AnyF.slices_SortFunc_none LA t.1 t.2.2 (.func (.func 100) #[] #[]) w;refine(show Calls kK 99 #[.slice t.1 0 t.2.2,_] w _ from i).mono ?_;rintro e A ⟨rfl,rfl⟩;exact⟨B4.refl _,_,rfl,φ,(),_,mB _,rfl,rfl,by rw[show Hg [] = [] from rfl];exact f⟩
  ·have j:=YM hall;subst j;have n:HoldsK Gh 2 w b off l.toArray:=by unfold HoldsK;rw[Q1];exact hH
   have i:=AnyQ.slices_SortFunc_total LA 2 (λw=>isAgg124 w) (λw=>sizeOf124 w) Gh (λ_=>rfl) (λx v p=>by simp[Gh]at p;rcases p with rfl | rfl<;>rfl) cfI iI 100 #[] b off t.2.2 l.toArray w
    (enters_of func100 (by kernel_rfl) rfl) (λm os C B x y=>gX (a:=x) (b:=y) _) n hlt (by simpa using s) iJ
   have o:t.2.1=l.toArray.size:=by rw[g];simp
   rw[ht,o];refine(show Calls kK 99 #[.slice (some ⟨b,off,none⟩) l.toArray.size t.2.2,_] w _ from i).mono ?_;rintro e A ⟨rfl,k,os,rfl⟩;have d:(l.toArray.toList.mergeSort λx y=> !(ltOf cfI) y x)=Hg l:=by
    rw[YL];congr 1;funext x y;rw[Q2]
   rw[d];have c:(Hg l).length=l.length:=(DU _ _).length_eq;have s1:=St.rowSortedF f ht ((Hg l).flatMap Gh) (YN _) c (by rw[OP,c,←OP];exact hfit) k os;refine⟨⟨rfl,rfl,rfl,by unfold sortWorldK;rw[size_grow,size_putRowK];exact Nat.le_add_right _ _⟩,_,rfl,φ,(),_,mB _,rfl,rfl,?_⟩;unfold sortWorldK putRowK;rw[Q1];exact s1
 ·cases hd
end
end Go.Proofs.YtnlkgidlfnefbaaGreatDoor
namespace Go.Proofs.YtnlkgidlfnefbaaGreatDoor
open Go Go.Eng
noncomputable def BT (a_0:IK) (b:List BQ):Option (List BQ):=(cloneD b).bind λt1=>(loop (σ:=(Int×List BQ×List (Int×Bool))) (β:=(List BQ×List (Int×Bool))) (0,t1,([]:List (Int×Bool))) λc=>cond (decide (c.1< (c.2.1.length:Int))) (((idx c.2.1 c.1).bind λe=>(B8 a_0 (e.1,e.2)).bind λf=>(cond (decide (f< 0)) (some true) ((BU (a_0.1,a_0.2.1,a_0.2.2.1,a_0.2.2.2.1,a_0.2.2.2.2.1,a_0.2.2.2.2.2.1) f).bind λh=>cond h (some true) ((some (BX f c.2.2)).bind λi=>some (Option.getD i false)))).bind λj=>cond j (some (c.2.1,c.2.2)) ((forS (σ:=List BQ) 0 (a_0.2.2.1.length:Int) c.2.1 λa d=>(idx a_0.2.2.1 a).bind λg=>(cond (g.1==f) ((Az d (a,0)).bind λk=>some (!k)) (some false)).bind λl=>(cond l ((app d ([(a,0)]:List BQ)).bind λm=>some m) (some d)).bind λn=>some n).bind λo=>some (o,(CA f true c.2.2)))).bind λq=>some (mN ((lF .i64 (c.1+1)),q.1,q.2))) (some (mO (c.2.1,c.2.2)))).bind λr=>(JS r.1).bind λp=>some p
theorem Iq {φ:AD}{h:AH}{F:List Chk}{B:Option Addr}{b:IK}{A:Slc}{bd:List BQ}(c8:kL Bx φ A bd) (s0:St φ (cO 112 (kZ Ca) B b::F) h) {r:(List BQ)}(hd:BT b bd=some r):
 CallsH kK 61 [(.pointer B),(sv A)] h (Ae λv h'=>∃ψ:AD,∃y:Slc,∃bf:List BQ,Sub φ ψ∧v=((.one aS):Sh).val y∧bf=r∧kL Bx ψ y bf∧St ψ (cO 112 (kZ Ca) B b::F) h'):=by
 refine AN mixed func61 (Ie ..) ?_;have⟨fz,c9,hd⟩:=bS hd;refine AE (Ps c8 s0 c9) ?_;rintro _ g0 ⟨M,t1,ch,g1,rfl,rfl,cl⟩;refine⟨t1,rfl,?_⟩;refine Du (kyI .i64) lY cl λE g2 cm=> ?_;have⟨cp,cs,hd⟩:=bS hd;refine Av (λy D g=>∃ψ:AD,∃bg:List BQ,∃bi:List (Int×Bool),Sub M ψ∧(bg,bi)=g∧St ψ (cR 124 Bx y.2.1 bg::cM (kyI .i64) lY E bi::cO 112 (kZ Ca) B b::F) D) (g:=cp) ?_ ?_
 ·refine FF cs (λy D g=>∃ψ:AD,∃bj:List BQ,∃bl:List (Int×Bool),Sub M ψ∧(y.1,bj,bl)=g∧St ψ (cR 124 Bx y.2.1 bj::cM (kyI .i64) lY E bl::cO 112 (kZ Ca) B b::F) D) ((0:Int),t1,()) rfl ⟨M,ch,([]:List (Int×Bool)),sb,rfl,cm.at1.at2.at2.at2⟩ ?_
  ·rintro z4 g3 _ _ ⟨bp,p,e,g4,rfl,q⟩ f cu;have cw:=q.rowLen;refine kD f (by rw[cw] <;>rfl) (λf=>?_) (λf=>?_)
   ·have⟨cx,c,f⟩:=bS f;refine Av (λy D g=>∃ψ:AD,∃bs:List BQ,∃bt:List (Int×Bool),Sub bp ψ∧(bs,bt)=g∧St ψ (cR 124 Bx y.1 bs::cM (kyI .i64) lY E bt::cO 112 (kZ Ca) B b::F) D) (g:=cx) ?_ ?_
    ·refine gL q c λbw c=> ?_;have⟨g5,d0,c⟩:=bS c;refine AE (Do (A:=(bw.1,bw.2,())) q.at2 d0) ?_;rintro _ g6 ⟨bx,G,g7,rfl,rfl,bz⟩;refine⟨G,rfl,?_⟩;have⟨d1,d,c⟩:=bS c;refine Ad (λy D g=>∃ψ:AD,Sub bx ψ∧y.1=g∧St ψ (cO 112 (kZ Ca) B b::cR 124 Bx z4.2.1 p::cM (kyI .i64) lY E e::F) D) (g:=d1) ?_ ?_
     ·refine kD d rfl (λd=>?_) (λd=>?_)
      ·have d2:=bz.at2;exact jY rfl ⟨bx,sb,iS d,d2.at2.at2⟩
      obtain⟨g8,g9,d3,⟨_,_,rfl,⟨N,rfl,O⟩,_,_,rfl,⟨P,rfl,Q⟩,_,_,rfl,⟨R,rfl,S⟩,_,_,rfl,⟨al,rfl,ap⟩,_,_,rfl,⟨T,rfl,b1⟩,_,_,rfl,⟨U,rfl,V⟩,_,_,rfl,rfl,rfl⟩,j⟩:=mQ bz;subst d3;refine AF _ rfl<|AA j rfl<|AA j rfl<|AA j rfl<|AA j rfl<|AA j rfl<|AA j rfl ?_;have⟨gc,d4,d⟩:=bS d;refine AE (Dc (n:=(N,P,R,al,T,U,())) (m:=(b.1,b.2.1,b.2.2.1,b.2.2.2.1,b.2.2.2.2.1,b.2.2.2.2.2.1)) ⟨O,Q,S,ap,b1,V⟩ j d4) ?_;rintro _ gd ⟨c0,W,gf,rfl,rfl,X⟩;refine⟨W,rfl,?_⟩;refine kD d rfl (λd=>?_) (λd=>?_)
      ·have d5:=mR (r:=Ca) (x:=(b.1,b.2.1,b.2.2.1,b.2.2.2.1,b.2.2.2.2.1,b.2.2.2.2.2.1,b.2.2.2.2.2.2.1,b.2.2.2.2.2.2.2)) X ⟨[_],_,rfl,⟨N,rfl,O.up⟩,⟨[_],_,rfl,⟨P,rfl,Q.up⟩,⟨[_],_,rfl,⟨R,rfl,S.up⟩,⟨[_],_,rfl,⟨al,rfl,ap.up⟩,⟨[_],_,rfl,⟨T,rfl,b1.up⟩,⟨[_],_,rfl,⟨U,rfl,V.up⟩,⟨[_],_,rfl,rfl,rfl⟩⟩⟩⟩⟩⟩⟩;exact jY rfl ⟨c0,sb,iS d,d5.at2.at2.at2⟩
      have⟨gg,d6,d⟩:=bS d;obtain rfl:=iS d6;refine HR (a:=.bool) (kk:=(kyI .i64)) (i:=t4) false mE mL (by kernel_rfl) rfl X.at2 ?_;have d7:=mR (r:=Ca) (x:=(b.1,b.2.1,b.2.2.1,b.2.2.2.1,b.2.2.2.2.1,b.2.2.2.2.2.1,b.2.2.2.2.2.2.1,b.2.2.2.2.2.2.2)) X ⟨[_],_,rfl,⟨N,rfl,O.up⟩,⟨[_],_,rfl,⟨P,rfl,Q.up⟩,⟨[_],_,rfl,⟨R,rfl,S.up⟩,⟨[_],_,rfl,⟨al,rfl,ap.up⟩,⟨[_],_,rfl,⟨T,rfl,b1.up⟩,⟨[_],_,rfl,⟨U,rfl,V.up⟩,⟨[_],_,rfl,rfl,rfl⟩⟩⟩⟩⟩⟩⟩;exact jY rfl ⟨c0,sb,iS d,d7.at2.at2.at2⟩
     rintro e8 gj ⟨Y,gk,rfl,c1⟩;refine kD c rfl (λc=>?_) (λc=>?_)
     ·have d8:=c1.at1;exact kB rfl ⟨Y,p,e,sb,iS c,d8.at1.at2.at2⟩
     refine Ki (kk:=(kyI .i64)) (y:=true) mE mL c1.at2 rfl λgl d9=> ?_;obtain⟨Z,gn,dd,⟨_,_,rfl,⟨s,rfl,dg⟩,_,_,rfl,⟨u,rfl,dk⟩,_,_,rfl,⟨w,rfl,b7⟩,_,_,rfl,⟨z,rfl,dl⟩,_,_,rfl,⟨a0,rfl,dp⟩,_,_,rfl,⟨J,rfl,ds⟩,_,_,rfl,rfl,rfl⟩,c2⟩:=mQ d9.at1;subst dd;have c3:=b7.length;refine AF _ rfl<|AA c2 rfl ?_;have⟨go,dx,c⟩:=bS c;refine Bb dx (λdy y D g=>∃ψ:AD,∃c4:List BQ,Sub Y ψ∧y.1=dy∧c4=g∧St ψ (cR 124 Bx y.2.1 c4::cW 112 Z [sv s,sv u,sv w,sv z,sv a0,sv J,sv b.2.2.2.2.2.2.1,.int .i64 b.2.2.2.2.2.2.2]::cM (kyI .i64) lY E (CA G true e)::F) D) ((0:Int),z4.2.1,()) rfl ⟨Y,p,sb,rfl,rfl,c2.at2.at2.at2.at2⟩ ?_ ?_ ?_
     ·rintro _ C gp _ _ ⟨b8,c5,gr,rfl,rfl,K⟩ k gs e0 e1;refine Ai (dT c3 e0) ?_;have⟨n,e2,k⟩:=bS k;obtain⟨gv,gx,e3,e4,e5,b9⟩:=(b7.up (ψ:=b8)).get e2;refine AF _ e3 (Am e4 ?_);obtain⟨_,_,rfl,rfl,⟨_,_,rfl,⟨ba,rfl,h0⟩,rfl⟩⟩:=e5;refine AL (x:=n.1) (AM (mS sb K.sub) (b9 0 _ rfl)) rfl<|AL (x:=ba) (by rw[Ac];exact(AM (mS sb K.sub) (b9 1 _ rfl))) rfl<|AL (x:=n.2.2) (by rw[Ac];exact(AM (mS sb K.sub) (b9 2 _ rfl))) rfl<|AU (vs:=[.int .i64 (0:Int),.slice none 0 0,.int .i64 (0:Int)]) K λH h1 ea=>AG ea rfl rfl λh2 ec=>AG ec rfl rfl λh3 ed=>AG ed rfl rfl λh4 ee=>AU (vs:=[.int .i64 (0:Int),.int .i64 (0:Int)]) ee λI h5 ef=>AG ef rfl rfl λh6 eg=>AG eg rfl rfl λh7 o=> ?_;have⟨ek,l,k⟩:=bS k;refine Ad (λy D g=>∃ψ:AD,Sub b8 ψ∧y.1=g∧St ψ (cW 124 I [.int .i64 C.1,.int .i64 (0:Int)]::cW 57 H [.int .i64 n.1,sv ba,.int .i64 n.2.2]::cR 124 Bx C.2.1 c5::cW 112 Z [sv s,sv u,sv w,sv z,sv a0,sv J,sv b.2.2.2.2.2.2.1,.int .i64 b.2.2.2.2.2.2.2]::cM (kyI .i64) lY E (CA G true e)::F) D) (g:=ek) ?_ ?_
      ·refine AA o.at1 rfl<|kD l rfl (λl=>?_) (λl=>?_)
       ·refine AA o rfl<|AA (x:=(0:Int)) o rfl ?_;have⟨h8,el,l⟩:=bS l;refine AE (Dw (k:=(C.1,(0:Int),())) o.at2 el) ?_;rintro _ h9 ⟨em,e6,hb,rfl,rfl,en⟩;refine⟨e6,rfl,?_⟩;exact jY rfl ⟨em,sb,iS l,en.at4.at4.at2.at4.at4⟩
       exact jY rfl ⟨b8,sb,iS l,o.at4.at4.at4.at4.at4⟩
      rintro e9 hc ⟨bb,he,rfl,L⟩;have⟨eo,m,k⟩:=bS k;refine Ad (λy D g=>∃ψ:AD,∃c6:List BQ,Sub bb ψ∧c6=g∧St ψ (cR 124 Bx y.1 c6::cW 124 I [.int .i64 C.1,.int .i64 (0:Int)]::cW 57 H [.int .i64 n.1,sv ba,.int .i64 n.2.2]::cW 112 Z [sv s,sv u,sv w,sv z,sv a0,sv J,sv b.2.2.2.2.2.2.1,.int .i64 b.2.2.2.2.2.2.2]::cM (kyI .i64) lY E (CA G true e)::F) D) (g:=eo) ?_ ?_
      ·refine kD m rfl (λm=>?_) (λm=>?_)
       ·refine AA L rfl<|AA (x:=(0:Int)) L rfl<|AU (vs:=[.int .i64 C.1,.int .i64 (0:Int)]) L λi0 hf c7=> ?_;have⟨er,es,m⟩:=bS m;refine AZ (r:=Bx) (ms:=([(C.1,(0:Int))]:List BQ)) OM c7.tail.at2 rfl (mI c7) (.cons (a:=[_,_]) ⟨[_],_,rfl,rfl,rfl⟩ .nil) rfl es ?_;intro i1 hg ev;exact jY rfl ⟨bb,er,sb,iS m,ev.at4.at4.at4.at4.at4⟩
       exact jY rfl ⟨bb,c5,sb,iS m,L.at2.at4.at4.at4.at4.at4⟩
      rintro i2 hh ⟨ew,ex,hi,rfl,ey⟩;obtain rfl:=iS k;exact jZ rfl rfl ⟨ew,ex,sb,e1,rfl,ey.at1.tail.at1.tail.at2.at2.at2⟩
     ·rintro _ C hj ⟨ez,f0,hk,rfl,rfl,f1⟩ f2;refine AW (dF c3 f2)<|AO (kB rfl ⟨_,ez,f0,sb,rfl,rfl,f1.at2.at2.at2⟩)
     rintro i3 hl ⟨_,f3,f4,hm,_,rfl,f5⟩;have f6:=mR (r:=Ca) (x:=(b.1,b.2.1,b.2.2.1,b.2.2.2.1,b.2.2.2.2.1,b.2.2.2.2.2.1,b.2.2.2.2.2.2.1,b.2.2.2.2.2.2.2)) f5.at1 ⟨[_],_,rfl,⟨s,rfl,dg.up⟩,⟨[_],_,rfl,⟨u,rfl,dk.up⟩,⟨[_],_,rfl,⟨w,rfl,b7.up⟩,⟨[_],_,rfl,⟨z,rfl,dl.up⟩,⟨[_],_,rfl,⟨a0,rfl,dp.up⟩,⟨[_],_,rfl,⟨J,rfl,ds.up⟩,⟨[_],_,rfl,rfl,rfl⟩⟩⟩⟩⟩⟩⟩;exact kC rfl ⟨f3,f4,(CA G true e),sb,iS c,f6.at2.at2⟩
    rintro z5 hn ⟨f7,f8,f9,ho,rfl,fa⟩;obtain rfl:=iS f;exact jZ rfl rfl ⟨f7,f8,f9,sb,rfl,fa.at2.at2.at2⟩
   obtain rfl:=iS f;obtain rfl:=cu _ rfl;exact AO (kB rfl ⟨bp,p,e,sb,rfl,q.at2.at2.at2⟩)
 rintro z3 hp ⟨hq,hr,hs,ht,rfl,fd⟩;have⟨hu,fl,hd⟩:=bS hd;refine AE (WE fd fl) ?_;rintro _ hv ⟨hw,e7,fn,hx,rfl,rfl,fo⟩;refine⟨e7,rfl,?_⟩;have⟨fr,hy,fs,fv⟩:=lX (t:=z3.2.1) fo;exact AB ⟨fr,z3.2.1,fn,sb,rfl,iS hd,fs,fv.tail⟩
abbrev dtB:Type:=(List Item×List Item×Slc×Int×Int)
abbrev roB:Ro dtB:=mU (Ro.list Bx) (mU (Ro.list Bx) (mU Ro.slc (mU (lM .i64) (lM .i64))))
abbrev dtK:Type:=(List Item×List Item×Int×Int)
abbrev Mx {ε:Type}(b:dtK) (s:ε):List Item×List Item×ε×Int×Int:=(b.1,b.2.1,s,b.2.2.1,b.2.2.2)
abbrev FL {ε:Type}(B:List dtK) (S:List ε):List (List Item×List Item×ε×Int×Int):=List.zipWith Mx B S
theorem EV {ε:Type}{B:List dtK}{S:List ε}(h:S.length=B.length):(FL B S).length=B.length:=by unfold FL;rw[List.length_zipWith];omega
theorem YO {ε:Type}{B:List dtK}{S:List ε}(h:S.length=B.length) (b:dtK) (s:ε):FL (B++ [b]) (S++ [s])=FL B S++ [Mx b s]:=by unfold FL;rw[List.zipWith_append h.symm];rfl
abbrev Fd:Type:=List (ByteArray×Int)
abbrev qA (p:As) (s:Slc) (t:Int):IK:=(p.1,p.2.1,p.2.2.1,p.2.2.2.1,p.2.2.2.2.1,p.2.2.2.2.2,s,t)
abbrev Gi:Slc:=(none,0,0)
theorem Ur (p:As) (s:Slc) (t:Int) (k:List Item):BT (qA p s t) k=BT (qA p Gi 0) k:=rfl
abbrev bC (d e f g m a b c:Nat) (h:Fd) (p:As) (ls:Slc) (tot:Int) (L:List dtB) (i j:Dl) (F:List Chk):List Chk:=
 cW 113 d [.map (some m)]::cM kyS (lM .i64) m h::cW 66 e [pv a]::cO 112 (kZ Ca) (jX a) (qA p ls tot)::cR 120 roB ls L::
 cW 48 f [pv b]::cO 83 (kZ En) (jX b) i::cW 48 g [pv c]::cO 83 (kZ En) (jX c) j::F
noncomputable def YP (p:As) (b:Fd) (B:List dtK) (d c:Dl) (k:List Item) (fr wi:Int):Option (Int×Int×Fd×List dtK×Dl×Dl):=(Ee k).bind λs=>cond (BX s b).isSome (some ((BX s b).getD 0,0,b,B,d,c)) ((BT (qA p Gi 0) k).bind λa=>(meter_Meter_Take_D d 1).bind λt=>(cond (t.1==0) ((meter_Meter_Take_D c (a.length:Int)).bind λu=>some (u.1,u.2)) (some (t.1,c))).bind λz=>(app B [(k,a,fr,wi)]).bind λe=>some (lF .i64 ((e.length:Int) - 1),z.1,CA s (B.length:Int) b,e,t.2,z.2))
theorem iK:GU kK 110 110 120 5:=⟨mF,.inl mF,⟨t120,by kernel_rfl,rfl,⟨_,rfl,rfl⟩,by decide,by decide⟩,by decide⟩
theorem St.bC_of {φ:AD}{h:AH}{a0 a b c d e f g i:Chk}{F:List Chk}(H:St φ (c::d::a::i::f::a0::b::e::g::F) h):St φ (a0::a::b::c::d::e::f::g::i::F) h:=
 H.at3.at8.at5.at8.at5.at5.at8.at7.at8
theorem XD {φ:AD}{h:AH}{F:List Chk}{t:Slc}{k:List Item}{fr wi:Int}{M N O P m a G H:Nat}{Q:Fd}{p:As}{ls:Slc}{tot:Int}{B:List dtK}{S:List Slc}{rm cl:Dl}
 (gk:Glob φ) (k1:kL Bx φ t k) (hS:S.length=B.length) (s0:St φ (bC M N O P m a G H Q p ls tot (FL B S) rm cl F) h) {r:Int×Int×Fd×List dtK×Dl×Dl} (hd:YP p Q B rm cl k fr wi=some r):
 CallsH kK 59 [.slice t.1 t.2.1 t.2.2,.int .i64 fr,.int .i64 wi,pv M,pv N,pv O,pv P] h (Ae λv h'=>∃(ψ:AD) (y:Int×Int×Unit) (f:Slc) (S':List Slc),Sub φ ψ∧v=((.tuple [.atom (.int .i64),.atom (.int .i64)]):Sh).val y∧y.1=r.1∧y.2.1=r.2.1∧
  ((r.2.2.2.1=B∧S'=S)∨ ∃x,r.2.2.2.1=B++ [x] ∧S'=S++ [Gi])∧St ψ (bC M N O P m a G H r.2.2.1 p f tot (FL r.2.2.2.1 S') r.2.2.2.2.1 r.2.2.2.2.2 F) h'):=by
 refine BF mixed func59 ?_;rw[NG];unfold Ig;unfold YP at hd;have⟨s,hs,hd⟩:=bS hd;refine AA (x:=some m) s0 rfl<|AE (LJ gk k1 s0 hs) ?_;rintro _ h1 ⟨ψ1,s,l,rfl,rfl,s1⟩;refine⟨s,rfl,?_⟩;refine AI (lT s1 rfl)<|YA (a:=.int .i64) (kk:=kyS) (i:=t3) 0 mG lU (by kernel_rfl) rfl s1.at1 λy hy=> ?_;subst hy;refine kD hd rfl (λhd=>?_) (λhd=>?_)
 ·obtain rfl:=iS hd;exact AB ⟨ψ1,((BX s Q).getD 0,0,()),ls,S,l,rfl,rfl,rfl,.inl ⟨rfl,rfl⟩,s1⟩
 have⟨b3,hc,hd⟩:=bS hd;have⟨tk,ht,hd⟩:=bS hd;have⟨z,A,hd⟩:=bS hd;obtain⟨B',hB,hd⟩:=bS hd;obtain rfl:=iS hd;refine AA (x:=some ⟨a,0,none⟩) s1.at2 rfl<|AE (Iq (k1.mono l) s1.at3 (by rw[Ur];exact hc)) ?_;rintro _ h2 ⟨ψ2,I,l2,R,rfl,rfl,k2,s2⟩;refine⟨I,rfl,?_⟩;have n2:=k2.length;have b2:=l.trans R;refine AU (vs:=[.slice none 0 0,.slice none 0 0,.slice none 0 0,.int .i64 (0:Int),.int .i64 (0:Int)]) s2 λr6 h3 s3=>AG s3 rfl rfl λh4 s4=>AG s4 rfl rfl λh5 s5=>AG s5 rfl rfl λh6 s6=>AG s6 rfl rfl λh7 s7=>AG s7 rfl rfl λh8 s8=> ?_;have T:St ψ2 (cW 120 r6 [sv t,sv I,.slice none 0 0,.int .i64 fr,.int .i64 wi]::cO 112 (kZ Ca) (jX a) (qA p ls tot)::cW 113 M [.map (some m)]::cM kyS (lM .i64) m Q::cW 66 N [pv a]::cR 120 roB ls (FL B S)::
  cW 48 O [pv G]::cO 83 (kZ En) (jX G) rm::cW 48 P [pv H]::cO 83 (kZ En) (jX H) cl::F) h8:=s8
 refine AA (x:=some ⟨G,0,none⟩) T.at6 rfl<|AE (EO T.at7 ht) ?_;rintro _ h9 ⟨ψ3,y3,a2,U,rfl,rfl,s9⟩;refine⟨y3,rfl,?_⟩;dsimp only at A;refine Ad (λ(y:Int×Unit) w (g:Int×Dl)=>∃(ψ:AD) (n:Dl),Sub ψ3 ψ∧(y.1,n)=g∧St ψ (cO 83 (kZ En) (jX H) n::cO 83 (kZ En) (jX G) a2::cW 120 r6 [sv t,sv I,.slice none 0 0,.int .i64 fr,.int .i64 wi]::
  cO 112 (kZ Ca) (jX a) (qA p ls tot)::cW 113 M [.map (some m)]::cM kyS (lM .i64) m Q::cW 66 N [pv a]::cR 120 roB ls (FL B S)::cW 48 O [pv G]::cW 48 P [pv H]::F) w) (g:=z) ?_ ?_
 ·refine kD A rfl (λA=>?_) (λA=>?_)
  ·have⟨u,hu,A⟩:=bS A;obtain rfl:=iS A;refine AA (x:=some ⟨H,0,none⟩) s9.at8 rfl<|AA (x:=I) s9.at1 rfl ?_;rw[←n2]at hu;refine AE (EO s9.at9 hu) ?_;rintro _ b4 ⟨ψ4,y4,n,a3,rfl,rfl,a4⟩;refine⟨y4,rfl,?_⟩;exact jY rfl ⟨ψ4,n,a3,rfl,a4⟩
  ·obtain rfl:=iS A;exact jY rfl ⟨ψ3,cl,mB _,rfl,s9.at9⟩
 rintro z9 b5 ⟨ψ5,n,V,rfl,J⟩;refine AA (x:=some m) J.at4 rfl<|AA (x:=some ⟨a,0,none⟩) J.at6 rfl<|AF _ rfl ?_;have W:=J.at3;obtain⟨b,vs,e,⟨_,_,rfl,⟨u1,rfl,a5⟩,_,_,rfl,⟨u2,rfl,a6⟩,_,_,rfl,⟨u3,rfl,a7⟩,_,_,rfl,⟨u4,rfl,a8⟩,_,_,rfl,⟨u5,rfl,a9⟩,_,_,rfl,⟨u6,rfl,b0⟩,_,_,rfl,rfl,rfl⟩,X⟩:=mQ W;obtain rfl:a=b:=by simpa using e
 refine AA (x:=ls) X rfl ?_;have C:=(R.trans U).trans V;have D:=l.trans C;refine AE (LJ (gk.mono D) (k1.mono D) X hs) ?_;rintro _ b6 ⟨ψ6,q6,d,rfl,rfl,o⟩;refine⟨q6,rfl,?_⟩;refine AI (lT (b:=a) (j:=6) o rfl)<|AI (lT o.at6 rfl)<|AI (lT o.at4 rfl) ?_;have nL:=St.rowLen o.at7;rw[EV hS]at nL;refine Ki (kk:=kyS) (y:=(ls.2.1:Int)) mG lU o.at5 rfl λb7 c=>AA (x:=some ⟨a,0,none⟩) c.at6 rfl<|AA (x:=some ⟨a,0,none⟩) c.at6 rfl<|AF _ rfl<|AA (x:=ls) c.at1 rfl<|AA (x:=t) c.at4 rfl<|AA (x:=I) c.at4 rfl<|AA (x:=Gi) c.at4 rfl<|AA (x:=fr) c.at4 rfl<|AA (x:=wi) c.at4 rfl<|AU (vs:=[sv t,sv I,.slice none 0 0,.int .i64 fr,.int .i64 wi]) c λb8 b9 q=>AI (lT (b:=a) (j:=6) q.at2 rfl)<|AI (lT q.at7 rfl)<|AI (lT q.at7 rfl) ?_;have cw:=mI q;have Y:=C.trans d;have E:=l.trans Y;obtain⟨Z,rfl⟩:=QX hB;have b1:app (FL B S) [Mx (k,l2,fr,wi) Gi] =some (FL (B++ [(k,l2,fr,wi)]) (S++ [Gi])):=by
  unfold app;rw[EV hS,YO hS,if_pos (by simpa using Z)]
 refine AZ (r:=roB) (ms:=[Mx (k,l2,fr,wi) Gi]) iK (q.tail.at7) rfl cw (.cons (a:=[_,_,_,_,_]) ⟨[_],_,rfl,⟨t,rfl,k1.mono E⟩,[_],_,rfl,⟨I,rfl,k2.mono (((U.trans V)).trans d)⟩,[_],_,rfl,rfl,[_],_,rfl,rfl,rfl⟩ .nil) rfl b1 λf c0 K=> ?_;have a0:=St.rowLen K;rw[EV (by simp[hS])]at a0;refine AI (lT K.at7 rfl)<|AF _ rfl<|AG K.at2 rfl rfl λc1 L=>AA (x:=some ⟨a,0,none⟩) L.at7 rfl<|AF _ rfl<|AA (x:=f) L rfl ?_;have a1:=mR (r:=Ca) (x:=qA p f tot) L ⟨[_],_,rfl,⟨u1,rfl,a5.mono d⟩,[_],_,rfl,⟨u2,rfl,a6.mono d⟩,[_],_,rfl,⟨u3,rfl,a7.mono d⟩,[_],_,rfl,⟨u4,rfl,a8.mono d⟩,[_],_,rfl,⟨u5,rfl,a9.mono d⟩,[_],_,rfl,⟨u6,rfl,b0.mono d⟩,[_],_,rfl,rfl,rfl⟩;refine AB ⟨ψ6,(lF .i64 ((f.2.1:Int) - 1),z9.1,()),f,S++ [Gi],E,rfl,by rw[a0],rfl,.inr ⟨_,rfl,rfl⟩,?_⟩;rw[nL]at a1;exact St.bC_of a1.at5.tail
abbrev Edge:Type:=Int×Int
abbrev BSt:Type:=Fd×List dtK×List (List Edge)×Dl×Dl
def Gj (E:List (List Edge)) (n a:Nat):List (List Edge):=if a=n then E else E++ [[]]
noncomputable def XE (p:As) (b:dtK) (i sym:Int) (y:BSt):Option (AY BSt Int):=(CY (qA p Gi 0) b.2.1 sym).bind λk=>(YP p y.1 y.2.1 y.2.2.2.1 y.2.2.2.2 k i sym).bind λr=>cond (r.2.1 !=0) (some (mO r.2.1)) ((idx (Gj y.2.2.1 y.2.1.length r.2.2.2.1.length) i).bind λc=>(app c [(sym,r.1)]).bind λa=>(Ea (Gj y.2.2.1 y.2.1.length r.2.2.2.1.length) i a).bind λd=>some (mN (r.2.2.1,r.2.2.2.1,d,r.2.2.2.2.1,r.2.2.2.2.2)))
noncomputable def TQ (p:As) (b:dtK) (i:Int) (y:BSt):Option (AY BSt Int):=(B1 (qA p Gi 0) b.2.1).bind λa=>DF 0 (a.length:Int) y λj y=>(idx a j).bind λsym=>XE p b i sym y
noncomputable def QH (p:As) (y:BSt):Option (AY BSt Int):=
 loop (σ:=Int×BSt) (0,y) λz=>
  cond (decide (z.1< (z.2.2.1.length:Int)))
   ((idx z.2.2.1 z.1).bind λb=>(TQ p b z.1 z.2).bind λe=>match e with
    |.next y=>some (mN (lF .i64 (z.1+1),y))
    |.done q=>some (mO (mO q)))
   (some (mO (mN z.2)))
noncomputable def Q3 (p:As) (st it:Int):Option (Option D5×Int):=
 (Bo st).bind λa=>
 (Bo it).bind λb=>
 (YP p [] [] a b [(0,0)] (-1) (-1)).bind λr=>
 cond (r.2.1 !=0) (some (none,r.2.1))
 ((QH p (r.2.2.1,r.2.2.2.1,Gj [] 0 r.2.2.2.1.length,r.2.2.2.2.1,r.2.2.2.2.2)).bind λe=>match e with
  |.next y=>(Cz y.2.2.2.2).bind λtot=>some (some (p.1,p.2.1,p.2.2.1,p.2.2.2.1,p.2.2.2.2.1,p.2.2.2.2.2,FL y.2.1 y.2.2.1,tot),0)
  |.done q=>some (none,q))
theorem Zu (p:As) (s:Slc) (t:Int) (l:List Item) (x:Int):CY (qA p s t) l x=CY (qA p Gi 0) l x:=rfl
theorem Us (p:As) (s:Slc) (t:Int) (l:List Item):B1 (qA p s t) l=B1 (qA p Gi 0) l:=rfl
theorem Q4 {ε:Type}{B:List dtK}{S:List ε}{i:Int}{b:dtK}{s:ε}(a:idx B i=some b) (c:S[i.toNat]? =some s):idx (FL B S) i=some (Mx b s):=by have⟨d,_,e⟩:=CU a;unfold idx;rw[if_pos d];unfold FL;rw[List.getElem?_zipWith,e,c]
theorem Zv {ε:Type}:∀ {B:List dtK}{S:List ε}{n:Nat}{b:dtK}(s:ε),B[n]? =some b→(FL B S).set n (Mx b s)=FL B (S.set n s):=by
 intro B
 induction B with
 |nil=>intro S n b s h;simp at h
 |cons x B a=>
  intro S n b s h;cases S with
  |nil=>rfl
  |cons u S=>
   cases n with
   |zero=>
    simp only[List.getElem?_cons_zero,Option.some.injEq]at h;subst h;rfl
   |succ n=>exact congrArg _ (a s (by simpa using h))
def EC (φ:AD) (S:List Slc) (E:List (List Edge)) (c:Nat):Prop:= ∀(j:Nat) s e,j≠c→S[j]? =some s→E[j]? =some e→kL HX φ s e
def Ir (S:List Slc) (E:List (List Edge)) (i:Nat):Prop:= ∀j:Nat,i≤j→(∀s,S[j]? =some s→s=Gi)∧ ∀e,E[j]? =some e→e= []
theorem EC.mono {φ ψ:AD}{S:List Slc}{E:List (List Edge)}{c:Nat}(H:EC φ S E c) (a:Sub φ ψ):EC ψ S E c:=λj s e b d f=>(H j s e b d f).mono a
theorem Fp {α:Type}{l:List α}{x y:α}{j:Nat}(h:(l++ [x])[j]? =some y):l[j]? =some y∨j=l.length∧y=x:=by
 rcases lP j l.length with g | g
 ·rw[hM g]at h;exact .inl h
 ·rw[kH g]at h
  right
  have:j - l.length=0:=by
   rcases Nat.eq_zero_or_pos (j - l.length) with q | q
   ·exact q
   ·rw[kU (by simp;omega)]at h;cases h
  rw[this]at h;simp at h;exact⟨by omega,h.symm⟩
theorem EC.snoc {φ:AD}{S:List Slc}{E:List (List Edge)}{c:Nat}(H:EC φ S E c) (f:S.length=E.length):EC φ (S++ [Gi]) (E++ [[]]) c:=by
 intro j s e d b a;rcases Fp b with b | ⟨b,rfl⟩
 ·rcases Fp a with a | ⟨a,rfl⟩
  ·exact H j s e d b a
  ·rw[kU (by omega)]at b;cases b
 ·rcases Fp a with a | ⟨a,rfl⟩
  ·rw[kU (by omega)]at a;cases a
  ·exact Ro.SliceIs.nil _ _
theorem Ir.snoc {S:List Slc}{E:List (List Edge)}{i:Nat}(H:Ir S E i):Ir (S++ [Gi]) (E++ [[]]) i:=by
 intro j a;refine⟨λs h=> ?_,λe h=> ?_⟩
 ·rcases Fp h with h | ⟨_,h⟩
  ·exact(H j a).1 s h
  ·exact h
 ·rcases Fp h with h | ⟨_,h⟩
  ·exact(H j a).2 e h
  ·exact h
theorem cd {φ:AD}:∀ {B:List dtK}{S:List Slc}{E:List (List Edge)}{vs:List Value},S.length=B.length→E.length=B.length→(∀(j:Nat) s e,S[j]? =some s→E[j]? =some e→kL HX φ s e)→roB.All φ vs (FL B S)→Wy.All φ vs (FL B E):=by
 intro B
 induction B with
 |nil=>intro S E vs c d f H;cases H;exact .nil
 |cons b B g=>
  intro S E vs c d f H;cases S with
  |nil=>cases c
  |cons s S=>
   cases E with
   |nil=>cases d
   |cons e E=>
    cases H with
    | @cons a v _ _ h i=>
     obtain⟨_,_,rfl,⟨t0,rfl,k⟩,_,_,rfl,⟨t1,rfl,l⟩,_,_,rfl,rfl,_,_,rfl,rfl,rfl⟩:=h;exact Ro.All.cons (a:=[_,_,_,_,_]) ⟨[_],_,rfl,⟨t0,rfl,k⟩,[_],_,rfl,⟨t1,rfl,l⟩,[_],_,rfl,⟨s,rfl,f 0 s e rfl rfl⟩,[_],_,rfl,rfl,rfl⟩ (g (by simpa using c) (by simpa using d) (λj s' m n o=>f (j+1) s' m (by simpa using n) (by simpa using o)) i)
theorem YQ {φ:AD}{t:Slc}{B:List dtK}{S:List Slc}{E:List (List Edge)}(a:S.length=B.length) (b:E.length=B.length) (d:∀(j:Nat) s e,S[j]? =some s→E[j]? =some e→kL HX φ s e) (H:kL roB φ t (FL B S)):kL Wy φ t (FL B E):=by
 obtain⟨f,g,h,i,vs,k,l⟩:=H;have c:(FL B E).length=(FL B S).length:=by rw[EV a,EV b]
 exact⟨c.trans f,g,h,λm=>List.eq_nil_of_length_eq_zero (by rw[c,i m];rfl),vs,cd a b d k,l⟩
section
variable {φ:AD}{h:AH}{F:List Chk}
theorem WG {c d f g m a i j:Nat}{k:Fd}{p:As}{ls:Slc}{tot:Int}{L:List dtB}{l n:Dl}(H:St φ (bC c d f g m a i j k p ls tot L l n F) h):BJ h ⟨a,6,none⟩=some (.slice ls.1 ls.2.1 ls.2.2):=by
 obtain⟨b,vs,e,⟨_,_,rfl,⟨w,rfl,o⟩,_,_,rfl,⟨x,rfl,q⟩,_,_,rfl,⟨y,rfl,r⟩,_,_,rfl,⟨z,rfl,t⟩,_,_,rfl,⟨A,rfl,u⟩,_,_,rfl,⟨B,rfl,v⟩,_,_,rfl,rfl,rfl⟩,s⟩:=mQ H.at3;obtain rfl:a=b:=by simpa using e
 exact lT s rfl
theorem St.back3 {a0 a b c:Chk}(H:St φ (c::a0::a::b::F) h):St φ (a0::a::b::c::F) h:=H.at3.at3.at3
theorem St.to9 {e a0 a b c d f g i j:Chk}(H:St φ (e::a0::a::b::c::d::f::g::i::j::F) h):St φ (a0::a::b::c::d::f::g::i::j::e::F) h:=
 H.at9.at9.at9.at9.at9.at9.at9.at9.at9
theorem St.tail9 {a0 a b c d e f g i:Chk}(H:St φ (a0::a::b::c::d::e::f::g::i::F) h):St φ F h:=H.tail.tail.tail.tail.tail.tail.tail.tail.tail
end
theorem Sg.nm_lev {a nv b:Nat}{g:DV}(H:Sg a nv b g):∀x∈GJ g.2.2.1,Nm x:=λx c=>by
 have:=H.nl5;have:=H.nt5
 rcases H.levs.names x c with⟨i,h,rfl⟩|⟨i,h,rfl⟩
 ·exact .lev (by omega)
 ·exact .tok (by omega)
theorem Ru1.nm {a nv b:Nat}{r:Dh}(H:Ru1 a nv b r) (d:a≤5) (f:nv≤4) (g:b≤5):Nm r.1∧(∀x∈r.2.1,Nm x)∧(r.2.2.1= {data:=#[]} ∨Nm r.2.2.1):=by
 refine⟨?_,λx c=> ?_,?_⟩
 ·obtain⟨i,h,e⟩:=H.left;rw[e];exact .var (by omega)
 ·rcases H.right x c with⟨i,h,rfl⟩|⟨i,h,rfl⟩
  ·exact .tok (by omega)
  ·exact .var (by omega)
 ·rcases H.prec with h | ⟨i,h,e⟩
  ·exact .inl h
  ·rw[e];exact .inr (.lev (by omega))
theorem Zw {A nv E:Nat}{g:DV}(H:Sg A nv E g):DL g=some true:=by
 refine mT ?_;have F:=H.room;have G:=H.levs.len;have I:=H.toks.1;have r:=H.nt5;have s:=H.nv4;have t:=H.nl5;obtain⟨U,u,_⟩:=H.all 0 (by have:=H.nv1;omega);have B:=kY u;unfold DL;have n:=H.skips;have v:=H.start;refine AP (Q:=λx=>x=false) ?_ λx c=> ?_
 ·refine AS (decide_eq_false (by omega)) (AS (by rw[n];rfl) (AS (decide_eq_false (by omega)) (AS (decide_eq_false (by omega)) (AS (decide_eq_false (by omega)) ?_))));rw[v];exact AJ (W4 (by omega)) (AC rfl)
 subst c;refine AS rfl<|Dp (λk (l:List ByteArray)=>l.length=k∧ ∀j,j<k→l[j]? =some (nm 97 j)) (by omega) ⟨rfl,λj h=>by omega⟩ (λk l f h=> ?_) λm w=> ?_
 ·have c:=H.toks.2 k (by omega);refine AX c (BL (by have:=h.1;simp only[kG,kI];omega) (AX c ?_));refine AJ (TH (.tok (by omega))) (AS rfl (D9 ⟨by simp[h.1],λj d=> ?_⟩));rcases lP j k with g | g
  ·rw[hM (by rw[h.1];exact g)];exact h.2 j g
  ·have:j=k:=by omega
   subst this;rw[kH (by rw[h.1];omega),h.1];simp
 refine Dp (λk _=>True) (by rw[n];decide) trivial (λk l f h=>by rw[n]at f;exact absurd f (Nat.not_lt_zero _)) λ_ _=>Dp (λk (l:List ByteArray)=>l=GJ (g.2.2.1.take k)) (by omega) rfl (λk l f h=> ?_) λo J=> ?_
 ·subst h;have c:=bD f;have⟨C,D,K⟩:=H.levs.each k _ c;have e:GJ (g.2.2.1.take (k+1))=GJ (g.2.2.1.take k) ++g.2.2.1[k].2:=by
   unfold GJ;rw[lA,c,mC];show _=_;simp
  have y:=H.levs.room;have L:GJ g.2.2.1=GJ (g.2.2.1.take (k+1)) ++GJ (g.2.2.1.drop (k+1)):=by
   unfold GJ;rw[←mC,List.take_append_drop]
  have M:=congrArg mM L;rw[e,kO,kO]at M;refine AX c (BL (by omega) ?_);refine AP (Q:=λx=>x=false) (AS (decide_eq_false (by omega)) (AS (decide_eq_false (by omega)) (AC ?_))) λx c=> ?_
  ·have:=kY K
   exact beq_eq_false_iff_ne.2 (by omega)
  ·subst c;refine AS rfl ?_;rw[←e];exact D9 rfl
 refine Dp (λk _=>True) (by omega) trivial (λk _ f _=> ?_) λ_ _=> ?_
 ·have c:=bD f;have q:=H.rules _ (hA f);have⟨N,O,P⟩:=q.nm r s t;have V:=q.few;refine AX c<|AP (Q:=λx=>x=false) (AJ N.name (AS rfl (AS (decide_eq_false (by omega)) (Af (λz=> ?_) λz=> ?_)))) λx c=> ?_
  ·rw[q.act];rcases P with h | h
   ·rw[h,EQ]at z;simp at z
   ·exact AJ h.name (AS rfl (AJ OB (AC rfl)))
  ·rw[q.act];exact AJ OB (AC rfl)
  ·subst c;refine AS rfl<|Dp (λk _=>True) (by omega) trivial (λj _ d _=> ?_) λ_ _=>D9 trivial;exact AX (bD d) (AJ (O _ (hA d)).name (AS rfl (D9 trivial)))
 have p:∀x∈m,∃j,j<A∧x=nm 97 j:=λx c=>by
  obtain⟨j,d⟩:=kV c;have R:=(bO.1 d).1
  have:=w.2 j (by omega)
  rw[d]at this;exact⟨j,by omega,Option.some.inj this⟩
 have C:By m=some true:=W5 (by omega) (λx c=>by obtain⟨j,d,rfl⟩:=p x c;exact .tok (by omega)) (lC.2 (kJ.2 λi j S d T e=>by
  have a:=w.2 i (by omega);have b:=w.2 j (by omega);rw[bD S]at a;rw[bD d,←e,a]at b
  have:=NQ (by omega) (by omega) (Option.some.inj b)
  omega))
 have D:By o=some true:=by
  rw[J,kT (lD _)];exact W5 (by have:=H.levs.room;omega) H.nm_lev H.levs.once
 exact AP (Q:=λx=>x=true) (AJ C (Ap rfl (AJ D (AC rfl)))) λx c=>AC c
abbrev Zx:ByteArray:={data:=#[36,101,110,100]}
structure TT (nt:Nat) (T:List ByteArray):Prop where
 len:T.length=nt+1
 zero:T[0]? =some Zx
 tok:∀j,j<nt→T[j+1]? =some (nm 97 j)
theorem Zy (c i:Nat):Zx≠nm c i:=λh=>by unfold nm at h;simp at h
theorem TT.cases {a:Nat}{T:List ByteArray}(H:TT a T) {j:Nat}{s:ByteArray}(h:T[j]? =some s):(j=0∧s=Zx)∨ ∃i,i<a∧j=i+1∧s=nm 97 i:=by
 cases j with
 |zero=>rw[H.zero]at h;exact .inl ⟨rfl,(Option.some.inj h).symm⟩
 |succ i=>
  have:=(bO.1 h).1
  have b:=H.len;rw[H.tok i (by omega)]at h;exact .inr ⟨i,by omega,rfl,(Option.some.inj h).symm⟩
structure VV (nv:Nat) (V:List ByteArray):Prop where
 names:∀x∈V,∃i,i<nv∧x=nm 83 i
 once:V.Nodup
theorem ce {a i:Nat}{T V:List ByteArray}(H:TT a T) (e:a≤5) (b:i<a):Ok (Bq (T,V) (nm 97 i)) λk=>k=((i+1:Nat):Int):=by
 have f:=H.len;unfold Bq;refine AP (Hc (by dsimp only;omega)) λk c=> ?_;rcases c with⟨rfl,h⟩|⟨j,rfl,h⟩
 ·exact absurd (eE (H.tok i b)) h
 ·refine Ap (decide_eq_true (by omega)) (AC ?_);rcases H.cases h with⟨_,h⟩|⟨q,g,l,d⟩
  ·exact absurd h.symm (Zy _ _)
  ·have:=NQ (by omega) (by omega) d
   omega
theorem TR {a nv i:Nat}{T V:List ByteArray}(H:TT a T) (f:a≤5) (g:nv≤4) (l:V.length≤100) (m:i<nv) (c:nm 83 i∈V):Ok (Bq (T,V) (nm 83 i)) λk=>∃j:Nat,k=((a+1+j:Nat):Int)∧V[j]? =some (nm 83 i):=by
 have d:=H.len;unfold Bq;refine AP (Hc (by dsimp only;omega)) λk b=> ?_;rcases b with⟨rfl,h⟩|⟨j,rfl,h⟩
 ·refine AS rfl (AP (Hc (by dsimp only;omega)) λk b=> ?_);rcases b with⟨rfl,h⟩|⟨j,rfl,h⟩
  ·exact absurd c h
  ·refine Ap (decide_eq_true (by omega)) (AC ⟨j,?_,h⟩)
   have:=(bO.1 h).1
   dsimp only at this;rw[d,wr (by omega)];omega
 ·rcases H.cases h with⟨_,h⟩|⟨q,n,o,e⟩
  ·exact absurd h.symm (Zy _ _)
  ·have:=NQ (by omega) (by omega) e
   omega
theorem Ut {d nv c:Nat}{g:DV}(H:Sg d nv c g) (s:ByteArray):Ok (Cb g s) λk=>0≤k∧k≤c∧ ∀i,i<c→s=nm 112 i→k≠0:=by
 have t:=H.levs.len;have m:=H.nl5;unfold Cb;have u:=H.levs.room;have n:=H.nt5;have b:∀(j:Nat) x,g.2.2.1[j]? =some x→x.2.length≤100:=λj x a=>by
  have:=(List.sublist_flatten_of_mem (List.mem_map_of_mem (f:=(·.2)) (eE a))).length_le
  have e:GJ g.2.2.1=(List.map (·.2) g.2.2.1).flatten:=by unfold GJ;rw[List.flatMap_def]
  rw[←e]at this;omega
 refine JO g.2.2.1 (λ_ x=> @decide (s∈x.2) (kX _)) (λk _=>lF .i64 ((k:Int)+1)) (by omega) (λj x a=> ?_) (λh=> ?_) λj x a v _=> ?_
 ·rw[Bu,a,lV];obtain⟨k,o,p⟩:=Hc (l:=x.2) (s:=s) (by have:=b j x a;omega);rw[o,lV];rcases p with⟨rfl,h⟩|⟨q,rfl,h⟩
  ·rw[@decide_eq_false _ (kX _) h];rfl
  ·rw[@decide_eq_true _ (kX _) (eE h),decide_eq_true (by omega)];rfl
 ·refine AC ⟨by omega,by omega,λi w r _=> ?_⟩;have a:=bD (show i<g.2.2.1.length by omega)
  have:= @of_decide_eq_false _ (kX _) (h i _ a)
  rw[r]at this;exact this (H.levs.each i _ a).2.2
 ·have:=(bO.1 a).1
  have e:lF .i64 ((j:Int)+1)=(j:Int)+1:=wr (by omega);exact AC ⟨by rw[e];omega,by rw[e];omega,λ_ _ _=>by rw[e];omega⟩
structure Pr (nt nV nl:Nat) (r:BM):Prop where
 left:((nt+1:Nat):Int) ≤r.1∧r.1< ((nt+1+nV:Nat):Int)
 few:r.2.1.length≤8
 right:∀x∈r.2.1,0<x∧x< ((nt+1+nV:Nat):Int)
 lev:0≤r.2.2∧r.2.2≤nl
structure Pl (nt nl:Nat) (p:As):Prop where
 nt5:1≤nt∧nt≤5
 nl5:nl≤5
 terms:TT nt p.1
 vars:1≤p.2.1.length∧p.2.1.length≤24
 first:∃st:Int,((nt+1:Nat):Int) ≤st∧st< ((nt+1+p.2.1.length:Nat):Int)∧p.2.2.1[0]? =some (((nt+1+p.2.1.length:Nat):Int),[st],0)
 rules:∀(k:Nat) r,1≤k→p.2.2.1[k]? =some r→Pr nt p.2.1.length nl r
 room:1≤p.2.2.1.length∧p.2.2.1.length≤25
 all:∀v:Nat,v<p.2.1.length→ ∃r∈p.2.2.1,r.1=((nt+1+v:Nat):Int)
 levels:p.2.2.2.1.length=nt+1∧ ∀x∈p.2.2.2.1,0≤x∧x≤nl
 assocs:p.2.2.2.2.1.length=nl+1
theorem Zz {α:Type}{l:List α}(h:l.Nodup) {i j:Nat}(a:i<l.length) (b:j<l.length) (e:l[i] =l[j]):i=j:=by
 have H:=kJ.1 (lC.1 h);rcases Nat.lt_trichotomy i j with g | g | g
 ·exact absurd e (H i j a b g)
 ·exact g
 ·exact absurd e.symm (H j i b a g)
theorem of_ok {A nv nl:Nat}{g:DV}(H:Sg A nv nl g):Ok (D8 g) λp=>Pl A nl (p.1,p.2.1,p.2.2.1,p.2.2.2.1,p.2.2.2.2.1,p.2.2.2.2.2.1):=by
 have d2:=H.room;have b2:=H.levs.len;have b3:=H.toks.1;have I:=H.nt5;have a4:=H.nt1;have a1:=H.nv4;have b4:=H.nl5;have c6:=H.nv1;obtain⟨r0,b5,_⟩:=H.all 0 (by omega);have c7:=kY b5;unfold D8;refine AJ (Zw H) (AS rfl ?_);refine B0 (λk (z:As)=>z.1= [Zx] ∧VV nv z.2.1∧z.2.1.length≤k∧(∀(j:Nat) r,j<k→g.2.2.2.2[j]? =some r→r.1∈z.2.1)∧(∀x∈z.2.1,∃r∈g.2.2.2.2,r.1=x)∧z.2.2.1= [] ∧z.2.2.2.1= [0] ∧z.2.2.2.2.1= [0] ∧z.2.2.2.2.2.length=k+1) (by omega) ⟨rfl,⟨by simp,by simp⟩,by simp,λj r h=>by omega,by simp,rfl,rfl,rfl,rfl⟩ (λk z s h=> ?_) λz B=> ?_
 ·obtain⟨z1,z2,z3,z4,z5,z6⟩:=z;obtain⟨rfl,P,C,d,m,rfl,rfl,rfl,h6⟩:=h;dsimp only at P C d m h6 ⊢;have G:=bD s;have R:=H.rules _ (hA s);refine AX G (AP (Hc (by omega)) λt f=> ?_);refine AP (Q:=λ(z:As)=>z.1= [Zx] ∧VV nv z.2.1∧z.2.1.length≤k+1∧(∀(j:Nat) r,j<k+1→g.2.2.2.2[j]? =some r→r.1∈z.2.1)∧(∀x∈z.2.1,∃r∈g.2.2.2.2,r.1=x)∧z.2.2.1= [] ∧z.2.2.2.1= [0] ∧z.2.2.2.2.1= [0] ∧z.2.2.2.2.2=z6) ?_ λz B=> ?_
  ·rcases f with⟨rfl,f⟩|⟨j,rfl,f⟩
   ·refine Ap rfl (AX G (BL (by simp only[kG,kI];omega) (AC ⟨rfl,⟨λx l=> ?_,?_⟩,by simp;omega,λj r J c=> ?_,λx l=> ?_,rfl,rfl,rfl,rfl⟩)))
    ·rcases kF.1 l with h | h
     ·exact P.names x h
     ·obtain rfl:=hC.1 h;exact R.left
    ·exact lK.2 ⟨P.once,by simp,λx l y hy b6=>f (by
      have:y=g.2.2.2.2[k].1:=by simpa using hy
      rw[←this,←b6];exact l)⟩
    ·rcases kQ.1 J with h | rfl
     ·exact kW _ (d j r h c)
     ·rw[G]at c;cases c;exact mA _ (hC.2 rfl)
    ·rcases kF.1 l with h | h
     ·exact m x h
     ·obtain rfl:=hC.1 h;exact⟨_,hA s,rfl⟩
   ·refine AS (decide_eq_false (by omega)) (AC ⟨rfl,P,by dsimp only;omega,λi r S c=> ?_,m,rfl,rfl,rfl,rfl⟩);rcases kQ.1 S with h | rfl
    ·exact d i r h c
    ·rw[G]at c;cases c;exact eE f
  ·obtain⟨y1,Y,y3,y4,y5,y6⟩:=z;obtain⟨rfl,P,C,d,m,rfl,rfl,rfl,e6⟩:=B;have b7:y6=z6:=e6;have b8:y6.length=k+1:=by rw[b7];exact h6
   exact AX G (BL (by simp only[kG,kI];omega) (AC ⟨rfl,P,C,d,m,rfl,rfl,rfl,by simp[b8]⟩))
 obtain⟨z1,V,z3,z4,z5,c8⟩:=z;obtain⟨rfl,P,C,d,m,rfl,rfl,rfl,h6⟩:=B;dsimp only at P C d m h6;have a5:V.length≤24:=by omega
 clear C;have K:∀v,v<nv→nm 83 v∈V:=λv hv=>by
  have⟨r,h1,Z⟩:=H.all v hv;obtain⟨j,J⟩:=kV h1;rw[←Z];exact d j r (bO.1 J).1 J
 have a2:1≤V.length:=kY (K 0 (by omega));refine Dp (λk (z:As×As)=>TT k z.2.1∧z.2.2.1=V∧z.2.2.2.1= [] ∧z.2.2.2.2.1.length=k+1∧(∀x∈z.2.2.2.2.1,0≤x∧x≤nl)∧z.2.2.2.2.2.1= [0]) (by omega) ⟨⟨rfl,rfl,λj h=>by omega⟩,rfl,rfl,rfl,by simp,rfl⟩ (λk z s h=> ?_) λz B=> ?_
 ·obtain⟨w,z1,z2,z3,z4,z5,z6⟩:=z;obtain⟨D,u,e3,h4,E,L⟩:=h;dsimp only at D h4 E u e3 L ⊢;have c9:z2.length≤24:=by rw[u];exact a5
  subst u e3 L;have G:=H.toks.2 k (by omega);have a3:=D.len;refine AX G (AP (Hc (by omega)) λt f=> ?_);rcases f with⟨rfl,f⟩|⟨j,rfl,f⟩
  ·refine AS rfl (AX G (BL (by simp only[kG,kI];omega) (AX G (AP (Ut H _) λt f=>BL (by simp only[kG,kI];omega) (D9 ⟨⟨by simp[a3],?_,λj J=> ?_⟩,rfl,rfl,by simp[h4],λx l=> ?_,rfl⟩)))))
   ·rw[hM (by omega)];exact D.zero
   ·rcases kQ.1 J with h | rfl
    ·rw[hM (by omega)];exact D.tok j h
    ·rw[kH (by omega),show j+1 - z1.length=0 by omega];rfl
   ·rcases kF.1 l with h | h
    ·exact E x h
    ·obtain rfl:=hC.1 h;exact⟨f.1,f.2.1⟩
  ·have⟨i,h1,Z⟩:=P.names _ (eE f)
   have:=NQ (by omega) (by omega) Z
   omega
 obtain⟨w,T,z2,z3,U,z5,z6⟩:=z;obtain⟨D,u,e3,h4,E,L⟩:=B;dsimp only at D h4 E u e3 L ⊢;subst u e3 L;rw[b3]at D h4;have a3:=D.len;refine B0 (λk (z:As)=>z.1=T∧z.2.1=z2∧z.2.2.1= [] ∧z.2.2.2.1=U∧z.2.2.2.2.1.length=k+1) (by omega) ⟨rfl,rfl,rfl,rfl,rfl⟩ (λk z s h=> ?_) λz B=> ?_
 ·obtain⟨y1,Y,y3,y4,y5,y6⟩:=z;obtain⟨rfl,rfl,rfl,rfl,h5⟩:=h;exact AX (bD s) (BL (by dsimp only at h5 ⊢;simp only[kG,kI];omega) (AC ⟨rfl,rfl,rfl,rfl,by dsimp only at h5 ⊢;simp[h5]⟩))
 obtain⟨y1,Y,y3,y4,W,y6⟩:=z;obtain⟨e1,u,e3,e4,h5⟩:=B;dsimp only at h5 e1 u e3 e4 ⊢;subst e1 u e3 e4;rw[b2]at h5;rw[H.start];refine AP (TR (nv:=nv) D I a1 (by omega) (by omega) (K 0 (by omega))) λst b9=> ?_;obtain⟨sj,rfl,c0⟩:=b9;have d0:=(bO.1 c0).1;rw[wr (show -1000000≤(y1.length:Int)+(Y.length:Int)∧(y1.length:Int)+(Y.length:Int) ≤1000000 by omega)];refine Dp (λk (z:As×As)=>z.2.1=y1∧z.2.2.1=Y∧z.2.2.2.1.length=k+1∧z.2.2.2.1[0]? =some (((A+1+Y.length:Nat):Int),[((A+1+sj:Nat):Int)],0)∧(∀(j:Nat) r,1≤j→z.2.2.2.1[j]? =some r→Pr A Y.length nl r∧ ∃r'∈g.2.2.2.2,g.2.2.2.2[j - 1]? =some r'∧Y[r.1.toNat - (A+1)]? =some r'.1)∧z.2.2.2.2.1=y4∧z.2.2.2.2.2.1=W) (by omega) ⟨rfl,rfl,rfl,by dsimp only;rw[a3];simp[Int.natCast_add],λj r J R=>by
  have:=(bO.1 R).1
  simp at this
  omega,rfl,rfl⟩ (λk z s h=> ?_) λz B=> ?_
 ·obtain⟨w,x1,x2,x3,x4,x5,x6⟩:=z;obtain⟨e1,u,n,h0,F,e4,L⟩:=h;dsimp only at n h0 F e1 u e4 L ⊢;subst e1 u e4 L;have G:=bD s;have R:=H.rules _ (hA s);obtain⟨vi,a6,a7⟩:=R.left;refine AX G ?_;rw[a7];refine AP (TR (nv:=nv) D I a1 (by omega) a6 (K vi a6)) λt f=> ?_;obtain⟨tj,rfl,a8⟩:=f;have d1:=(bO.1 a8).1;have d3:=R.few;refine Dp (λi (z:As×BM)=>z.2.1=((A+1+tj:Nat):Int)∧z.2.2.1.length=i∧(∀x∈z.2.2.1,0<x∧x< ((A+1+x2.length:Nat):Int))∧0≤z.2.2.2∧z.2.2.2≤nl) (by omega) ⟨rfl,rfl,by simp,by simp,by simp⟩ (λi z S h=> ?_) λz B=> ?_
  ·obtain⟨w,u1,u2,u3⟩:=z;obtain⟨rfl,hu,M,N,o⟩:=h;dsimp only at hu M N o ⊢;have hy:=bD S;have c1:=R.right _ (hA S);refine AX hy (AP (Q:=λt=>0<t∧t< ((A+1+x2.length:Nat):Int)) ?_ λt f=> ?_)
   ·rcases c1 with⟨q,X,e⟩|⟨q,X,e⟩
    ·rw[e];exact(ce D I X).mono λk s=>by subst s;omega
    ·rw[e];refine(TR (nv:=nv) D I a1 (by omega) X (K q X)).mono λk s=> ?_;obtain⟨j,rfl,J⟩:=s
     have:=(bO.1 J).1
     omega
   ·refine AS (decide_eq_false (by omega)) (BL (by simp only[kG,kI];omega) ?_);refine AP (Q:=λ(z:BM)=>z.1=((A+1+tj:Nat):Int)∧z.2.1=u2++ [t] ∧0≤z.2.2∧z.2.2≤nl) (Af (λhc=> ?_) λ_=>AC ⟨rfl,rfl,N,o⟩) λz B=> ?_
    ·have hc:=of_decide_eq_true hc;have X:t.toNat<x4.length:=by omega
     refine Ep (by omega) (bD X) (AC ⟨rfl,rfl,E _ (hA X)⟩)
    ·obtain⟨z1,z2,z3⟩:=z;obtain⟨rfl,rfl,a,b⟩:=B;refine D9 ⟨rfl,by simp[hu],λx l=> ?_,a,b⟩;rcases kF.1 l with h | h
     ·exact M x h
     ·obtain rfl:=hC.1 h;exact f
  ·obtain⟨w2,u1,u2,u3⟩:=z;obtain⟨rfl,hu,M,N,o⟩:=B;dsimp only at hu M N o ⊢;refine AP (Q:=λe=>∃(y:BM×As),e=mN y∧y.1.1=((A+1+tj:Nat):Int)∧y.1.2.1=u2∧0≤y.1.2.2∧y.1.2.2≤nl) (Af (λhc=> ?_) λhc=>AC ⟨_,rfl,rfl,rfl,N,o⟩) λe he=> ?_
   ·refine AP (Ut H _) λt f=> ?_;rcases R.prec with h | ⟨i,S,h⟩
    ·rw[h,EQ]at hc;simp at hc
    ·refine AS (beq_eq_false_iff_ne.2 (f.2.2 i S h)) (AC ⟨_,rfl,rfl,rfl,f.1,f.2.1⟩)
   ·obtain⟨⟨⟨v1,v2,v3⟩,v4⟩,rfl,a9,b0,b1,a0⟩:=he;dsimp only at b1 a0 a9 b0 ⊢;subst a9 b0;refine BL (by simp only[kG,kI];omega) (D9 ⟨rfl,rfl,by simp[n],?_,λj r J c=> ?_,rfl,rfl⟩)
    ·rw[hM (by omega)];exact h0
    ·rcases lP j x3.length with gj | gj
     ·rw[hM gj]at c;exact F j r J c
     ·have c2:=(bO.1 c).1;simp at c2
      have:j=x3.length:=by omega
      subst this;rw[kH (lD _),Nat.sub_self]at c;cases c;refine⟨⟨⟨by dsimp only;omega,by dsimp only;omega⟩,by dsimp only;omega,M,b1,a0⟩,g.2.2.2.2[k],hA s,by rw[n];exact G,?_⟩;dsimp only;rw[show((A+1+tj:Nat):Int).toNat - (A+1)=tj by omega,a8,a7]
 obtain⟨w,x1,x2,O,x4,x5,x6⟩:=z;obtain⟨e1,u,n,h0,F,e4,L⟩:=B;dsimp only at n h0 F e1 u e4 L ⊢;subst e1 u e4 L;refine AP (Hc (by omega)) λt f=> ?_;rcases f with⟨rfl,f⟩|⟨j,rfl,f⟩
 ·exact absurd (K 0 (by omega)) f
 refine AS (decide_eq_false (by omega)) (AC ⟨⟨a4,I⟩,b4,D,⟨a2,by dsimp only;omega⟩,⟨((A+1+sj:Nat):Int),by omega,by dsimp only;omega,h0⟩,λk r s R=>(F k r s R).1,⟨by dsimp only;omega,by dsimp only;omega⟩,λv hv=> ?_,⟨h4,E⟩,h5⟩);dsimp only at hv ⊢;have d4:=bD hv;have⟨r,c3,c4⟩:=m _ (hA hv);obtain⟨i,S⟩:=kV c3;have d5:=(bO.1 S).1;have c5:=bD (show i+1<O.length by omega);obtain⟨hp,r',_,h1,Z⟩:=F (i+1) _ (by omega) c5;rw[Nat.add_sub_cancel,S]at h1;cases h1;refine⟨_,hA (show i+1<O.length by omega),?_⟩;have hl:=hp.left;rw[c4]at Z;obtain⟨X,Z⟩:=bO.1 Z
 have:=Zz P.once X hv Z
 omega
theorem cf {s:J1}(G:SmG s) (F:SmF 20 8 s):Ok (CS s) λp=>∃a b,Pl a b p:=by unfold CS;exact AP (V2 G F) λg c=>AP (of_ok c) λp d=>AC ⟨_,_,d⟩
abbrev Rl:Type:=List BM
def beh (R:Rl) (x:Item):Int:=match R[x.1.toNat]? with
 |some r=>(r.2.1[x.2.toNat]?).getD (-1)
 |none=> -1
def OkI (R:Rl) (x:Item):Prop:=0≤x.1∧0≤x.2∧ ∃r,R[x.1.toNat]? =some r∧x.2.toNat≤r.2.1.length
structure VP (nT:Int) (R:Rl):Prop where
 t0:0≤nT
 left:∀r∈R,nT≤r.1
 right:∀r∈R,∀s∈r.2.1,0≤s
 few:R.length≤100
 short:∀r∈R,r.2.1.length≤100
theorem PC {p:As}{x:Item}(h:OkI p.2.2.1 x):B8 (qA p Gi 0) x=some (beh p.2.2.1 x):=by
 obtain⟨d,f,r,b,g⟩:=h;refine mT ?_;unfold B8;refine Ep d b ?_;have e:beh p.2.2.1 x=(r.2.1[x.2.toNat]?).getD (-1):=by unfold beh;rw[b]
 refine Af (λa=> ?_) λa=> ?_
 ·have a:=of_decide_eq_true a;refine AC ?_;rw[e,kU (by omega)];rfl
 ·have a:=of_decide_eq_false a;have c:x.2.toNat<r.2.1.length:=by omega
  refine Ep f (bD c) (AC ?_);rw[e,bD c];rfl
theorem fP {nT:Int}{R:Rl}(V:VP nT R) {x:Item}(h:OkI R x):beh R x= -1∨0≤beh R x:=by
 obtain⟨b,c,r,a,d⟩:=h;unfold beh;rw[a];dsimp only;cases e:r.2.1[x.2.toNat]? with
 |none=>exact .inl rfl
 |some s=>exact .inr (V.right r (eE a) s (eE e))
theorem HJ (q:As) (s:Int):BU q s=some (decide (0≤s) && decide (s< (q.1.length:Int))):=by
 refine mT ?_;unfold BU;refine AP (Q:=λb=>b=(decide (0≤s) && decide (s< (q.1.length:Int)))) (Af (λh=>AC ?_) λh=>AC ?_) λb a=>AC a
 ·rw[decide_eq_true (show 0≤s from of_decide_eq_true h),Bool.true_and]
 ·rw[decide_eq_false (show ¬0≤s from of_decide_eq_false h),Bool.false_and]
theorem contains_ok {l:List Item}{x:Item}(h:l.length≤9223372036854775807):Az l x=some (decide (x∈l)):=by
 refine mT ?_;unfold Az Bj;refine AP (Q:=λk=>(k= -1∧x∉l)∨(0≤k∧x∈l)) ?_ λk g=>AC ?_
 ·refine JO l (λ_ y=>decide (x=y)) (λk _=>k) h (λj y f=> ?_) (λi=>AC (.inl ⟨rfl,λm=> ?_⟩)) λj y f n _=>AC (.inr ⟨by omega,?_⟩)
  ·rw[Bu,f,lV];have e:((x.1,x.2).1==y.1 && ((x.1,x.2).2==y.2 && true))=decide (x=y):=by
    obtain⟨a,b⟩:=x;obtain⟨c,d⟩:=y;rw[Bool.and_true,Bool.eq_iff_iff];simp
   rw[e];cases decide (x=y) <;>rfl
  ·obtain⟨j,o⟩:=kV m
   have:=i j x o
   simp at this
  ·have:=of_decide_eq_true n
   subst this;exact eE f
 ·rcases g with⟨rfl,h⟩|⟨p,h⟩
  ·rw[decide_eq_false h];rfl
  ·rw[decide_eq_true h];exact decide_eq_true p
inductive Cl (R:Rl) (K:List Item):Item→Prop
 |base {x:Item} :x∈K→Cl R K x
 |step {y:Item} {k:Nat} {r:BM} :Cl R K y→R[k]? =some r→r.1=beh R y→Cl R K ((k:Int),0)
def Lt (x y:Item):Prop:=x.1<y.1∨x.1=y.1∧x.2<y.2
theorem Lt.irrefl (x:Item):¬Lt x x:=by unfold Lt;omega
theorem Lt.trans {x y z:Item}(a:Lt x y) (b:Lt y z):Lt x z:=by unfold Lt at *;omega
theorem YR {l:List Item}(h:l.Nodup):(Hg l).Pairwise Lt:=by have c:=Qk ON OO l;have d:(Hg l).Nodup:=(DU _ l).nodup_iff.2 h;refine((List.pairwise_and_iff.2 ⟨c,lC.1 d⟩).imp λ{a b} h=> ?_);obtain⟨f,g⟩:=h;simp only[EU,lJ,decide_eq_false_iff_not]at f;have i:¬(a.1=b.1∧a.2=b.2):=λe=>g (mP e.1 e.2);unfold Lt;omega
theorem WH {l:List Item}{x:Item}:x∈Hg l↔x∈l:=(DU _ l).mem_iff
theorem Rq (l:List Item):(Hg l).length=l.length:=(DU _ l).length_eq
theorem Q5 {R:Rl}{E:List Item}(a:E.Nodup) (h:∀x∈E,∃k:Nat,k<R.length∧x=((k:Int),0)):E.length≤R.length:=by
 have:=List.Nodup.length_le_of_subset (l₂:=(List.range R.length).map λk:Nat=>((k:Int),(0:Int))) a (λx b=>by
  have⟨k,c,d⟩:=h x b;exact lZ.2 ⟨k,List.mem_range.2 c,d.symm⟩)
 simpa using this
structure TU (R:Rl) (K C:List Item):Prop where
 up:C.Pairwise Lt
 mem:∀x,x∈C↔Cl R K x
 len:C.length≤K.length+R.length
theorem Cl.ok {R:Rl}{K:List Item}(a:∀x∈K,OkI R x) {x:Item}(h:Cl R K x):OkI R x:=by
 induction h with
 |base h=>exact a _ h
 | @step y k r _ b c _=>exact⟨by dsimp only;omega,by dsimp only;omega,r,by simpa using b,by simp⟩
theorem WI {p:As}(V:VP (p.1.length:Int) p.2.2.1) {K:List Item}(hK:∀x∈K,OkI p.2.2.1 x) (hn:K.Nodup) (hl:K.length≤1000000):Ok (BT (qA p Gi 0) K) (TU p.2.2.1 K):=by
 unfold BT;have hf:=V.few;refine AJ (x:=K) (by unfold cloneD;rw[if_pos (by omega)]) ?_
 generalize hR:p.2.2.1=R at *
 refine E8 (λ(z:Int×List Item×List (Int×Bool))=>0≤z.1∧z.1≤(z.2.1.length:Int)∧(∃E:List Item,z.2.1=K++E∧E.Nodup∧ ∀x∈E,∃k:Nat,k<R.length∧x=((k:Int),0))∧z.2.1.Nodup∧(∀x∈z.2.1,Cl R K x)∧
  (∀s,BX s z.2.2=some true→ ∀(k:Nat) r,R[k]? =some r→r.1=s→((k:Int),(0:Int))∈z.2.1)∧
  ∀(j:Nat) x,(j:Int) <z.1→z.2.1[j]? =some x→ ∀(k:Nat) r,R[k]? =some r→r.1=beh R x→((k:Int),(0:Int))∈z.2.1)
  (λz=>K.length+R.length - z.1.toNat) (λb=>b.1.Nodup∧b.1.length≤K.length+R.length∧ ∀x,x∈b.1↔Cl R K x)
  ⟨Int.le_refl _,by dsimp only;omega,⟨[],by simp,by simp,by simp⟩,hn,λx m=>.base m,(λs h=>by cases h),λj x h=>absurd h (by dsimp only;omega)⟩ (λz O=> ?_) λb hb=> ?_
 ·obtain⟨i,l,P⟩:=z;obtain⟨h0,h1,hE,w,u,A,I⟩:=O;dsimp only at h0 h1 hE w u A I ⊢;obtain⟨E,J,nE,Z⟩:=hE;have lE:=Q5 nE Z;have lo:l.length≤K.length+R.length:=by rw[J,kO];omega
  refine Af (λf=> ?_) λf=>B9 ⟨w,lo,λx=>⟨u x,λh=> ?_⟩⟩
  ·have f:=of_decide_eq_true f;have hi:i.toNat<l.length:=by omega
   have m:=bD hi;have L:=hA hi
   generalize l[i.toNat] =x at m L
   have S:=(u x L).ok hK;refine AP (Q:=λ(y:List Item×List (Int×Bool))=>(∃E:List Item,y.1=K++E∧E.Nodup∧ ∀x∈E,∃k:Nat,k<R.length∧x=((k:Int),0))∧y.1.Nodup∧(∀x∈y.1,Cl R K x)∧(∃n,y.1=l++n)∧
    (∀s,BX s y.2=some true→ ∀(k:Nat) r,R[k]? =some r→r.1=s→((k:Int),(0:Int))∈y.1)∧ ∀(k:Nat) r,R[k]? =some r→r.1=beh R x→((k:Int),(0:Int))∈y.1) ?_ λy B=> ?_
   ·refine Ep h0 m (AJ (x:=beh R x) (by have:=PC (p:=p) (x:=x) (by rw[hR];exact S);rw[hR]at this;exact this) ?_);have hb:=fP V S
    generalize hs:beh R x=s at hb
    have no:s<0∨s< (p.1.length:Int)→ ∀(k:Nat) r,R[k]? =some r→r.1=s→((k:Int),(0:Int))∈l:=λh k r t e=>by
     have:=V.left r (eE t)
     omega
    refine AP (Q:=λb=>(b=true→ ∀(k:Nat) r,R[k]? =some r→r.1=s→((k:Int),(0:Int))∈l)) (Af (λf=>AC λ_=>no (.inl (of_decide_eq_true f))) λf=> ?_) λb a0=> ?_
    ·have f:=of_decide_eq_false f;refine AJ (HJ _ _) (Af (λht=>AC λ_=>no (.inr ?_)) λht=> ?_)
     ·simp only[lW,decide_eq_true_eq]at ht;exact ht.2
     ·refine AJ rfl (AC λh=>A s ?_);cases hm:BX s P with
      |none=>rw[hm]at h;cases h
      |some b=>rw[hm]at h;exact congrArg some h
    ·refine Af (λf=>AC ⟨⟨E,J,nE,Z⟩,w,u,⟨[],by simp⟩,A,a0 f⟩) λf=>B0 (λk (z:List Item)=>(∃n:List Item,z=l++n∧ ∀x∈n,∃q:Nat,q<R.length∧x=((q:Int),0)∧ ∃r,R[q]? =some r∧r.1=s)∧z.Nodup∧ ∀(q:Nat) r,q<k→R[q]? =some r→r.1=s→((q:Int),(0:Int))∈z) (by omega) ⟨⟨[],by simp,by simp⟩,w,λq r h=>by omega⟩ (λk z hk O=> ?_) λz O=> ?_
     ·obtain⟨⟨n,o,M⟩,N,d2⟩:=O;have t:=bD hk;have lz:z.length≤K.length+R.length:=by
       have⟨n3,n4,n5⟩:=lK.1 (show(K++(E++n)).Nodup by rw[←lB,←J,←o];exact N)
       have:=Q5 (R:=R) n4 (λx m=>by
        rcases kF.1 m with h | h
        ·exact Z x h
        ·have⟨q,a,b,_⟩:=M x h;exact⟨q,a,b⟩)
       rw[o,J,lB,kO];omega
      refine AX t (AP (Q:=λb=>(b=true→R[k].1=s∧((k:Int),(0:Int))∉z)∧(b=false→R[k].1=s→((k:Int),(0:Int))∈z)) (Af (λf=> ?_) λf=>AC ⟨by simp,λ_ e=> ?_⟩) λb T=> ?_)
      ·refine AJ (contains_ok (by omega)) (AC ⟨λh=>⟨eq_of_beq f,?_⟩,λh _=> ?_⟩)
       ·simpa using h
       ·simpa using h
      ·rw[e]at f;simp at f
      ·refine AP (Q:=λ(z':List Item)=>(∃n:List Item,z'=l++n∧ ∀x∈n,∃q:Nat,q<R.length∧x=((q:Int),0)∧ ∃r,R[q]? =some r∧r.1=s)∧z'.Nodup∧ ∀(q:Nat) r,q<k+1→R[q]? =some r→r.1=s→((q:Int),(0:Int))∈z') (Af (λf=> ?_) λf=>AC ⟨⟨n,o,M⟩,N,λq r hq v e=> ?_⟩) λz' a1=>AC a1
       ·have⟨g1,g2⟩:=T.1 f;refine BL (by simp only[kG,kI];omega) (AC ⟨⟨n++ [((k:Int),0)],by rw[o,lB],λx m=> ?_⟩,?_,λq r hq v e=> ?_⟩)
        ·rcases kF.1 m with h | h
         ·exact M x h
         ·exact⟨k,hk,hC.1 h,_,t,g1⟩
        ·refine lK.2 ⟨N,by simp,λx m y B a2=>g2 ?_⟩;rw[←hC.1 B,←a2];exact m
        ·rcases kQ.1 hq with h | rfl
         ·exact kW _ (d2 q r h v e)
         ·exact mA _ (hC.2 rfl)
       ·rcases kQ.1 hq with h | rfl
        ·exact d2 q r h v e
        ·rw[t]at v;cases v;exact T.2 f e
     ·obtain⟨⟨n,o,M⟩,N,d2⟩:=O;have D:∀(k:Nat) r,R[k]? =some r→r.1=s→((k:Int),(0:Int))∈z:=λk r t e=>d2 k r (bO.1 t).1 t e;refine AC ⟨⟨E++n,by rw[o,J,lB],?_,λx m=> ?_⟩,N,λx m=> ?_,⟨n,o⟩,λs' C k r t e=> ?_,D⟩
      ·exact(lK.1 (show(K++(E++n)).Nodup by rw[←lB,←J,←o];exact N)).2.1
      ·rcases kF.1 m with h | h
       ·exact Z x h
       ·have⟨q,a,b,_⟩:=M x h;exact⟨q,a,b⟩
      ·dsimp only at m;rw[o]at m;rcases kF.1 m with h | h
       ·exact u x h
       ·have⟨q,a,b,r,c,d⟩:=M x h;rw[b];exact .step (u _ L) c (by rw[d,hs])
      ·dsimp only at C ⊢;rw[DD]at C;split at C
       ·rename_i e'
        exact D k r t (by rw[e,e'])
       ·rw[o];exact kW _ (A s' C k r t e)
   ·obtain⟨U,a3⟩:=y;obtain⟨⟨E',W,a4,a5⟩,F,G,⟨n,o⟩,H,X⟩:=B;dsimp only at W F G o H X ⊢;have hw:lF .i64 (i+(1:Int))=i+1:=w64 (by omega) (by omega);have a6:l.length≤U.length:=by rw[o,kO];omega
    refine Ck ⟨⟨by dsimp only;rw[hw];omega,by dsimp only;rw[hw];omega,⟨E',W,a4,a5⟩,F,G,H,λj y Y B k r t e=> ?_⟩,by dsimp only;rw[hw];omega⟩;dsimp only at Y B ⊢;rw[hw]at Y;rcases Int.lt_or_le j i with g | g
    ·rw[o,hM (by omega)]at B;rw[o];exact kW _ (I j y g B k r t e)
    ·have:j=i.toNat:=by omega
     subst this;rw[o,hM (by omega),m]at B;cases B;exact X k r t e
  ·have f:=of_decide_eq_false f
   induction h with
   |base h=>rw[J];exact kW _ h
   | @step y k r _ g1 g2 ih=>
    obtain⟨j,Y⟩:=kV ih
    have:=(bO.1 Y).1
    dsimp only at this;exact I j y (by omega) Y k r g1 g2
 ·obtain⟨b1,b2,b3⟩:=hb;refine AJ (x:=Hg b.1) (by unfold JS;rw[if_pos (by omega)]) (AC ⟨YR b1,λx=>WH.trans (b3 x),by rw[Rq];exact b2⟩)
theorem PD (u:Nat):∀b∈Lib.decDigits u,48≤b.toNat∧b.toNat≤57:=by
 induction u using Nat.strongRecOn with
 |ind u c=>
  intro b a;rw[Lib.decDigits]at a;split at a
  ·rename_i h
   have a:=hC.1 a;subst a
   have:(lI (48+u)).toNat=48+u:=by simp;omega
   omega
  ·rename_i h
   rcases kF.1 a with a | a
   ·exact c (u / 10) (by omega) b a
   ·have a:=hC.1 a;subst a
    have:(lI (48+u % 10)).toNat=48+u % 10:=by simp;omega
    omega
def fQ (l:List UInt8):Nat:=l.foldl (λa b=>a *10+(b.toNat - 48)) 0
theorem Uu (u:Nat):fQ (Lib.decDigits u)=u:=by
 induction u using Nat.strongRecOn with
 |ind u a=>
  rw[Lib.decDigits];split
  ·rename_i h
   have:(lI (48+u)).toNat=48+u:=by simp;omega
   simp only[fQ,List.foldl_cons,List.foldl_nil,this];omega
  ·rename_i h
   have e:(lI (48+u % 10)).toNat=48+u % 10:=by simp;omega
   have:=a (u / 10) (by omega)
   unfold fQ at this ⊢;rw[List.foldl_append,this];simp only[List.foldl_cons,List.foldl_nil,e];omega
theorem XF {u v:Nat}(h:Lib.decDigits u=Lib.decDigits v):u=v:=by rw[←Uu u,h,Uu]
theorem YS (i:Int):∀b∈Lib.itoa i,b=45∨(48≤b.toNat∧b.toNat≤57):=by
 intro b a;unfold Lib.itoa at a;split at a
 ·rcases List.mem_cons.1 a with a | a
  ·exact .inl a
  ·exact .inr (PD _ b a)
 ·exact .inr (PD _ b a)
theorem Z0 {i j:Int}(h:Lib.itoa i=Lib.itoa j):i=j:=by
 have a:∀(u:Nat) (r:List UInt8),Lib.decDigits u≠45::r:=λu r e=>by
  have:=PD u 45 (by rw[e];simp)
  simp at this
 unfold Lib.itoa at h;split at h<;>split at h
 ·have:=XF (List.cons.inj h).2;omega
 ·exact absurd h.symm (a _ _)
 ·exact absurd h (a _ _)
 ·have:=XF h;omega
theorem FR (i:Int):∀x∈Cr i,Kj x=true∧x≠32∧x≠46:=by
 intro x a;unfold Cr at a;obtain⟨b,c,rfl⟩:=lZ.1 a;unfold Kj;simp only[lW,decide_eq_true_eq];rcases YS i b c with rfl | h
 ·decide
 ·omega
theorem Q6 {i j:Int}(h:Cr i=Cr j):i=j:=by
 unfold Cr at h;refine Z0<|List.map_inj_right (f:=λb:UInt8=>(b.toNat:Int)) ?_ |>.1 h;intro a b c
 have:a.toNat=b.toNat:=by omega
 exact UInt8.toNat_inj.1 this
theorem JT {i:Int}(a: -9223372036854775808≤i) (b:i≤9223372036854775807):(Cr i).length≤21:=by unfold Cr;rw[lO];exact Lib.itoa_length_le i a b
def Gk:List Item→List Int
 | [] =>[]
 |x::l=>Cr x.1++46::(Cr x.2++32::Gk l)
theorem Uv (l m:List Item):Gk (l++m)=Gk l++Gk m:=by
 induction l with
 |nil=>rfl
 |cons x l a=>simp[Gk,a]
theorem Uw {c:Int}:∀ {a b r s:List Int},(∀x∈a,x≠c)→(∀x∈b,x≠c)→a++c::r=b++c::s→a=b∧r=s:=by
 intro a
 induction a with
 |nil=>
  intro b r s _ d h;cases b with
  |nil=>simpa using h
  |cons y b=>simp at h;exact absurd h.1.symm (d y (by simp))
 |cons x a g=>
  intro b r s f d h;cases b with
  |nil=>simp at h;exact absurd h.1 (f x (by simp))
  |cons y b=>
   simp at h;obtain⟨i,j⟩:=g (λz e=>f z (by simp[e])) (λz e=>d z (by simp[e])) h.2;exact⟨by rw[h.1,i],j⟩
theorem Z2:∀ {a b:List Item},Gk a=Gk b→a=b:=by
 intro a
 induction a with
 |nil=>
  intro b h;cases b with
  |nil=>rfl
  |cons y b=>simp[Gk]at h
 |cons x a d=>
  intro b h;cases b with
  |nil=>simp[Gk]at h
  |cons y b=>
   have⟨e,f⟩:=Uw (λz c=>(FR x.1 z c).2.2) (λz c=>(FR y.1 z c).2.2) h;have⟨g,i⟩:=Uw (λz c=>(FR x.2 z c).2.1) (λz c=>(FR y.2 z c).2.1) f;rw[mP (Q6 e) (Q6 g),d i]
theorem PE (l:List Item):∀x∈Gk l,Kj x=true:=by
 induction l with
 |nil=>intro x a;cases a
 |cons y l b=>
  intro x a;simp only[Gk,kF,List.mem_cons]at a;rcases a with h | rfl | h | rfl | h
  ·exact(FR _ x h).1
  ·decide
  ·exact(FR _ x h).1
  ·decide
  ·exact b x h
def I64 (l:List Item):Prop:= ∀x∈l,0≤x.1∧x.1≤1000000∧0≤x.2∧x.2≤1000000
theorem Z3 {l:List Item}(h:I64 l):(Gk l).length≤l.length *44:=by
 induction l with
 |nil=>simp[Gk]
 |cons x l b=>
  have a:=h x (by simp)
  have:=b λy c=>h y (by simp[c])
  have d:=JT (i:=x.1) (by omega) (by omega);have e:=JT (i:=x.2) (by omega) (by omega);simp only[Gk,kO,kG];omega
def WJ (l:List Item):ByteArray:=⟨((Gk l).map λx=>lI x.toNat).toArray⟩
theorem WK {x:Int}(h:Kj x=true):((lI x.toNat).toNat:Int)=x:=by unfold Kj at h;simp only[lW,decide_eq_true_eq]at h;simp;omega
theorem Z4 {a b:List Item}(h:WJ a=WJ b):a=b:=by
 unfold WJ at h;simp only[ByteArray.mk.injEq]at h;have c:∀l:List Int,(∀x∈l,Kj x=true)→(l.map λx=>lI x.toNat).map (λb=>(b.toNat:Int))=l:=λl d=>by
  rw[List.map_map]
  conv=>rhs;rw[←List.map_id l]
  refine List.map_congr_left λx e=>WK (d x e)
 refine Z2 ?_;rw[←c (Gk a) (PE a),←c (Gk b) (PE b)];rw[List.toArray_inj h]
theorem fR {l:List Item}(h:I64 l) (j:l.length≤20000):Ee l=some (WJ l):=by
 refine mT ?_;unfold Ee;refine B0 (λk (z:List Int)=>z=Gk (l.take k)) (by omega) rfl (λk z c b=> ?_) λz b=> ?_
 ·subst b;have d:=bD c;have a:=h _ (hA c);have e:Gk (l.take (k+1))=Gk (l.take k) ++Gk [l[k]]:=by rw[lA,d,Uv];rfl
  have f:=Z3 (l:=l.take k) λy g=>h y (List.mem_of_mem_take g)
  have:(l.take k).length≤k:=by rw[lG];omega
  have m:=JT (i:=l[k].1) (by omega) (by omega);have n:=JT (i:=l[k].2) (by omega) (by omega);have c1:ET (Gk (l.take k)) l[k].1 10=some (Gk (l.take k) ++Cr l[k].1):=by unfold ET;rw[if_pos ⟨rfl,by omega,by omega,by omega⟩]
  refine AX d (AJ c1 (BL (by simp;omega) ?_));have c2:ET (Gk (l.take k) ++Cr l[k].1++ [46]) l[k].2 10=some (Gk (l.take k) ++Cr l[k].1++ [46] ++Cr l[k].2):=by unfold ET;rw[if_pos ⟨rfl,by omega,by omega,by simp;omega⟩]
  refine AJ c2 (BL (by simp;omega) (AC ?_));rw[e];simp[Gk]
 ·subst b;rw[kT (lD _)];refine AJ (x:=WJ l) ?_ (AC rfl);unfold Ww WJ;rw[if_pos (List.all_eq_true.2 (PE l))]
def nx (R:Rl) (l:List Item) (s:Int):List Item:=(l.filter λx=>beh R x==s).map λx=>(x.1,x.2+1)
theorem OkI.dot {nT:Int}{R:Rl}(V:VP nT R) {x:Item}(h:OkI R x):x.1≤1000∧x.2≤1000:=by
 obtain⟨b,c,r,a,d⟩:=h
 have:=V.short r (eE a)
 have:=(bO.1 a).1
 have:=V.few
 omega
theorem OkI.i64 {nT:Int}{R:Rl}(V:VP nT R) {l:List Item}(h:∀x∈l,OkI R x):I64 l:=λx a=>by
 have:=(h x a).dot V
 have:=(h x a).1
 have:=(h x a).2.1
 omega
theorem cg {p:As}{nT:Int}(V:VP nT p.2.2.1) {l:List Item}(h:∀x∈l,OkI p.2.2.1 x) (i:l.length≤1000000) (s:Int):CY (qA p Gi 0) l s=some (nx p.2.2.1 l s):=by
 refine mT ?_;unfold CY;refine B0 (λk (z:List Item)=>z=nx p.2.2.1 (l.take k) s) (by omega) rfl (λk z d b=> ?_) λz b=>AC (by rw[b,kT (lD _)]);subst b;have f:=bD d;have a:=h _ (hA d);have j:=a.dot V;have m:=a.2.1;have e:nx p.2.2.1 (l.take (k+1)) s=nx p.2.2.1 (l.take k) s++nx p.2.2.1 [l[k]] s:=by
  rw[lA,f];unfold nx;rw[mH,List.map_append];rfl
 have g:(nx p.2.2.1 (l.take k) s).length≤k:=by
  unfold nx;rw[lO]
  have:=lL (λx=>beh p.2.2.1 x==s) (l.take k)
  rw[lG]at this;omega
 refine AX f (AJ (PC a) ?_);refine AP (Q:=λz=>z=nx p.2.2.1 (l.take (k+1)) s) (Af (λc=> ?_) λc=>AC ?_) λz b=>AC b
 ·refine BL (by simp;omega) (AC ?_);rw[e,w64 (by omega) (by omega)];unfold nx;rw[lN,if_pos c];rfl
 ·rw[e];unfold nx;rw[lN,if_neg (by rw[c];decide)];simp
theorem WL {R:Rl}{l:List Item}{s:Int}{y:Item}:y∈nx R l s↔∃x∈l,beh R x=s∧y=(x.1,x.2+1):=by
 unfold nx;simp only[lZ,List.mem_filter,beq_iff_eq];constructor
 ·rintro⟨x,⟨a,b⟩,c⟩;exact⟨x,a,b,c.symm⟩
 ·rintro⟨x,a,b,c⟩;exact⟨x,⟨a,b⟩,c.symm⟩
theorem eH {R:Rl}{l:List Item}(h:l.Pairwise Lt) (s:Int):(nx R l s).Pairwise Lt:=by unfold nx;rw[List.pairwise_map];exact(h.filter _).imp λ{a b} h=>by unfold Lt at *;dsimp only;omega
theorem XG {nT:Int}{R:Rl}(V:VP nT R) {l:List Item}(h:∀x∈l,OkI R x) {s:Int}(f:0≤s):∀y∈nx R l s,OkI R y∧1≤y.2:=λy c=>by
 obtain⟨x,d,a,rfl⟩:=WL.1 c;have⟨e,i,r,b,j⟩:=h x d;refine⟨⟨e,by dsimp only;omega,r,b,?_⟩,by dsimp only;omega⟩;unfold beh at a;rw[b]at a;dsimp only at a ⊢;rcases lP x.2.toNat r.2.1.length with g | g
 ·omega
 ·rw[kU g]at a;simp at a;omega
def syr (R:Rl) (l:List Item):List Int:=(l.map (beh R)).filter λs=>decide (0≤s)
def sy (R:Rl) (l:List Item):List Int:=Lib.compact (LC (syr R l))
theorem WM {p:As}{l:List Item}(h:∀x∈l,OkI p.2.2.1 x) (i:l.length≤1000000):B1 (qA p Gi 0) l=some (sy p.2.2.1 l):=by
 refine mT ?_;unfold B1;have b:∀k,(syr p.2.2.1 (l.take k)).length≤l.length:=λk=>by
  unfold syr
  have:=lL (λs=>decide (0≤s)) ((l.take k).map (beh p.2.2.1))
  rw[lO,lG]at this;omega
 refine B0 (λk (z:List Int)=>z=syr p.2.2.1 (l.take k)) (by omega) rfl (λk z f c=> ?_) λz c=> ?_
 ·subst c;have g:=bD f;have a:=h _ (hA f);have e:syr p.2.2.1 (l.take (k+1))=syr p.2.2.1 (l.take k) ++syr p.2.2.1 [l[k]]:=by
   rw[lA,g];unfold syr;rw[List.map_append,mH];rfl
  have:=b k
  refine AX g (AJ (PC a) ?_);refine AP (Q:=λz=>z=syr p.2.2.1 (l.take (k+1))) (Af (λd=> ?_) λd=>AC ?_) λz c=>AC c
  ·refine BL (by simp;omega) (AC ?_);rw[e];unfold syr;rw[List.map_cons,lN,if_pos (by simpa using d)];rfl
  ·rw[e];unfold syr;rw[List.map_cons,lN,if_neg (by simpa using d)];simp
 ·subst c
  have:=b l.length
  rw[kT (lD _)]at this ⊢;refine AJ (x:=LC (syr p.2.2.1 l)) (by unfold W6;rw[if_pos (by omega)])<|AJ (x:=sy p.2.2.1 l) (by unfold OF;rw[if_pos (by unfold LC;rw[(DU _ _).length_eq];omega)];rfl) (AC rfl)
theorem Ux (l:List Int):(LC l).Pairwise (· ≤ ·):=by
 have d:=Qk (le:=λx y:Int=>decide (x≤y)) (by
  intro a b c d e;simp only[decide_eq_true_eq]at *
  omega) (by
  intro a b;simp only[Bool.or_eq_true,decide_eq_true_eq]
  omega) l
 exact d.imp λ{a b} h=>of_decide_eq_true h
theorem SO {l:List Int}(h:l.Pairwise (· ≤ ·)):∀m,m≤l.length→(Lib.compactUpTo l.toArray m).Pairwise (· < ·)∧(∀x,x∈Lib.compactUpTo l.toArray m↔x∈l.take m):=by
 intro m
 induction m with
 |zero=>intro _;exact⟨.nil,λx=>by simp[Lib.compactUpTo]⟩
 |succ m t=>
  intro w;obtain⟨r,d⟩:=t (by omega);rw[Lib.compactUpTo_succ];have c:=bD (show m<l.length by omega);have e:l.toArray[m]! =l[m]:=by rw[getElem!_pos _ m (by simp;omega)];simp
  have s:l.take (m+1)=l.take m++ [l[m]]:=by rw[lA,c];rfl
  have le:∀x∈l.take m,x≤l[m]:=λx c=>by
   obtain⟨j,f,rfl⟩:=mD c;rw[lG]at f;rw[mJ];exact kJ.1 h j m (by omega) (by omega) (by omega)
  cases a:Lib.keeps l.toArray m with
  |true=>
   rw[if_pos rfl,e,s];refine⟨List.pairwise_append.2 ⟨r,by simp,λx c y u=> ?_⟩,λx=>by rw[kF,kF,d]⟩;obtain rfl:=hC.1 u;have b:=(d x).1 c
   have:=le x b
   unfold Lib.keeps at a;have a:=of_decide_eq_true a;rcases a with rfl | a
   ·simp at b
   ·have k:l.toArray[m - 1]! =l[m - 1]:=by rw[getElem!_pos _ (m - 1) (by simp;omega)];simp
    rw[e,k]at a;have n:m≠0:=λo=>by subst o;simp at b
    have v:x≤l[m - 1]:=by
     obtain⟨j,f,rfl⟩:=mD b;rw[lG]at f;rw[mJ];rcases lP j (m - 1) with g | g
     ·exact kJ.1 h j (m - 1) (by omega) (by omega) (by omega)
     ·have:j=m - 1:=by omega
      subst this;exact Int.le_refl _
    have:=kJ.1 h (m - 1) m (by omega) (by omega) (by omega)
    omega
  |false=>
   rw[if_neg (by decide),List.append_nil,s];refine⟨r,λx=> ?_⟩;rw[d,kF,hC];unfold Lib.keeps at a;have a:=of_decide_eq_false a;have n:m≠0:=λo=>a (.inl o);have k:l.toArray[m - 1]! =l[m - 1]:=by rw[getElem!_pos _ (m - 1) (by simp;omega)];simp
   have p:l[m] =l[m - 1]:=by
    by_cases q:l[m] =l[m - 1]
    ·exact q
    ·exact absurd (.inr (by rw[e,k];exact q)) a
   constructor
   ·exact .inl
   ·rintro(h | rfl)
    ·exact h
    ·rw[p];refine eE (i:=m - 1) ?_;rw[List.getElem?_take,if_pos (by omega),bD (by omega)]
theorem gY (R:Rl) (l:List Item):(sy R l).Pairwise (· < ·):=(SO (Ux _) _ (lD _)).1
theorem PF {R:Rl}{l:List Item}{s:Int}:s∈sy R l↔0≤s∧ ∃x∈l,beh R x=s:=by
 unfold sy Lib.compact;rw[(SO (Ux _) _ (lD _)).2,kT (lD _)];unfold LC;rw[(DU _ _).mem_iff];unfold syr;simp only[List.mem_filter,lZ,decide_eq_true_eq];constructor
 ·rintro⟨⟨x,a,b⟩,c⟩;exact⟨c,x,a,b⟩
 ·rintro⟨c,x,a,b⟩;exact⟨⟨x,a,b⟩,c⟩
theorem Z5 (R:Rl) (l:List Item):(sy R l).length≤l.length:=by have b:=Ql (LC (syr R l));have c:(LC (syr R l)).length=(syr R l).length:=(DU _ _).length_eq;have a:(syr R l).length≤(l.map (beh R)).length:=lL _ _;rw[lO]at a;unfold sy;omega
end Go.Proofs.YtnlkgidlfnefbaaGreatDoor
