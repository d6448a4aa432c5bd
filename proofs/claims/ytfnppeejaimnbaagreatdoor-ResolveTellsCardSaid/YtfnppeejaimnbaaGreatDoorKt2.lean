/- The parts DenS to DgCollect, put together. Conditions: each tells its own. -/
import Derived.Test.YtfnppeejaimnbaaGreatDoorKt1
import Derived.Test.YtfnppeejaimnbaaGreatDoorProg
import Derived.KernelRfl
import Derived.Shelf.Sort.Plain
import Derived.Shelf.SlSortCmp.NoneTotal
import Derived.Shelf.Slices.CompactI
import Derived.Shelf.Small.Wraps
import Derived.Shelf.Slices.In.SortNone
import Derived.Shelf.SlicesE.DeleteFunc
import Derived.Lib.TrailingZeros
import Derived.WalkKit
import Derived.ProofKit
import Derived.OpenShut
import Derived.ShutString
import Derived.ChangeOld
import Derived.Below
import Derived.RangeFuncNested
import Derived.RangeFuncBound
import Derived.RangeFuncCalls
import Derived.RangeFuncLeaves
import Derived.Shelf.Abstract
import Derived.Shelf.RegionOpen
import Derived.OwnWalkIn
import Derived.TacticsInMore
import Derived.LoopNIn
import Derived.LoopIn
import Derived.RangeFuncBox
import Derived.Maps.AppendAt
set_option linter.unusedVariables false
set_option maxRecDepth 100000
set_option maxHeartbeats 4000000
open Go.IntKind renaming wrap → bD,bits → oE,signed → rM
open Int renaming tmod → bO,toNat → eE,toNat_natCast → oP,tdiv → pG,emod_lt_of_pos → qD,emod_nonneg → qZ,fdiv → rG,not_lt → rH,tmod_eq_emod_of_nonneg → rJ,fdiv_eq_ediv_of_nonneg → rN,tdiv_eq_ediv_of_nonneg → rP,le_refl → uF
open Go.Proofs.Tryz renaming prog → hC,underlying30 → pC,underlying3 → pU,underlying4 → pV,zeroValue3 → pZ,zeroValue4 → qB,sizeOf3 → qH,underlying0 → qN,isAgg3 → qR,zeroValue0 → rA,sizeOf4 → rF,underlying224 → rL,isAgg4 → rS,zeroValue30 → rY,sizeOf0 → sB,isAgg0 → sF,sizeOf30 → sL,underlying218 → sP,underlying248 → sQ,underlying223 → sR,underlying107 → sS,underlying241 → sT,underlying242 → sU,underlying265 → sV,underlying269 → sW,underlying278 → sX,underlying279 → sY,underlying28 → tG,underlying93 → tH,underlying95 → tJ,underlying96 → tL,underlying29 → tM,isAgg30 → tN,zeroValue218 → tO,zeroValue248 → tP,zeroValue223 → tQ,zeroValue107 → tR,zeroValue241 → tS,zeroValue242 → tT,zeroValue265 → tU,zeroValue269 → tV,zeroValue278 → tW,zeroValue279 → tX,underlying5 → uB,underlying9 → uC
open ByteArray renaming extract → hM,toList → mE,size → nZ
open List renaming getElem?_eq_getElem → nY,length → oK,getElem_mem → oU,length_append → pE,getElem?_eq_none → pJ,getElem?_append_left → pK,length_cons → pP,append_assoc → pR,getElem?_append_right → pS,length_nil → pY,nil_append → qC,pairwise_cons → qG,replicate → qJ,filter_eq_nil_iff → qL,range → qO,getElem?_of_mem → qQ,eq_nil_of_length_eq_zero → qS,range' → qU,mem_append → qY,map_append → rC,append_toArray → rE,mem_range → rO,getElem?_eq_some_iff → rQ,size_toArray → rT,push_toArray → rU,mem_cons → rX,cons_append → rZ,mem_append_left → sE,range_eq_range' → sJ,mem_singleton → sO,filter_append → tC,take_add_one → tY,perm_middle → uA,length_take → uD,filter_cons → uE
open Go.Eng.Ro renaming SliceIs → oA,str → oC,int → oG,list → tD
open Nat renaming beq → oB,lt_or_ge → pM,le_refl → pT,lt_succ_iff_lt_or_eq → pW,testBit_two_pow → rD,mul_le_mul_right → sH,pow_lt_pow_right → sI,lt_of_le_of_lt → tA,pow_succ → tZ
open Go.Builtin renaming append_ → oD
open Go.Eng.T renaming out → oF,call → oI,ret → oJ,block → oL,loop → oN,join → oV,brk → oW,load → oY,sem → pB,still → pH,store → pN
open Go.Eng.Ro.SliceIs renaming nil → oH
open BitVec renaming ofInt → oM,toNat → pF
open Go.Eng.St renaming freezeRow → oO,cell → oS,unpair → pD,cells → pI,unro → pO,lit → rI,shutR → sD,shut → sK,openR → uI
open Go.Eng.Sub renaming trans → oQ,refl → qT
open Array renaming getElem?_eq_getElem → oR,replicate_succ → qV,replicate_zero → qX,getElem?_append_left → rK,getElem?_modify → sC
open Option renaming bind_some → oT,isNone → rV,map → sN,isNone_some → sZ
open UInt8 renaming toNat → oX,ofNat → rR
open Go.Eng.AX renaming done → oZ,next → pA
open Go.Value renaming int → pL
open Go.Eng.Rep renaming row → pQ,ro → qM,prod → tF
open Bool renaming or_false → pX,true_and → qP,false_ne_true → tB
open Go.Eng.Bc renaming int → sG,val → uJ
open Go.Addr renaming add → tE
open Go.Instr renaming mapUpdate → uG,makeSlice → uH
open Go.Eng.Shs renaming of → uK
open Go renaming Value → uL,TypeId → uM,Program → uN,World → uO,Addr → uP
open Go.Proofs.Tryz
namespace Go.Proofs.YtfnppeejaimnbaaGreatDoor
open Go Go.Eng
abbrev jM (r j:Nat) (k:Slc→T):T:=oY .slice ⟨r,j,none⟩ k
abbrev jN (a:uP) (i:Int) (j:Nat) (k:Slc→T):T:=oY .slice (a.add (eE i * j)) k
abbrev jO (a:Array uL) (t:Nat) (k:Nat→T):T:=T.new (.cells a t (0,0)) k
abbrev jP (r j:Nat) (k:Int→T):T:=oY (.int .u8) ⟨r,j,none⟩ k
abbrev jQ (r j:Nat) (v:Slc) (k:T):T:=pN ⟨r,j,none⟩ (sv v) k
abbrev jR (a:uP) (i:Int) (j:Nat) (k:Int→T):T:=oY (.int .i64) (a.add (eE i * j)) k
abbrev jS (r j:Nat) (k:Option uP→T):T:=oY .pointer ⟨r,j,none⟩ k
abbrev jT (a:uP) (j:Nat) (k:Slc→T):T:=oY .slice (a.add j) k
abbrev jU (a:uP) (i:Int) (j n:Nat) (k:Slc→T):T:=oY .slice ((a.add (eE i * j)).add n) k
abbrev jV (r j:Nat) (v:uL) (k:T):T:=pN ⟨r,j,none⟩ v k
abbrev jW (r j:Nat) (v:uL) (k:T):T:=pH ⟨r,j,none⟩ v k
abbrev jX (a:uP) (i:Int) (j n:Nat) (k:Int→T):T:=oY (.int .i64) ((a.add (eE i * j)).add n) k
abbrev jY (r j:Nat) (k:Int→T):T:=oY (.int .i64) ⟨r,j,none⟩ k
abbrev jZ (r j:Nat) (v:Int) (k:T):T:=pN ⟨r,j,none⟩ (.int .i64 v) k
abbrev kD (r j:Nat) (k:T):T:=pN ⟨r,j,none⟩ (.slice none 0 0) k
abbrev kF (r j:Nat) (k:ByteArray→T):T:=oY .string ⟨r,j,none⟩ k
abbrev kG (a:uP) (i:Int) (j:Nat) (k:ByteArray→T):T:=oY .string (a.add (eE i * j)) k
abbrev kH (a:uP) (i:Int) (j n:Nat) (k:ByteArray→T):T:=oY .string ((a.add (eE i * j)).add n) k
abbrev kJ (r j:Nat) (v:Slc) (k:T):T:=pH ⟨r,j,none⟩ (sv v) k
abbrev kM (a:uP) (i:Int) (j:Nat) (k:Int→T):T:=oY (.int .u8) (a.add (eE i * j)) k
abbrev kN (r j:Nat) (k:Option Nat→T):T:=oY .map ⟨r,j,none⟩ k
abbrev kO (a:uP) (j:Nat) (k:Int→T):T:=oY (.int .i64) (a.add j) k
abbrev kQ (a:uP) (k:Int→T):T:=oY (.int .i64) a k
abbrev kT (a:uP) (k:ByteArray→T):T:=oY .string a k
abbrev kU (a:uP) (k:Bool→T):T:=oY .bool a k
abbrev kV (a:uP) (i:Int) (j n:Nat) (k:Bool→T):T:=oY .bool ((a.add (eE i * j)).add n) k
abbrev kW (r j:Nat) (k:Bool→T):T:=oY .bool ⟨r,j,none⟩ k
abbrev kX (a:uP) (i:Int) (j:Nat) (k:Option uP→T):T:=oY .pointer (a.add (eE i * j)) k
abbrev kY (a:uP) (k:Int→T):T:=oY (.int .u8) a k
abbrev kZ (a:uP) (i:Int) (j:Nat) (k:Bool→T):T:=oY .bool (a.add (eE i * j)) k
abbrev lA (a:uP) (k:Slc→T):T:=oY .slice a k
abbrev lB (a:uP) (j:Nat) (k:Option uP→T):T:=oY .pointer (a.add j) k
abbrev lC (a:uP) (j:Nat) (k:Option Nat→T):T:=oY .map (a.add j) k
abbrev lD (r j:Nat) (v:Int) (k:T):T:=pH ⟨r,j,none⟩ (.int .i64 v) k
abbrev lF (r:Nat):Option uP:=some ⟨r,0,none⟩
theorem lG {γ ss M}{g:γ}{vs y P h Q}(a:uK ss vs=some y) (b:M y h g):(oF vs).wp P (fW ss M g Q) h:=AN y a b
theorem lH {σ ss I}{e:Option σ}{vs y s P h Q}(a:uK ss vs=some y) (c:e=some s) (b:I y h s):(oF vs).wp P (G7 ss I e Q) h:=Ac y s a c b
theorem lI {γ ss M}{g:γ}{vs y h Q n}(a:uK ss vs=some y) (b:M y h g):IQ n ss M g Q (.brk n vs) h:=AL y a b
theorem lJ {γ ss M}{g:γ}{vs y P h Q n}(a:uK ss vs=some y) (b:M y h g):(oF vs).wp P (IQ n ss M g Q) h:=FV y a b
abbrev lK (p:Option uP) (n:Nat) (i:Int) (k:uP→T):T:=nW p λa=>chk (0≤i∧i<n) (k a)
abbrev lL (i:Int) (n:Nat) (x y:T):T:=cond (decide (i<n)) x y
abbrev lM (p:Prop) [Decidable p] (x y:T):T:=cond (decide p) x y
abbrev lN (n:Int):uL:=.int .i64 n
abbrev lO:uL:=.slice none 0 0
abbrev lP (p:Option uP):uL:=.pointer p
abbrev lQ (x:Int):Int:=bD .i64 x
abbrev lR:Sh:=.one aP
abbrev lS:Sh:=.one aS
abbrev lT:Sh:=.one aI
abbrev lU:Sh:=.one aB
abbrev lV:List Sh1:=[aB]
abbrev lW:List Sh1:=[aI,aB]
abbrev lX:List Sh1:=[aI,aI]
abbrev lY:List Sh1:=[aI,aS]
abbrev lZ:List Sh1:=[aI]
abbrev mA:List Sh1:=[aI,aB,aS]
abbrev mB:List Sh1:=[aS,aS]
abbrev mC:List Sh1:=[aS,aB]
abbrev mD:List Sh1:=[aI,aS,aS]
abbrev mF:Sh:=.one (.agg [.slice,.slice,.slice,(.int .i64),(.int .i64)])
abbrev mG:Sh:=.tuple []
abbrev mH:Sh:=.one (.agg [.slice,.slice,.slice,(.int .i64)])
abbrev mI:Sh:=.tuple [(.agg [.slice,.slice,.slice,.slice,.slice,.slice]),aP,aP,aP,aB]
abbrev mJ:Sh:=.one (.agg [(.int .i64),(.int .i64)])
abbrev mK:Sh:=.tuple [(.agg [(.int .i64),(.int .i64)]),aB]
abbrev mL:ByteArray:={data:=#[]}
abbrev mM (f:AD) (r:Bool) (G:List Chk) (v:uL) (h:AH):Prop:=∃w:AD,∃y:Bool,Sub f w∧v=lU.val y∧y=r∧St w G h
abbrev mN (f:AD) (r:Int) (G:List Chk) (v:uL) (h:AH):Prop:=∃w:AD,∃y:Int,Sub f w∧v=lT.val y∧y=r∧St w G h
abbrev mO {α:Type}(f:AD) (R:Ro α) (r:List α) (G:List Chk) (v:uL) (h:AH):Prop:=∃w:AD,∃y:Slc,∃l:List α,Sub f w∧v=lS.val y∧l=r∧oA R w y l∧St w G h
theorem mP {γ:Type}{b c:Bool}{x y:T}{dx dy:Option γ}{g:γ}{P Q h}(d:cond c dx dy=some g) (e:b=c) (p:dx=some g→x.wp P Q h) (q:dy=some g→y.wp P Q h):(cond b x y).wp P Q h:=AE d e (λ_=>p) (λ_=>q)
abbrev mQ:Slc:=(none,0,0)
theorem mR {ty b j vs Γ φ h P Q}{k:Slc→T}(H:St φ (⟨Rep.raw ty,[.pointer (some ⟨b,0,none⟩)],vs⟩::Γ) h) (v:vs[j]?=some (.slice none 0 0)) (e:(k mQ).wp P Q h):(oY .slice ⟨b,j,none⟩ k).wp P Q h:=AA (x:=mQ) H v e
theorem mS {φ h Γ}{b:Nat}{x:GF}(H:St φ (cO 98 Jn (some ⟨b,0,none⟩) x::Γ) h):∃(t0:Slc) (t1:Slc) (t2:Slc) (t4:Slc),oA ON φ t1 x.2.1∧St φ (cR 165 Gk t4 x.2.2.2.2::cR 172 HB t2 x.2.2.1::cR 169 Hl t0 x.1::cW 98 b [sv t0,sv t1,sv t2,.string x.2.2.2.1,sv t4]::Γ) h:=by
 obtain⟨i,t0,t1,t2,t4,e,f0,c⟩:=Jo H
 obtain rfl:b=i:=by simpa using e
 exact⟨t0,t1,t2,t4,f0,c⟩
theorem mT {φ h Γ}{b:Nat}{x:As}(H:St φ (cO 32 Il (some ⟨b,0,none⟩) x::Γ) h):∃(t0:Slc) (t1:Slc) (t2:Slc) (t3:Slc) (t4:Slc) (t5:Slc),St φ (cR 9 oC t5 x.2.2.2.2.2::cR 3 (oG .i64) t4 x.2.2.2.2.1::cR 3 (oG .i64) t3 x.2.2.2.1::cR 156 BL t2 x.2.2.1::cR 9 oC t1 x.2.1::cR 9 oC t0 x.1::cW 32 b [sv t0,sv t1,sv t2,sv t3,sv t4,sv t5]::Γ) h:=by
 obtain⟨i,t0,t1,t2,t3,t4,t5,e,c⟩:=GR H
 obtain rfl:b=i:=by simpa using e
 exact⟨t0,t1,t2,t3,t4,t5,c⟩
theorem mU {φ h Γ}{b:Nat}{x:DU}(H:St φ (cO 80 SG (some ⟨b,0,none⟩) x::Γ) h):∃(t0:Slc) (t1:Slc) (t2:Slc) (t3:Slc) (t4:Slc) (t5:Slc) (t6:Slc) (t7:Slc) (t8:Slc),oA oC φ t0 x.1∧oA oC φ t1 x.2.1∧oA BL φ t2 x.2.2.1∧oA (oG .i64) φ t3 x.2.2.2.1∧oA (oG .i64) φ t4 x.2.2.2.2.1∧oA oC φ t5 x.2.2.2.2.2.1∧St φ (cR 62 Fp t8 x.2.2.2.2.2.2.2.2::cR 30 (tD (oG .i64)) t7 x.2.2.2.2.2.2.2.1::cR 81 (tD FI) t6 x.2.2.2.2.2.2.1::cW 80 b [sv t0,sv t1,sv t2,sv t3,sv t4,sv t5,sv t6,sv t7,sv t8]::Γ) h:=by
 obtain⟨i,t0,t1,t2,t3,t4,t5,t6,t7,t8,e,f0,f1,f2,f3,f4,f5,c⟩:=V3 H
 obtain rfl:b=i:=by simpa using e
 exact⟨t0,t1,t2,t3,t4,t5,t6,t7,t8,f0,f1,f2,f3,f4,f5,c⟩
theorem nU {p:Prop}(h:p:=by kernel_rfl):p:=h
noncomputable def Im(s_0:Int×Int×Slc×Slc×Slc×Slc×Slc×Unit)(a:Int)(b:Int):T:=jO #[.int .u8 s_0.1,.int .u8 s_0.2.1,sv s_0.2.2.1,sv s_0.2.2.2.1,sv s_0.2.2.2.2.1,sv s_0.2.2.2.2.2.1,sv s_0.2.2.2.2.2.2.1] 25 λr1=>oV lV (jM r1 2 λt3=>lM ((t3.2.1:Int) >a) (oF [.bool true]) (jM r1 5 λt4=>oF [.bool (decide ((t4.2.1:Int) >(5:Int)))])) λe=>cond e.1 (oJ (.bool false)) (oL 0 lW (oN lW [lN 0,.bool false] λc=>jM r1 3 λt7=>lL c.1 t7.2.1 (jM r1 3 λt8=>lK t8.1 t8.2.1 c.1 λf=>jN f c.1 1 λd=>lM ((d.2.1:Int) >b) (oJ (.bool false)) (oF [lN (wN c.1),.bool c.2.1])) (oW 0 [lN c.1,.bool c.2.1])) λg=>oJ (.bool true))
theorem Hn(s_0:Int×Int×Slc×Slc×Slc×Slc×Slc×Unit)(a:Int)(b:Int):Ab hC f5 [(.agg #[(.int .u8 s_0.1),(.int .u8 s_0.2.1),(sv s_0.2.2.1),(sv s_0.2.2.2.1),(sv s_0.2.2.2.2.1),(sv s_0.2.2.2.2.2.1),(sv s_0.2.2.2.2.2.2.1)]),(.int .i64 a),(.int .i64 b)] =Im s_0 a b:=nU
noncomputable def IC(s_0:Int×Int×Slc×Slc×Slc×Slc×Slc×Unit):T:=jO #[.int .u8 s_0.1,.int .u8 s_0.2.1,sv s_0.2.2.1,sv s_0.2.2.2.1,sv s_0.2.2.2.2.1,sv s_0.2.2.2.2.2.1,sv s_0.2.2.2.2.2.2.1] 25 λr1=>jO #[lO,lO,lO,lO,lO,lO] 32 λd=>jP r1 0 λt3=>jP r1 1 λt4=>jM r1 2 λt5=>jM r1 3 λt6=>jM r1 4 λt7=>jM r1 5 λt8=>jM r1 6 λq=>oI 42 [.agg #[.int .u8 t3,.int .u8 t4,sv t5,sv t6,sv t7,sv t8,sv q]] (.one (.agg [.slice,.slice,.slice,.string,.slice])) λc=>oI 41 [.agg #[sv c.1,sv c.2.1,sv c.2.2.1,.string c.2.2.2.1,sv c.2.2.2.2.1]] (.tuple [.agg [.slice,.slice,.slice,.slice,.slice,.slice],aI,.atom .string]) λb=>jO #[lO,lO,lO,lO,lO,lO] 32 λa=>jQ a 0 b.1.1<|jQ a 1 b.1.2.1<|jQ a 2 b.1.2.2.1<|jQ a 3 b.1.2.2.2.1<|jQ a 4 b.1.2.2.2.2.1<|jQ a 5 b.1.2.2.2.2.2.1<|L6 a λk l m n o p=>jQ d 0 k<|jQ d 1 l<|jQ d 2 m<|jQ d 3 n<|jQ d 4 o<|jQ d 5 p<|L6 d λe f g h i j=>oJ (aH e f g h i j)
theorem HJ(s_0:Int×Int×Slc×Slc×Slc×Slc×Slc×Unit):Ab hC f22 [(.agg #[(.int .u8 s_0.1),(.int .u8 s_0.2.1),(sv s_0.2.2.1),(sv s_0.2.2.2.1),(sv s_0.2.2.2.2.1),(sv s_0.2.2.2.2.2.1),(sv s_0.2.2.2.2.2.2.1)])] =IC s_0:=nU
noncomputable def OR(b:nG)(a d:Nat)(x_1:Int):T:=oL 0 lW (oN lW [lN 0,.bool false] λc=>lL c.1 a (lK b a c.1 λe=>jR e c.1 1 λt4=>cond (t4==x_1) (oJ (.bool true)) (oF [lN (wN c.1),.bool c.2.1])) (oW 0 [lN c.1,.bool c.2.1])) λf=>oJ (.bool false)
theorem Mg(a:nG)(b c:Nat)(d:Int):Ab hC f71 [(.slice a b c),(.int .i64 d)] =OR a b c d:=nU
noncomputable def LW(p_0:Pl6)(d:Int)(e:Int):T:=jO #[sv p_0.1,sv p_0.2.1,sv p_0.2.2.1,sv p_0.2.2.2.1,sv p_0.2.2.2.2.1,sv p_0.2.2.2.2.2.1] 32 λr1=>L6 r1 λt2 t3 t4 t5 t6 t7=>jO #[sv t2,sv t3,sv t4,sv t5,sv t6,sv t7,lO,lN 0] 75 λU=>jO #[lP none] 33 λc=>jV c 0 (lP (some ⟨U,0,none⟩))<|oI 46 [lN d] lR λy=>oI 46 [lN e] lR λz=>jO #[lP none] 103 λh=>jO #[lP none] 103 λf=>jV h 0 (lP y)<|jV f 0 (lP z)<|T.new (.map #[] 0) λA=>jO #[.map none] 105 λi=>jV i 0 (.map (some A))<|jO #[lN 0,lN 0] 116 λB=>oI 47 [.slice (some ⟨B,0,none⟩) 1 1,lN (-1:Int),lN (-1:Int),lP (some ⟨i,0,none⟩),lP (some ⟨c,0,none⟩),lP (some ⟨h,0,none⟩),lP (some ⟨f,0,none⟩)] (.tuple lX) λp=>cond (p.2.1 !=(0:Int)) (oJ (.tuple #[lP none,lN p.2.1])) (oL 0 [aI,aI,aP] (oN [aI,aI,aP] [lN 0,lN 0,lP none] λa=>jS c 0 λC=>nW C λD=>jT D 6 λE=>cond (decide (a.1< (E.2.1:Int))) (jS c 0 λF=>nW F λG=>jT G 6 λq=>nW q.1 λH=>chk (0≤a.1∧a.1< (q.2.1:Nat))<|jU H a.1 5 1 λr=>jS c 0 λI=>oI 51 [lP I,sv r] lS λj=>oL 2 [aI,aI,aP] (oN [aI,aI,aP] [lN 0,lN a.2.1,lP a.2.2.1] λb=>cond (decide (b.1< (j.2.1:Int))) (nW j.1 λJ=>chk (0≤b.1∧b.1< (j.2.1:Nat))<|jR J b.1 1 λk=>jS c 0 λK=>oI 52 [lP K,sv r,lN k] lS λL=>oI 47 [sv L,lN a.1,lN k,lP (some ⟨i,0,none⟩),lP (some ⟨c,0,none⟩),lP (some ⟨h,0,none⟩),lP (some ⟨f,0,none⟩)] (.tuple lX) λl=>cond (l.2.1 !=(0:Int)) (oJ (.tuple #[lP none,lN l.2.1])) (jS c 0 λm=>nW m λn=>jT n 6 λg=>jS c 0 λs=>nW s λt=>jT t 6 λo=>nW o.1 λu=>chk (0≤a.1∧a.1< (o.2.1:Nat))<|jU u a.1 5 2 λv=>jO #[lN k,lN l.1] 120 λM=>pH ((u.add (eE a.1 *5)).add 2) (sv v)<|pH (t.add 6) (sv o)<|jW c 0 (lP s)<|pH (n.add 6) (sv g)<|jW c 0 (lP m)<|pB (oD #[110,110] 110 #[sv v,.slice (some ⟨M,0,none⟩) 1 1]) lS λN=>pH (n.add 6) (sv g)<|jW c 0 (lP m)<|nW g.1 λO=>chk (0≤a.1∧a.1< (g.2.1:Nat))<|pN ((O.add (eE a.1 *5)).add 2) (sv N)<|oF [lN (wN b.1),lN b.2.1,lP b.2.2.1])) (oW 2 [lN b.1,lN b.2.1,lP b.2.2.1])) λw=>oF [lN (wN a.1),lN w.2.1,lP w.2.2.1]) (oW 0 [lN a.1,lN a.2.1,lP a.2.2.1])) λV=>jS c 0 λx=>jS f 0 λP=>oI 53 [lP P] lT λQ=>jW c 0 (lP x)<|nW x λR=>pN (R.add 7) (lN Q)<|jS c 0 λS=>oJ (.tuple #[lP S,lN 0]))
theorem PS(p_0:Pl6)(a:Int)(b:Int):Ab hC f24 [(aG p_0),(.int .i64 a),(.int .i64 b)] =LW p_0 a b:=nU
noncomputable def OS(a_0:nG):T:=nW a_0 λa=>jT a 6 λt2=>oJ (lN (t2.2.1:Int))
theorem Mh(a_0:nG):Ab hC f8 [(.pointer a_0)] =OS a_0:=nU
noncomputable def Mi(a_0:nG)(a:Int):T:=oI 74 [lP a_0,lN a] mF λt1=>oI 81 [sv t1.2.1] lS λt2=>oJ (sv t2)
theorem Ki(a_0:nG)(a:Int):Ab hC f133 [(.pointer a_0),(.int .i64 a)] =Mi a_0 a:=nU
noncomputable def Mj(a_0:nG)(a:Int):T:=oI 74 [lP a_0,lN a] mF λt1=>oI 132 [sv t1.2.2.1] lS λt2=>oJ (sv t2)
theorem Kj(a_0:nG)(a:Int):Ab hC f94 [(.pointer a_0),(.int .i64 a)] =Mj a_0 a:=nU
noncomputable def PT(a_0:nG)(d:Int)(b:Int):T:=oI 74 [lP a_0,lN d] mF λt1=>oL 0 lX (oN lX [lN 0,lN 0] λa=>lL a.1 t1.2.2.1.2.1 (lK t1.2.2.1.1 t1.2.2.1.2.1 a.1 λe=>jR e a.1 2 λt5=>jX e a.1 2 1 λt6=>jO #[lN 0,lN 0] 120 λc=>jZ c 0 t5<|jZ c 1 t6<|jY c 0 λt8=>cond (t8==b) (jY c 1 λf=>oJ (lN f)) (oF [lN (wN a.1),lN a.2.1])) (oW 0 [lN a.1,lN a.2.1])) λg=>oJ (lN (-1:Int))
theorem Ni(a_0:nG)(b:Int)(a:Int):Ab hC f40 [(.pointer a_0),(.int .i64 b),(.int .i64 a)] =PT a_0 b a:=nU
noncomputable def Nj(a_0:nG)(d:Int)(b:nG)(a e:Nat):T:=oV lV (lM (d< 0) (oF [.bool true]) (nW a_0 λf=>jT f 6 λt3=>oF [.bool (decide (d≥ (t3.2.1:Int)))])) λg=>cond g.1 (oJ (lN (-1:Int))) (oL 0 lX (oN lX [lN 0,lN d] λc=>lL c.1 a (lK b a c.1 λh=>jR h c.1 1 λt7=>oI 40 [lP a_0,lN c.2.1,lN t7] lT λt8=>lM (t8< 0) (oW 0 [lN c.1,lN t8]) (oF [lN (wN c.1),lN t8])) (oW 0 [lN c.1,lN c.2.1])) λi=>oJ (lN i.2.1))
theorem LX(a_0:nG)(d:Int)(a:nG)(b c:Nat):Ab hC f21 [(.pointer a_0),(.int .i64 d),(.slice a b c)] =Nj a_0 d a b c:=nU
noncomputable def PU(a_0:nG)(a:Int):T:=jO #[lO,lO,lO,lN 0,lN 0] 112 λr1=>oV lV (lM (a< 0) (oF [.bool true]) (nW a_0 λt=>jT t 6 λt4=>oF [.bool (decide (a≥ (t4.2.1:Int)))])) λu=>cond u.1 (kD r1 0<|kD r1 1<|kD r1 2<|jZ r1 3 0<|jZ r1 4 0<|jM r1 0 λh=>jM r1 1 λi=>jM r1 2 λj=>jY r1 3 λk=>jY r1 4 λl=>oJ (.agg #[sv h,sv i,sv j,lN k,lN l])) (nW a_0 λn=>jT n 6 λm=>lK m.1 m.2.1 a λb=>jN b a 5 λo=>jU b a 5 1 λp=>jU b a 5 2 λq=>jX b a 5 3 λr=>jX b a 5 4 λs=>jQ r1 0 o<|jQ r1 1 p<|jQ r1 2 q<|jZ r1 3 r<|jZ r1 4 s<|jM r1 0 λc=>jM r1 1 λd=>jM r1 2 λe=>jY r1 3 λf=>jY r1 4 λg=>oJ (.agg #[sv c,sv d,sv e,lN f,lN g]))
theorem Nk(a_0:nG)(a:Int):Ab hC f74 [(.pointer a_0),(.int .i64 a)] =PU a_0 a:=nU
noncomputable def LY(a_0:nG)(x_1:Int×Int×Unit):T:=jO #[lN x_1.1,lN x_1.2.1] 116 λr1=>nW a_0 λb=>jT b 2 λt3=>jY r1 0 λt4=>lK t3.1 t3.2.1 t4 λc=>jU c t4 3 1 λt6=>jY r1 1 λt7=>lM (t7≥ (t6.2.1:Int)) (oJ (lN (-1:Int))) (jY r1 1 λt8=>lK t6.1 t6.2.1 t8 λd=>jR d t8 1 λa=>oJ (lN a))
theorem Jq(a_0:nG)(a:Int×Int×Unit):Ab hC f82 [(.pointer a_0),(.agg #[(.int .i64 a.1),(.int .i64 a.2.1)])] =LY a_0 a:=nU
noncomputable def Kk(a_0:nG)(b:nG)(c d:Nat):T:=oI 81 [.slice b c d] lS λt1=>T.new (.map #[] 0) λJ=>oL 0 lY (oN lY [lN 0,sv t1] λf=>lL f.1 f.2.1.2.1 (oL 1 [aS] (lK f.2.1.1 f.2.1.2.1 f.1 λK=>jR K f.1 2 λt7=>jX K f.1 2 1 λt8=>oI 82 [lP a_0,.agg #[lN t7,lN t8]] lT λj=>oV lV (lM (j< 0) (oF [.bool true]) (nW a_0 λk=>M6 k λl m n o p q=>oI 30 [aH l m n o p q,lN j] lU λr=>cond r (oF [.bool true]) (pB (Instr.lookup 177 (.map (some J)) (lN j) false) lU λs=>oF [.bool s]))) λt=>cond t.1 (oW 1 [sv f.2.1]) (pB (Sem.bind (uG 177 (.map (some J)) (lN j) (.bool true)) λ_=>.pure undef) mG λM=>nW a_0 λu=>jT u 2 λh=>oL 2 lY (oN lY [lN 0,sv f.2.1] λa=>lL a.1 h.2.1 (lK h.1 h.2.1 a.1 λi=>jR i a.1 3 λv=>jU i a.1 3 1 λw=>jX i a.1 3 2 λx=>jO #[lN 0,lO,lN 0] 156 λg=>jZ g 0 v<|jQ g 1 w<|jZ g 2 x<|jO #[lN 0,lN 0] 116 λe=>jZ e 0 a.1<|jZ e 1 0<|oV lV (jY g 0 λy=>cond (y==j) (jY e 0 λz=>jY e 1 λA=>oI 83 [sv a.2.1,.agg #[lN z,lN A]] lU λB=>oF [.bool (!B)]) (oF [.bool false])) λC=>oV [aS] (cond C.1 (jY e 0 λD=>jY e 1 λE=>jO #[lN D,lN E] 116 λF=>pB (oD #[106,106] 106 #[sv a.2.1,.slice (some ⟨F,0,none⟩) 1 1]) lS λG=>oF [sv G]) (oF [sv a.2.1])) λH=>oF [lN (wN a.1),sv H.1]) (oW 2 [lN a.1,sv a.2.1])) λI=>oF [sv I.2.1])) λN=>oF [lN (wN f.1),sv N.1]) (oW 0 [lN f.1,sv f.2.1])) λL=>oI 84 [sv L.2.1,.func (.func 85) #[] #[]] mG λO=>oJ (sv L.2.1)
theorem JG(a_0:nG)(a:nG)(b c:Nat):Ab hC f49 [(.pointer a_0),(.slice a b c)] =Kk a_0 a b c:=nU
noncomputable def Kl(a_0:nG)(b:nG)(a d:Nat):T:=oL 0 lY (oN lY [lN 0,lO] λc=>lL c.1 a (lK b a c.1 λj=>jR j c.1 2 λt4=>jX j c.1 2 1 λt5=>jO #[lN 0,lN 0] 116 λe=>jZ e 0 t4<|jZ e 1 t5<|jY e 0 λt7=>jY e 1 λt8=>oI 82 [lP a_0,.agg #[lN t7,lN t8]] lT λk=>oV [aS] (lM (k≥ 0) (jO #[lN k] 3 λf=>pB (oD #[30,30] 30 #[sv c.2.1,.slice (some ⟨f,0,none⟩) 1 1]) lS λg=>oF [sv g]) (oF [sv c.2.1])) λh=>oF [lN (wN c.1),sv h.1]) (oW 0 [lN c.1,sv c.2.1])) λl=>oI 87 [sv l.2.1] mG λm=>oI 88 [sv l.2.1] lS λi=>oJ (sv i)
theorem JH(a_0:nG)(a:nG)(b c:Nat):Ab hC f51 [(.pointer a_0),(.slice a b c)] =Kl a_0 a b c:=nU
noncomputable def Nn(a_0:nG)(b:nG)(a d:Nat)(e:Int):T:=oL 0 lY (oN lY [lN 0,lO] λc=>lL c.1 a (lK b a c.1 λl=>jR l c.1 2 λt4=>jX l c.1 2 1 λt5=>jO #[lN 0,lN 0] 116 λf=>jZ f 0 t4<|jZ f 1 t5<|jY f 0 λt7=>jY f 1 λt8=>oI 82 [lP a_0,.agg #[lN t7,lN t8]] lT λm=>oV [aS] (cond (m==e) (jY f 0 λg=>jY f 1 λh=>jO #[lN g,lN (wN h)] 116 λi=>pB (oD #[106,106] 106 #[sv c.2.1,.slice (some ⟨i,0,none⟩) 1 1]) lS λj=>oF [sv j]) (oF [sv c.2.1])) λk=>oF [lN (wN c.1),sv k.1]) (oW 0 [lN c.1,sv c.2.1])) λn=>oJ (sv n.2.1)
theorem LZ(a_0:nG)(a:nG)(b c:Nat)(d:Int):Ab hC f52 [(.pointer a_0),(.slice a b c),(.int .i64 d)] =Nn a_0 a b c d:=nU
noncomputable def DV(a:nG)(b c:Nat):T:=cond (rV a) (oJ lO) (jO #[] 116 λr1=>pB (oD #[106,106] 106 #[.slice (some ⟨r1,0,none⟩) 0 0,.slice a b c]) lS λt2=>oJ (sv t2))
theorem FX(a:nG)(b c:Nat):Ab hC f81 [(.slice a b c)] =DV a b c:=nU
noncomputable def DW(a:nG)(b c:Nat):T:=cond (rV a) (oJ lO) (jO #[] 120 λr1=>pB (oD #[110,110] 110 #[.slice (some ⟨r1,0,none⟩) 0 0,.slice a b c]) lS λt2=>oJ (sv t2))
theorem FY(a:nG)(b c:Nat):Ab hC f132 [(.slice a b c)] =DW a b c:=nU
noncomputable def OT(g_0:Slc×Slc×Slc×nI×Slc×Unit):T:=jO #[sv g_0.1,sv g_0.2.1,sv g_0.2.2.1,.string g_0.2.2.2.1,sv g_0.2.2.2.2.1] 98 λr1=>jO #[lO,lO,lO,lO,lO,lO] 32 λb=>jM r1 0 λt3=>jM r1 1 λt4=>jM r1 2 λt5=>kF r1 3 λt6=>jM r1 4 λt7=>oI 75 [.agg #[sv t3,sv t4,sv t5,.string t6,sv t7]] lU λt8=>cond (!t8) (kD b 0<|kD b 1<|kD b 2<|kD b 3<|kD b 4<|kD b 5<|L6 b λa7 U V W X Y=>oJ (.tuple #[aH a7 U V W X Y,lN 1,.string mL])) (jO #[.string {data:=#[36,101,110,100]}] 9 λh3=>jO #[lN 0] 3 λh4=>jO #[lN 0] 3 λh5=>jO #[.string mL] 9 λh6=>jO #[lO,lO,lO,lO,lO,lO] 32 λa=>jV a 0 (.slice (some ⟨h3,0,none⟩) 1 1)<|kD a 1<|kD a 2<|jV a 3 (.slice (some ⟨h4,0,none⟩) 1 1)<|jV a 4 (.slice (some ⟨h5,0,none⟩) 1 1)<|jV a 5 (.slice (some ⟨h6,0,none⟩) 1 1)<|oL 0 lZ (oN lZ [lN 0] λh=>jM r1 4 λh7=>lL h.1 h7.2.1 (jM a 1 λh8=>jM r1 4 λa8=>lK a8.1 a8.2.1 h.1 λh9=>kG h9 h.1 4 λi0=>oI 76 [sv h8,.string i0] lT λi1=>oV [] (lM (i1< 0) (jM a 1 λa9=>jM r1 4 λb0=>lK b0.1 b0.2.1 h.1 λi2=>kG i2 h.1 4 λi3=>jO #[.string i3] 9 λi4=>kJ a 1 a9<|pB (oD #[28,28] 28 #[sv a9,.slice (some ⟨i4,0,none⟩) 1 1]) lS λi5=>jQ a 1 i5<|oF []) (oF [])) λm8=>jM a 5 λb1=>jM r1 4 λb2=>lK b2.1 b2.2.1 h.1 λi6=>kH i6 h.1 4 3 λi7=>jO #[.string i7] 9 λi8=>kJ a 5 b1<|pB (oD #[28,28] 28 #[sv b1,.slice (some ⟨i8,0,none⟩) 1 1]) lS λi9=>jQ a 5 i9<|oF [lN (wN h.1)]) (oW 0 [lN h.1])) λm9=>oL 2 [aI,.atom .string,aI] (oN [aI,.atom .string,aI] [lN 0,.string mL,lN 0] λf=>jM r1 0 λj0=>lL f.1 j0.2.1 (jM a 1 λj1=>jM r1 0 λb3=>lK b3.1 b3.2.1 f.1 λj2=>kG j2 f.1 4 λj3=>oI 76 [sv j1,.string j3] lT λj4=>lM (j4≥ 0) (jM r1 0 λZ=>lK Z.1 Z.2.1 f.1 λb4=>kG b4 f.1 4 λb5=>kD b 0<|kD b 1<|kD b 2<|kD b 3<|kD b 4<|kD b 5<|pH (b4.add (eE f.1 *4)) (.string b5)<|kJ r1 0 Z<|L6 b λa0 a1 a2 a3 a4 a5=>oJ (.tuple #[aH a0 a1 a2 a3 a4 a5,lN 15,.string b5])) (jM a 0 λb6=>jM r1 0 λb7=>lK b7.1 b7.2.1 f.1 λj5=>kG j5 f.1 4 λj6=>jO #[.string j6] 9 λj7=>kJ a 0 b6<|pB (oD #[28,28] 28 #[sv b6,.slice (some ⟨j7,0,none⟩) 1 1]) lS λj8=>jQ a 0 j8<|jM a 3 λa6=>jM r1 0 λj9=>jM r1 1 λk0=>jM r1 2 λk1=>kF r1 3 λk2=>jM r1 4 λk3=>jM r1 0 λb8=>lK b8.1 b8.2.1 f.1 λk4=>kG k4 f.1 4 λk5=>oI 77 [.agg #[sv j9,sv k0,sv k1,.string k2,sv k3],.string k5] lT λk6=>kJ a 3 a6<|jO #[lN k6] 3 λk7=>kJ a 3 a6<|pB (oD #[30,30] 30 #[sv a6,.slice (some ⟨k7,0,none⟩) 1 1]) lS λk8=>jQ a 3 k8<|oF [lN (wN f.1),.string f.2.1,lN f.2.2.1])) (oW 2 [lN f.1,.string f.2.1,lN f.2.2.1])) λb9=>oL 4 lZ (oN lZ [lN 0] λl=>jM r1 2 λk9=>lL l.1 k9.2.1 (jM a 4 λc0=>jM r1 2 λc1=>lK c1.1 c1.2.1 l.1 λl0=>jR l0 l.1 2 λl1=>jO #[lN l1] 3 λl2=>kJ a 4 c0<|pB (oD #[30,30] 30 #[sv c0,.slice (some ⟨l2,0,none⟩) 1 1]) lS λl3=>jQ a 4 l3<|oF [lN (wN l.1)]) (oW 4 [lN l.1])) λn0=>jM a 0 λl4=>jM a 1 λl5=>L6 a λl6 l7 l8 l9 m0 m1=>kF r1 3 λm2=>oI 78 [aH l6 l7 l8 l9 m0 m1,.string m2] lT λm3=>jO #[lN m3] 3 λm4=>jO #[lN (lQ ((l4.2.1:Int)+(l5.2.1:Int))),.slice (some ⟨m4,0,none⟩) 1 1,lN 0] 156 λm5=>jV a 2 (.slice (some ⟨m5,0,none⟩) 1 1)<|oL 6 [aI,.atom .string,aI] (oN [aI,.atom .string,aI] [lN 0,.string b9.2.1,lN b9.2.2.1] λg=>jM r1 4 λm6=>lL g.1 m6.2.1 (jM r1 4 λL=>lK L.1 L.2.1 g.1 λj=>kG j g.1 4 λc2=>jU j g.1 4 1 λc3=>kH j g.1 4 2 λc4=>kH j g.1 4 3 λc5=>jO #[.string mL,lO,.string mL,.string mL] 165 λc=>jV c 0 (.string c2)<|jQ c 1 c3<|jV c 2 (.string c4)<|jV c 3 (.string c5)<|L6 a λc6 c7 c8 c9 d0 d1=>kF c 0 λd2=>oI 78 [aH c6 c7 c8 c9 d0 d1,.string d2] lT λd3=>jO #[lN 0,lO,lN 0] 156 λe=>jZ e 0 d3<|kD e 1<|jZ e 2 0<|oL 8 [aI,.atom .string,aI] (oN [aI,.atom .string,aI] [lN 0,.string g.2.1,lN g.2.2.1] λd=>jM c 1 λd4=>lL d.1 d4.2.1 (L6 a λd5 d6 d7 d8 d9 e0=>jM c 1 λM=>lK M.1 M.2.1 d.1 λe1=>kG e1 d.1 1 λe2=>oI 78 [aH d5 d6 d7 d8 d9 e0,.string e2] lT λi=>lM (i< 0) (jM c 1 λm=>lK m.1 m.2.1 d.1 λN=>kG N d.1 1 λO=>kD b 0<|kD b 1<|kD b 2<|kD b 3<|kD b 4<|kD b 5<|pH (N.add (eE d.1 *1)) (.string O)<|kJ c 1 m<|L6 b λn o p q r s=>oJ (.tuple #[aH n o p q r s,lN 16,.string O])) (jM e 1 λe3=>jO #[lN i] 3 λe4=>pB (oD #[30,30] 30 #[sv e3,.slice (some ⟨e4,0,none⟩) 1 1]) lS λe5=>jQ e 1 e5<|jM a 0 λe6=>oV [] (lL i e6.2.1 (jM a 3 λP=>lK P.1 P.2.1 i λe7=>jR e7 i 1 λe8=>jZ e 2 e8<|oF []) (oF [])) λm7=>oF [lN (wN d.1),.string d.2.1,lN d.2.2.1])) (oW 8 [lN d.1,.string d.2.1,lN d.2.2.1])) λk=>kF c 2 λe9=>oV [.atom .string,aI] (cond (!(mE e9==mE mL)) (jM r1 0 λf0=>jM r1 1 λf1=>jM r1 2 λf2=>kF r1 3 λf3=>jM r1 4 λf4=>kF c 2 λf5=>oI 77 [.agg #[sv f0,sv f1,sv f2,.string f3,sv f4],.string f5] lT λf6=>jZ e 2 f6<|jY e 2 λf7=>cond (f7==(0:Int)) (kF c 2 λQ=>kD b 0<|kD b 1<|kD b 2<|kD b 3<|kD b 4<|kD b 5<|jW c 2 (.string Q)<|L6 b λt u v w x y=>oJ (.tuple #[aH t u v w x y,lN 16,.string Q])) (oF [.string k.2.1,lN k.2.2.1])) (oF [.string k.2.1,lN k.2.2.1])) λR=>jM a 2 λf8=>jY e 0 λf9=>jM e 1 λg0=>jY e 2 λg1=>jO #[lN f9,sv g0,lN g1] 156 λg2=>pB (oD #[29,29] 29 #[sv f8,.slice (some ⟨g2,0,none⟩) 1 1]) lS λg3=>jQ a 2 g3<|oF [lN (wN g.1),.string R.1,lN R.2.1]) (oW 6 [lN g.1,.string g.2.1,lN g.2.2.1])) λn1=>jM a 1 λg4=>kF r1 3 λg5=>oI 76 [sv g4,.string g5] lT λg6=>lM (g6< 0) (kF r1 3 λS=>kD b 0<|kD b 1<|kD b 2<|kD b 3<|kD b 4<|kD b 5<|jW r1 3 (.string S)<|L6 b λz A B C D E=>oJ (.tuple #[aH z A B C D E,lN 16,.string S])) (L6 a λg7 g8 g9 h0 h1 h2=>jQ b 0 g7<|jQ b 1 g8<|jQ b 2 g9<|jQ b 3 h0<|jQ b 4 h1<|jQ b 5 h2<|L6 b λF G H I J K=>oJ (.tuple #[aH F G H I J K,lN 0,.string mL])))
theorem Mk(g_0:Slc×Slc×Slc×nI×Slc×Unit):Ab hC f41 [(.agg #[(sv g_0.1),(sv g_0.2.1),(sv g_0.2.2.1),(.string g_0.2.2.2.1),(sv g_0.2.2.2.2.1)])] =OT g_0:=nU
noncomputable def HA(s_0:Int×Int×Slc×Slc×Slc×Slc×Slc×Unit):T:=jO #[.int .u8 s_0.1,.int .u8 s_0.2.1,sv s_0.2.2.1,sv s_0.2.2.2.1,sv s_0.2.2.2.2.1,sv s_0.2.2.2.2.2.1,sv s_0.2.2.2.2.2.2.1] 25 λr1=>jO #[lO,lO,lO,.string mL,lO] 98 λr=>jP r1 0 λt3=>chk ((5:Int)≠0)<|jP r1 1 λt4=>chk ((4:Int)≠0)<|jO #[lO,lO,lO,.string mL,lO] 98 λa=>kD a 0<|kD a 1<|kD a 2<|jV a 3 (.string {data:=#[83]})<|kD a 4<|oL 0 lZ (oN lZ [lN 0] λo=>jM r1 5 λt8=>lL o.1 t8.2.1 (jM a 2 λR=>jM r1 5 λz=>lK z.1 z.2.1 o.1 λC=>kM C o.1 1 λD=>chk ((3:Int)≠0)<|chk (0≤o.1∧o.1≤(wN o.1)∧(wN o.1) ≤(nZ {data:=#[112,113,114,115,116]} :Nat))<|jO #[.string (hM {data:=#[112,113,114,115,116]} (eE o.1) (eE (wN o.1)))] 9 λS=>pH (C.add (eE o.1 *1)) (.int .u8 D)<|kJ r1 5 z<|kJ a 2 R<|jO #[lN (lQ ((lQ (bO D 3))+(1:Int))),.slice (some ⟨S,0,none⟩) 1 1] 172 λU=>kJ a 2 R<|pB (oD #[95,95] 95 #[sv R,.slice (some ⟨U,0,none⟩) 1 1]) lS λV=>jQ a 2 V<|oF [lN (wN o.1)]) (oW 0 [lN o.1])) λz6=>oL 2 lZ (oN lZ [lN 0] λb=>lM (b.1< (lQ ((lQ (bO t3 5))+(1:Int)))) (chk (0≤b.1∧b.1≤(wN b.1)∧(wN b.1) ≤(nZ {data:=#[97,98,99,100,101]} :Nat))<|jM a 0 λW=>jO #[.string (hM {data:=#[97,98,99,100,101]} (eE b.1) (eE (wN b.1))),.string (hM {data:=#[97,98,99,100,101]} (eE b.1) (eE (wN b.1))),.string mL,.bool false] 169 λX=>pB (oD #[93,93] 93 #[sv W,.slice (some ⟨X,0,none⟩) 1 1]) lS λY=>jQ a 0 Y<|jM r1 6 λZ=>oV [] (lL b.1 Z.2.1 (jM r1 6 λE=>lK E.1 E.2.1 b.1 λa0=>kM a0 b.1 1 λd=>jM a 2 λc=>chk ((lQ ((c.2.1:Int)+(1:Int)))≠0)<|oV [] (lM ((bO (lQ d) (lQ ((c.2.1:Int)+(1:Int)))) >(0:Int)) (jM a 2 λe=>jM a 2 λn=>nW n.1 λp=>chk (0≤(lQ ((bO (lQ d) (lQ ((c.2.1:Int)+(1:Int)))) - 1))∧(lQ ((bO (lQ d) (lQ ((c.2.1:Int)+(1:Int)))) - 1)) < (n.2.1:Nat))<|jU p (lQ ((bO (lQ d) (lQ ((c.2.1:Int)+(1:Int)))) - 1)) 2 1 λk=>T.both (jO #[] 9 λF=>pH ((p.add (eE (lQ ((bO (lQ d) (lQ ((c.2.1:Int)+(1:Int)))) - 1)) *2)).add 1) (sv k)<|kJ a 2 n<|kJ a 2 e<|T.both (pB (oD #[28,28] 28 #[.slice (some ⟨F,0,none⟩) 0 0,sv k]) lS λa1=>kJ a 2 e<|jO #[.string (hM {data:=#[97,98,99,100,101]} (eE b.1) (eE (wN b.1)))] 9 λa2=>kJ a 2 e<|pB (oD #[28,28] 28 #[sv a1,.slice (some ⟨a2,0,none⟩) 1 1]) lS λa3=>kJ a 2 e<|nW e.1 λa4=>chk (0≤(lQ ((bO (lQ d) (lQ ((c.2.1:Int)+(1:Int)))) - 1))∧(lQ ((bO (lQ d) (lQ ((c.2.1:Int)+(1:Int)))) - 1)) < (e.2.1:Nat))<|pN ((a4.add (eE (lQ ((bO (lQ d) (lQ ((c.2.1:Int)+(1:Int)))) - 1)) *2)).add 1) (sv a3)<|oF []) (jO #[.string (hM {data:=#[97,98,99,100,101]} (eE b.1) (eE (wN b.1)))] 9 λa5=>pH ((p.add (eE (lQ ((bO (lQ d) (lQ ((c.2.1:Int)+(1:Int)))) - 1)) *2)).add 1) (sv k)<|kJ a 2 n<|kJ a 2 e<|pB (oD #[28,28] 28 #[.slice (some ⟨F,0,none⟩) 0 0,sv k]) lS λa6=>kJ a 2 e<|pB (oD #[28,28] 28 #[sv a6,.slice (some ⟨a5,0,none⟩) 1 1]) lS λa7=>kJ a 2 e<|nW e.1 λa8=>chk (0≤(lQ ((bO (lQ d) (lQ ((c.2.1:Int)+(1:Int)))) - 1))∧(lQ ((bO (lQ d) (lQ ((c.2.1:Int)+(1:Int)))) - 1)) < (e.2.1:Nat))<|pN ((a8.add (eE (lQ ((bO (lQ d) (lQ ((c.2.1:Int)+(1:Int)))) - 1)) *2)).add 1) (sv a7)<|oF [])) (jO #[.string (hM {data:=#[97,98,99,100,101]} (eE b.1) (eE (wN b.1)))] 9 λa9=>pH ((p.add (eE (lQ ((bO (lQ d) (lQ ((c.2.1:Int)+(1:Int)))) - 1)) *2)).add 1) (sv k)<|kJ a 2 n<|kJ a 2 e<|jO #[] 9 λb0=>pH ((p.add (eE (lQ ((bO (lQ d) (lQ ((c.2.1:Int)+(1:Int)))) - 1)) *2)).add 1) (sv k)<|kJ a 2 n<|kJ a 2 e<|pB (oD #[28,28] 28 #[.slice (some ⟨b0,0,none⟩) 0 0,sv k]) lS λb1=>kJ a 2 e<|pB (oD #[28,28] 28 #[sv b1,.slice (some ⟨a9,0,none⟩) 1 1]) lS λb2=>kJ a 2 e<|nW e.1 λb3=>chk (0≤(lQ ((bO (lQ d) (lQ ((c.2.1:Int)+(1:Int)))) - 1))∧(lQ ((bO (lQ d) (lQ ((c.2.1:Int)+(1:Int)))) - 1)) < (e.2.1:Nat))<|pN ((b3.add (eE (lQ ((bO (lQ d) (lQ ((c.2.1:Int)+(1:Int)))) - 1)) *2)).add 1) (sv b2)<|oF [])) (oF [])) λe2=>oF []) (oF [])) λe3=>oF [lN (wN b.1)]) (oW 2 [lN b.1])) λe4=>oL 4 lZ (oN lZ [lN 0] λf=>jM r1 2 λb4=>lL f.1 b4.2.1 (jM r1 2 λA=>lK A.1 A.2.1 f.1 λG=>kM G f.1 1 λs=>chk ((lQ ((lQ (bO t4 4))+(1:Int)))≠0)<|jM r1 2 λB=>lK B.1 B.2.1 f.1 λH=>kM H f.1 1 λt=>chk ((lQ ((lQ (bO t4 4))+(1:Int)))≠0)<|chk (0≤(bO (lQ s) (lQ ((lQ (bO t4 4))+(1:Int))))∧(bO (lQ s) (lQ ((lQ (bO t4 4))+(1:Int)))) ≤(lQ ((bO (lQ t) (lQ ((lQ (bO t4 4))+(1:Int))))+(1:Int)))∧(lQ ((bO (lQ t) (lQ ((lQ (bO t4 4))+(1:Int))))+(1:Int))) ≤(nZ {data:=#[83,84,85,86]} :Nat))<|jO #[.string mL,lO,.string mL,.string mL] 165 λh=>pH (H.add (eE f.1 *1)) (.int .u8 t)<|kJ r1 2 B<|pH (G.add (eE f.1 *1)) (.int .u8 s)<|kJ r1 2 A<|jV h 0 (.string (hM {data:=#[83,84,85,86]} (eE (bO (lQ s) (lQ ((lQ (bO t4 4))+(1:Int))))) (eE (lQ ((bO (lQ t) (lQ ((lQ (bO t4 4))+(1:Int))))+(1:Int))))))<|kD h 1<|jV h 2 (.string mL)<|jV h 3 (.string mL)<|jM r1 3 λb5=>oV [] (lL f.1 b5.2.1 (oL 6 lZ (oN lZ [lN 0] λq=>jM r1 3 λI=>lK I.1 I.2.1 f.1 λb6=>jN b6 f.1 1 λb7=>lL q.1 b7.2.1 (jM r1 3 λJ=>lK J.1 J.2.1 f.1 λb8=>jN b8 f.1 1 λK=>lK K.1 K.2.1 q.1 λb9=>kM b9 q.1 1 λg=>chk ((lQ ((lQ ((lQ (bO t3 5))+(1:Int)))+(lQ ((lQ (bO t4 4))+(1:Int)))))≠0)<|chk ((5:Int)≠0)<|chk ((5:Int)≠0)<|chk (0≤(bO (bO (lQ g) (lQ ((lQ ((lQ (bO t3 5))+(1:Int)))+(lQ ((lQ (bO t4 4))+(1:Int)))))) 5)∧(bO (bO (lQ g) (lQ ((lQ ((lQ (bO t3 5))+(1:Int)))+(lQ ((lQ (bO t4 4))+(1:Int)))))) 5) ≤(lQ ((bO (bO (lQ g) (lQ ((lQ ((lQ (bO t3 5))+(1:Int)))+(lQ ((lQ (bO t4 4))+(1:Int)))))) 5)+(1:Int)))∧(lQ ((bO (bO (lQ g) (lQ ((lQ ((lQ (bO t3 5))+(1:Int)))+(lQ ((lQ (bO t4 4))+(1:Int)))))) 5)+(1:Int))) ≤(nZ {data:=#[97,98,99,100,101]} :Nat))<|oV [.atom .string] (lM ((bO (lQ g) (lQ ((lQ ((lQ (bO t3 5))+(1:Int)))+(lQ ((lQ (bO t4 4))+(1:Int)))))) ≥ (lQ ((lQ (bO t3 5))+(1:Int)))) (chk (0≤(lQ ((bO (lQ g) (lQ ((lQ ((lQ (bO t3 5))+(1:Int)))+(lQ ((lQ (bO t4 4))+(1:Int)))))) - (lQ ((lQ (bO t3 5))+(1:Int)))))∧(lQ ((bO (lQ g) (lQ ((lQ ((lQ (bO t3 5))+(1:Int)))+(lQ ((lQ (bO t4 4))+(1:Int)))))) - (lQ ((lQ (bO t3 5))+(1:Int))))) ≤(lQ ((lQ ((bO (lQ g) (lQ ((lQ ((lQ (bO t3 5))+(1:Int)))+(lQ ((lQ (bO t4 4))+(1:Int)))))) - (lQ ((lQ (bO t3 5))+(1:Int)))))+(1:Int)))∧(lQ ((lQ ((bO (lQ g) (lQ ((lQ ((lQ (bO t3 5))+(1:Int)))+(lQ ((lQ (bO t4 4))+(1:Int)))))) - (lQ ((lQ (bO t3 5))+(1:Int)))))+(1:Int))) ≤(nZ {data:=#[83,84,85,86]} :Nat))<|oF [.string (hM {data:=#[83,84,85,86]} (eE (lQ ((bO (lQ g) (lQ ((lQ ((lQ (bO t3 5))+(1:Int)))+(lQ ((lQ (bO t4 4))+(1:Int)))))) - (lQ ((lQ (bO t3 5))+(1:Int)))))) (eE (lQ ((lQ ((bO (lQ g) (lQ ((lQ ((lQ (bO t3 5))+(1:Int)))+(lQ ((lQ (bO t4 4))+(1:Int)))))) - (lQ ((lQ (bO t3 5))+(1:Int)))))+(1:Int)))))]) (oF [.string (hM {data:=#[97,98,99,100,101]} (eE (bO (bO (lQ g) (lQ ((lQ ((lQ (bO t3 5))+(1:Int)))+(lQ ((lQ (bO t4 4))+(1:Int)))))) 5)) (eE (lQ ((bO (bO (lQ g) (lQ ((lQ ((lQ (bO t3 5))+(1:Int)))+(lQ ((lQ (bO t4 4))+(1:Int)))))) 5)+(1:Int)))))])) λc0=>jM h 1 λc1=>jO #[.string c0.1] 9 λc2=>pB (oD #[28,28] 28 #[sv c1,.slice (some ⟨c2,0,none⟩) 1 1]) lS λc3=>jQ h 1 c3<|oF [lN (wN q.1)]) (oW 6 [lN q.1])) λe5=>oF []) (oF [])) λe6=>jM r1 4 λc4=>oV [] (lL f.1 c4.2.1 (jM r1 4 λL=>lK L.1 L.2.1 f.1 λc5=>kM c5 f.1 1 λl=>jM a 2 λj=>chk ((lQ ((j.2.1:Int)+(1:Int)))≠0)<|oV [] (lM ((bO (lQ l) (lQ ((j.2.1:Int)+(1:Int)))) >(0:Int)) (chk (0≤(lQ ((bO (lQ l) (lQ ((j.2.1:Int)+(1:Int)))) - 1))∧(lQ ((bO (lQ l) (lQ ((j.2.1:Int)+(1:Int)))) - 1)) ≤(bO (lQ l) (lQ ((j.2.1:Int)+(1:Int))))∧(bO (lQ l) (lQ ((j.2.1:Int)+(1:Int)))) ≤(nZ {data:=#[112,113,114,115,116]} :Nat))<|jV h 2 (.string (hM {data:=#[112,113,114,115,116]} (eE (lQ ((bO (lQ l) (lQ ((j.2.1:Int)+(1:Int)))) - 1))) (eE (bO (lQ l) (lQ ((j.2.1:Int)+(1:Int)))))))<|oF []) (oF [])) λe7=>oF []) (oF [])) λe8=>jM a 4 λc6=>kF h 0 λc7=>jM h 1 λc8=>kF h 2 λc9=>kF h 3 λd0=>jO #[.string c7,sv c8,.string c9,.string d0] 165 λd1=>pB (oD #[96,96] 96 #[sv c6,.slice (some ⟨d1,0,none⟩) 1 1]) lS λd2=>jQ a 4 d2<|oF [lN (wN f.1)]) (oW 4 [lN f.1])) λe9=>oL 8 lZ (oN lZ [lN 0] λi=>lM (i.1< (lQ ((lQ (bO t4 4))+(1:Int)))) (chk (0≤i.1∧i.1≤(wN i.1)∧(wN i.1) ≤(nZ {data:=#[83,84,85,86]} :Nat))<|oL 10 lW (oN lW [lN 0,.bool false] λm=>jM a 4 λd3=>lL m.1 d3.2.1 (oV lV (cond m.2.1 (oF [.bool true]) (jM a 4 λM=>lK M.1 M.2.1 m.1 λd4=>kG d4 m.1 4 λd5=>oF [.bool (mE d5==mE (hM {data:=#[83,84,85,86]} (eE i.1) (eE (wN i.1))))])) λd6=>oF [lN (wN m.1),.bool d6.1]) (oW 10 [lN m.1,.bool m.2.1])) λd7=>oV [] (cond (!d7.2.1) (jM a 4 λd8=>jO #[.string (hM {data:=#[83,84,85,86]} (eE i.1) (eE (wN i.1))),lO,.string mL,.string mL] 165 λd9=>pB (oD #[96,96] 96 #[sv d8,.slice (some ⟨d9,0,none⟩) 1 1]) lS λe0=>jQ a 4 e0<|oF []) (oF [])) λf0=>oF [lN (wN i.1)]) (oW 8 [lN i.1])) λf1=>jM a 0 λe1=>jM a 1 λN=>jM a 2 λO=>kF a 3 λP=>jM a 4 λQ=>jQ r 0 e1<|jQ r 1 N<|jQ r 2 O<|jV r 3 (.string P)<|jQ r 4 Q<|jM r 0 λu=>jM r 1 λv=>jM r 2 λw=>kF r 3 λx=>jM r 4 λy=>oJ (.agg #[sv u,sv v,sv w,.string x,sv y])
theorem GS(s_0:Int×Int×Slc×Slc×Slc×Slc×Slc×Unit):Ab hC f42 [(.agg #[(.int .u8 s_0.1),(.int .u8 s_0.2.1),(sv s_0.2.2.1),(sv s_0.2.2.2.1),(sv s_0.2.2.2.2.1),(sv s_0.2.2.2.2.2.1),(sv s_0.2.2.2.2.2.2.1)])] =HA s_0:=nU
noncomputable def Ul(a:Int):T:=oI 79 [lN a] lT λt1=>jO #[lN t1,lN 0,lN 0] 175 λb=>oJ (lP (some ⟨b,0,none⟩))
theorem SH(a:Int):Ab hC f46 [(.int .i64 a)] =Ul a:=nU
noncomputable def JI(a:nG)(b c:Nat)(f:Int)(g:Int)(h:Nat)(d:Nat)(q:Nat)(r:Nat):T:=kN h 0 λt1=>oI 48 [.slice a b c] (.one (.atom .string)) λt2=>jW h 0 (.map t1)<|pB (Instr.lookup 105 (.map t1) (.string t2) true) (.tuple lW) λt3=>cond t3.2.1 (oJ (.tuple #[lN t3.1,lN 0])) (jS d 0 λt4=>oI 49 [lP t4,.slice a b c] lS λt5=>jO #[lO,lO,lO,lN 0,lN 0] 112 λe=>jV e 0 (.slice a b c)<|jQ e 1 t5<|kD e 2<|jZ e 3 f<|jZ e 4 g<|jS q 0 λt7=>oI 50 [lP t7,lN 1] lT λt8=>oV lZ (cond (t8==(0:Int)) (jS r 0 λs=>jM e 1 λt=>oI 50 [lP s,lN (t.2.1:Int)] lT λu=>oF [lN u]) (oF [lN t8])) λH=>kN h 0 λj=>jS d 0 λk=>nW k λl=>jT l 6 λm=>oI 48 [.slice a b c] (.one (.atom .string)) λv=>pH (l.add 6) (sv m)<|jW d 0 (lP k)<|jW h 0 (.map j)<|pB (Sem.bind (uG 105 (.map j) (.string v) (lN (m.2.1:Int))) λ_=>.pure undef) mG λI=>jS d 0 λi=>jS d 0 λn=>nW n λo=>jT o 6 λp=>jM e 0 λw=>jM e 1 λx=>jM e 2 λy=>jY e 3 λz=>jY e 4 λA=>jO #[sv w,sv x,sv y,lN z,lN A] 112 λB=>pH (o.add 6) (sv p)<|jW d 0 (lP n)<|jW d 0 (lP i)<|pB (oD #[73,73] 73 #[sv p,.slice (some ⟨B,0,none⟩) 1 1]) lS λC=>jW d 0 (lP i)<|nW i λD=>pN (D.add 6) (sv C)<|jS d 0 λE=>nW E λF=>jT F 6 λG=>oJ (.tuple #[lN (bD .i64 ((G.2.1:Int) - 1)),lN H.1]))
theorem No(a:nG)(b c:Nat)(d:Int)(e:Int)(f:Nat)(g:Nat)(h:Nat)(i:Nat):Ab hC f47 [(.slice a b c),(.int .i64 d),(.int .i64 e),(.pointer (some ⟨f,0,none⟩)),(.pointer (some ⟨g,0,none⟩)),(.pointer (some ⟨h,0,none⟩)),(.pointer (some ⟨i,0,none⟩))] =JI a b c d e f g h i:=nU
noncomputable def OU(b:nG)(a d:Nat):T:=oL 0 lY (oN lY [lN 0,lO] λc=>cond (decide (c.1< ((a:Nat):Int))) (nW b λl=>chk (0≤c.1∧c.1< (a:Nat))<|jR l c.1 2 λt4=>jX l c.1 2 1 λt5=>jO #[lN 0,lN 0] 116 λe=>jZ e 0 t4<|jZ e 1 t5<|jY e 0 λt7=>oI 80 [sv c.2.1,lN t7,lN 10] lS λt8=>jO #[.int .u8 46] 5 λm=>pB (oD #[22,22] 22 #[sv t8,.slice (some ⟨m,0,none⟩) 1 1]) lS λf=>jY e 1 λg=>oI 80 [sv f,lN g,lN 10] lS λh=>jO #[.int .u8 32] 5 λi=>pB (oD #[22,22] 22 #[sv h,.slice (some ⟨i,0,none⟩) 1 1]) lS λj=>oF [lN (wN c.1),sv j]) (oW 0 [lN c.1,sv c.2.1])) λn=>pB (convert 22 9 (sv n.2.1)) (.one (.atom .string)) λk=>oJ (.string k)
theorem Q1(a:nG)(b c:Nat):Ab hC f48 [(.slice a b c)] =OU a b c:=nU
noncomputable def Nq(a:nG)(b:Int):T:=lM (b< 0) (oJ (lN 1)) (oI 86 [lP a] lT λt1=>lM (b>t1) (oJ (lN 5)) (nW a λc=>kO c 1 λt3=>nW a λd=>pN (d.add 1) (lN (lQ (t3+b)))<|nW a λe=>kO e 2 λt6=>nW a λf=>kO f 1 λt8=>nW a λg=>pN (g.add 2) (lN (if t8>t6 then t8 else t6))<|oJ (lN 0)))
theorem La(a:nG)(b:Int):Ab hC f50 [(.pointer a),(.int .i64 b)] =Nq a b:=nU
noncomputable def Nr(a:nG):T:=nW a λb=>kO b 1 λt2=>oJ (lN t2)
theorem Lb(a:nG):Ab hC f53 [(.pointer a)] =Nr a:=nU
noncomputable def Ns(a:nG):T:=nW a λb=>kQ b λt2=>nW a λc=>kO c 1 λt4=>oJ (lN (lQ (t2 - t4)))
theorem Lc(a:nG):Ab hC f86 [(.pointer a)] =Ns a:=nU
noncomputable def Tg(a:Int):T:=oJ (lN (if(if 1099511627776 <a then 1099511627776 else a) >(0:Int) then(if 1099511627776 <a then 1099511627776 else a) else 0))
theorem Q2(a:Int):Ab hC f79 [(.int .i64 a)] =Tg a:=nU
noncomputable def Ld(g_0:Slc×Slc×Slc×nI×Slc×Unit):T:=jO #[sv g_0.1,sv g_0.2.1,sv g_0.2.2.1,.string g_0.2.2.2.1,sv g_0.2.2.2.2.1] 98 λr1=>oV lV (jM r1 0 λt3=>lM ((t3.2.1:Int) >(20:Int)) (oF [.bool true]) (jM r1 1 λt4=>lM ((t4.2.1:Int) >(4:Int)) (oF [.bool true]) (jM r1 2 λt5=>lM ((t5.2.1:Int) >(10:Int)) (oF [.bool true]) (jM r1 4 λt6=>lM ((t6.2.1:Int) < 1) (oF [.bool true]) (jM r1 4 λt7=>lM ((t7.2.1:Int) >(40:Int)) (oF [.bool true]) (kF r1 3 λt8=>oI 117 [.string t8] lU λt9=>oF [.bool (!t9)])))))) λz2=>cond z2.1 (oJ (.bool false)) (oL 0 [aI,aS,aB] (oN [aI,aS,aB] [lN 0,lO,.bool false] λa=>jM r1 0 λt=>lL a.1 t.2.1 (jM r1 0 λk=>lK k.1 k.2.1 a.1 λu=>kG u a.1 4 λv=>jO #[.string v] 9 λw=>pB (oD #[28,28] 28 #[sv a.2.1,.slice (some ⟨w,0,none⟩) 1 1]) lS λx=>jM r1 0 λl=>lK l.1 l.2.1 a.1 λi=>kH i a.1 4 1 λy=>kT (((i.add (eE a.1 *4)).add 1).add 1) λz=>kU (((i.add (eE a.1 *4)).add 1).add 2) λA=>oI 118 [.agg #[.string y,.string z,.bool A]] lU λB=>cond (!B) (oJ (.bool false)) (oF [lN (wN a.1),sv x,.bool a.2.2.1])) (oW 0 [lN a.1,sv a.2.1,.bool a.2.2.1])) λm=>oL 2 lW (oN lW [lN 0,.bool m.2.2.1] λe=>jM r1 1 λC=>lL e.1 C.2.1 (jM r1 1 λn=>lK n.1 n.2.1 e.1 λj=>kG j e.1 3 λD=>kH j e.1 3 1 λE=>kV j e.1 3 2 λF=>oI 118 [.agg #[.string D,.string E,.bool F]] lU λG=>cond (!G) (oJ (.bool false)) (oF [lN (wN e.1),.bool e.2.1])) (oW 2 [lN e.1,.bool e.2.1])) λH=>oL 4 [aI,aS,aB] (oN [aI,aS,aB] [lN 0,lO,.bool H.2.1] λc=>jM r1 2 λI=>lL c.1 I.2.1 (jM r1 2 λo=>lK o.1 o.2.1 c.1 λp=>jR p c.1 2 λJ=>jU p c.1 2 1 λK=>jO #[lN 0,lO] 172 λg=>jZ g 0 J<|jQ g 1 K<|jM g 1 λL=>pB (oD #[28,28] 28 #[sv c.2.1,sv L]) lS λM=>oV lV (jY g 0 λN=>lM (N< 1) (oF [.bool true]) (jY g 0 λO=>lM (O>(3:Int)) (oF [.bool true]) (jM g 1 λP=>oF [.bool ((P.2.1:Int)==(0:Int))]))) λQ=>cond Q.1 (oJ (.bool false)) (oF [lN (wN c.1),sv M,.bool c.2.2.1])) (oW 4 [lN c.1,sv c.2.1,.bool c.2.2.1])) λq=>oL 6 lW (oN lW [lN 0,.bool q.2.2.1] λd=>jM r1 4 λR=>lL d.1 R.2.1 (jM r1 4 λr=>lK r.1 r.2.1 d.1 λh=>kG h d.1 4 λS=>jU h d.1 4 1 λU=>kH h d.1 4 2 λV=>kH h d.1 4 3 λW=>jO #[.string mL,lO,.string mL,.string mL] 165 λb=>jV b 0 (.string S)<|jQ b 1 U<|jV b 2 (.string V)<|jV b 3 (.string W)<|oV lV (kF b 0 λX=>oI 117 [.string X] lU λY=>cond (!Y) (oF [.bool true]) (jM b 1 λZ=>lM ((Z.2.1:Int) >(8:Int)) (oF [.bool true]) (kF b 2 λa0=>cond (!(mE a0==mE mL)) (kF b 2 λa1=>oI 117 [.string a1] lU λa2=>cond (!a2) (oF [.bool true]) (kF b 3 λa3=>oI 119 [.string a3] lU λa4=>oF [.bool (!a4)])) (kF b 3 λa5=>oI 119 [.string a5] lU λa6=>oF [.bool (!a6)])))) λa7=>cond a7.1 (oJ (.bool false)) (oL 8 lW (oN lW [lN 0,.bool d.2.1] λf=>jM b 1 λa8=>lL f.1 a8.2.1 (jM b 1 λs=>lK s.1 s.2.1 f.1 λa9=>kG a9 f.1 1 λb0=>oI 117 [.string b0] lU λb1=>cond (!b1) (oJ (.bool false)) (oF [lN (wN f.1),.bool f.2.1])) (oW 8 [lN f.1,.bool f.2.1])) λb2=>oF [lN (wN d.1),.bool b2.2.1])) (oW 6 [lN d.1,.bool d.2.1])) λb6=>oV lV (oI 120 [sv m.2.1] lU λb3=>cond b3 (oI 120 [sv q.2.1] lU λb4=>oF [.bool b4]) (oF [.bool false])) λb5=>oJ (.bool b5.1))
theorem Jr(g_0:Slc×Slc×Slc×nI×Slc×Unit):Ab hC f75 [(.agg #[(sv g_0.1),(sv g_0.2.1),(sv g_0.2.2.1),(.string g_0.2.2.2.1),(sv g_0.2.2.2.2.1)])] =Ld g_0:=nU
noncomputable def Le(c:nG)(a d:Nat)(e:nI):T:=oL 0 lX (oN lX [lN 0,lN 0] λb=>lL b.1 a (lK c a b.1 λf=>kG f b.1 1 λt4=>cond (mE t4==mE e) (oJ (lN b.1)) (oF [lN (wN b.1),lN b.2.1])) (oW 0 [lN b.1,lN b.2.1])) λg=>oJ (lN (-1:Int))
theorem F0(a:nG)(b c:Nat)(d:nI):Ab hC f76 [(.slice a b c),(.string d)] =Le a b c d:=nU
noncomputable def Lg(g_0:Slc×Slc×Slc×nI×Slc×Unit)(a:nI):T:=jO #[sv g_0.1,sv g_0.2.1,sv g_0.2.2.1,.string g_0.2.2.2.1,sv g_0.2.2.2.2.1] 98 λr1=>oL 0 lX (oN lX [lN 0,lN 0] λb=>jM r1 2 λt4=>lL b.1 t4.2.1 (jM r1 2 λt5=>lK t5.1 t5.2.1 b.1 λc=>jU c b.1 2 1 λt7=>oI 76 [sv t7,.string a] lT λt8=>lM (t8≥ 0) (oJ (lN (wN b.1))) (oF [lN (wN b.1),lN b.2.1])) (oW 0 [lN b.1,lN b.2.1])) λd=>oJ (lN 0)
theorem Js(g_0:Slc×Slc×Slc×nI×Slc×Unit)(a:nI):Ab hC f77 [(.agg #[(sv g_0.1),(sv g_0.2.1),(sv g_0.2.2.1),(.string g_0.2.2.2.1),(sv g_0.2.2.2.2.1)]),(.string a)] =Lg g_0 a:=nU
noncomputable def Nt(p_0:Pl6)(a:nI):T:=jO #[sv p_0.1,sv p_0.2.1,sv p_0.2.2.1,sv p_0.2.2.2.1,sv p_0.2.2.2.2.1,sv p_0.2.2.2.2.2.1] 32 λr1=>jM r1 0 λt2=>oI 76 [sv t2,.string a] lT λt3=>lM (t3≥ 0) (oJ (lN t3)) (jM r1 1 λt4=>oI 76 [sv t4,.string a] lT λt5=>lM (t5≥ 0) (jM r1 0 λt6=>oJ (lN (lQ ((t6.2.1:Int)+t5)))) (oJ (lN (-1:Int))))
theorem Lh(p_0:Pl6)(a:nI):Ab hC f78 [(aG p_0),(.string a)] =Nt p_0 a:=nU
noncomputable def Th(p_0:Pl6)(a:Int):T:=jO #[sv p_0.1,sv p_0.2.1,sv p_0.2.2.1,sv p_0.2.2.2.1,sv p_0.2.2.2.2.1,sv p_0.2.2.2.2.2.1] 32 λr1=>oV lV (lM (a≥ 0) (jM r1 0 λt3=>oF [.bool (decide (a< (t3.2.1:Int)))]) (oF [.bool false])) λb=>oJ (.bool b.1)
theorem Q3(p_0:Pl6)(a:Int):Ab hC f30 [(aG p_0),(.int .i64 a)] =Th p_0 a:=nU
noncomputable def FJ(a:nG)(b c:Nat)(v_1:Int×Int×Unit):T:=jO #[lN v_1.1,lN v_1.2.1] 116 λr1=>jY r1 0 λt2=>jY r1 1 λt3=>oI 122 [.slice a b c,.agg #[lN t2,lN t3]] lT λt4=>oJ (.bool (decide (t4≥ 0)))
theorem Cs(a:nG)(b c:Nat)(v_1:Int×Int×Unit):Ab hC f83 [(.slice a b c),(.agg #[(.int .i64 v_1.1),(.int .i64 v_1.2.1)])] =FJ a b c v_1:=nU
noncomputable def Ml(s_0:nI):T:=oV lV (lM (((nZ s_0:Nat):Int) ≤(32:Int)) (oI 143 [.string s_0] lU λt2=>oF [.bool t2]) (oF [.bool false])) λa=>oJ (.bool a.1)
theorem Km(s_0:nI):Ab hC f117 [(.string s_0)] =Ml s_0:=nU
noncomputable def Jt(p_0:nI×nI×Bool×Unit):T:=jO #[.string p_0.1,.string p_0.2.1,.bool p_0.2.2.1] 167 λr1=>kF r1 0 λt2=>cond (!(mE t2==mE mL)) (oV lV (kF r1 0 λt4=>lM (((nZ t4:Nat):Int) ≤(32:Int)) (kF r1 1 λt5=>cond (mE t5==mE mL) (kW r1 2 λt6=>oF [.bool (!t6)]) (oF [.bool false])) (oF [.bool false])) λe=>oJ (.bool e.1)) (oL 0 lW (oN lW [lN 1,.bool false] λa=>kF r1 1 λf=>lM (a.1< ((nZ f:Nat):Int)) (kF r1 1 λb=>chk (0≤a.1∧a.1< (nZ b:Nat))<|kF r1 1 λc=>chk (0≤(lQ (a.1 - 1))∧(lQ (a.1 - 1)) < (nZ c:Nat))<|lM (((oX (FS b (eE a.1)):Nat):Int) ≤((oX (FS c (eE (lQ (a.1 - 1)))):Nat):Int)) (oJ (.bool false)) (oF [lN (wN a.1),.bool a.2.1])) (oW 0 [lN a.1,.bool a.2.1])) λg=>kF r1 1 λd=>oJ (.bool (!(mE d==mE mL))))
theorem Io(p_0:nI×nI×Bool×Unit):Ab hC f118 [(.agg #[(.string p_0.1),(.string p_0.2.1),(.bool p_0.2.2.1)])] =Jt p_0:=nU
noncomputable def Ko(s_0:nI):T:=lM (((nZ s_0:Nat):Int) >(200:Int)) (oJ (.bool false)) (oL 0 [aI,aI,aB] (oN [aI,aI,aB] [lN 0,lN 1,.bool false] λa=>lM (a.1< ((nZ s_0:Nat):Int)) (chk (0≤a.1∧a.1< (nZ s_0:Nat))<|oV lZ (cond (((oX (FS s_0 (eE a.1)):Nat):Int)==(123:Int)) (oF [lN (wN a.2.1)]) (oF [lN a.2.1])) λc=>chk (0≤a.1∧a.1< (nZ s_0:Nat))<|oV lZ (cond (((oX (FS s_0 (eE a.1)):Nat):Int)==(125:Int)) (oF [lN (lQ (c.1 - 1))]) (oF [lN c.1])) λb=>oV lV (lM (b.1>(4:Int)) (oF [.bool true]) (oF [.bool (b.1==(0:Int))])) λd=>cond d.1 (oJ (.bool false)) (oF [lN (wN a.1),lN b.1,.bool a.2.2.1])) (oW 0 [lN a.1,lN a.2.1,.bool a.2.2.1])) λe=>oJ (.bool (e.2.1==(1:Int))))
theorem JJ(s_0:nI):Ab hC f119 [(.string s_0)] =Ko s_0:=nU
noncomputable def Mm(b:nG)(a e:Nat):T:=oL 0 lW (oN lW [lN 0,.bool false] λc=>lL c.1 a (lK b a c.1 λh=>kG h c.1 1 λt4=>oI 117 [.string t4] lU λt5=>cond (!t5) (oJ (.bool false)) (oL 2 lW (oN lW [lN 0,.bool c.2.1] λd=>lM (d.1<c.1) (lK b a d.1 λi=>kG i d.1 1 λj=>lK b a c.1 λf=>kG f c.1 1 λg=>cond (mE j==mE g) (oJ (.bool false)) (oF [lN (wN d.1),.bool d.2.1])) (oW 2 [lN d.1,.bool d.2.1])) λk=>oF [lN (wN c.1),.bool k.2.1])) (oW 0 [lN c.1,.bool c.2.1])) λl=>oJ (.bool true)
theorem Kp(a:nG)(b c:Nat):Ab hC f120 [(.slice a b c)] =Mm a b c:=nU
noncomputable def F3(c:nG)(a d:Nat)(v_1:Int×Int×Unit):T:=jO #[lN v_1.1,lN v_1.2.1] 116 λr1=>oL 0 lX (oN lX [lN 0,lN 0] λb=>lL b.1 a (jY r1 0 λt4=>jY r1 1 λt5=>lK c a b.1 λe=>jR e b.1 2 λt7=>jX e b.1 2 1 λt8=>cond ((t4==t7) && ((t5==t8) && true)) (oJ (lN b.1)) (oF [lN (wN b.1),lN b.2.1])) (oW 0 [lN b.1,lN b.2.1])) λf=>oJ (lN (-1:Int))
theorem DE(a:nG)(b c:Nat)(v_1:Int×Int×Unit):Ab hC f122 [(.slice a b c),(.agg #[(.int .i64 v_1.1),(.int .i64 v_1.2.1)])] =F3 a b c v_1:=nU
noncomputable def Mn(s_0:nI):T:=oL 0 lW (oN lW [lN 0,.bool false] λa=>lM (a.1< ((nZ s_0:Nat):Int)) (oV lV (chk (0≤a.1∧a.1< (nZ s_0:Nat))<|oI 172 [.int .u8 ((oX (FS s_0 (eE a.1)):Nat):Int)] lU λt4=>cond (!t4) (cond (a.1==(0:Int)) (oF [.bool true]) (chk (0≤a.1∧a.1< (nZ s_0:Nat))<|oI 173 [.int .u8 ((oX (FS s_0 (eE a.1)):Nat):Int)] lU λt5=>oF [.bool (!t5)])) (oF [.bool false])) λb=>cond b.1 (oJ (.bool false)) (oF [lN (wN a.1),.bool a.2.1])) (oW 0 [lN a.1,.bool a.2.1])) λc=>oJ (.bool (!(mE s_0==mE mL)))
theorem Kq(s_0:nI):Ab hC f143 [(.string s_0)] =Mn s_0:=nU
noncomputable def Kr(c_0:Int):T:=oV lV (cond (c_0==(95:Int)) (oF [.bool true]) (lM (c_0≥ 97) (lM (c_0≤(122:Int)) (oF [.bool true]) (lM (c_0≥ 65) (oF [.bool (decide (c_0≤(90:Int)))]) (oF [.bool false]))) (lM (c_0≥ 65) (oF [.bool (decide (c_0≤(90:Int)))]) (oF [.bool false])))) λa=>oJ (.bool a.1)
theorem JK(a:Int):Ab hC f172 [(.int .u8 a)] =Kr a:=nU
noncomputable def Li(c_0:Int):T:=oV lV (lM (c_0≥ 48) (oF [.bool (decide (c_0≤(57:Int)))]) (oF [.bool false])) λa=>oJ (.bool a.1)
theorem Ju(a:Int):Ab hC f173 [(.int .u8 a)] =Li a:=nU
noncomputable def PV(s_0:nG)(a:Int):T:=oV lV (oI 130 [lP s_0,lN a] lU λt2=>cond (!t2) (oF [.bool true]) (oI 131 [lP s_0,lN a] lU λt3=>oF [.bool t3])) λb=>cond b.1 (oJ (.bool false)) (nW s_0 λc=>jT c 1 λt5=>chk ((64:Int)≠0)<|nW t5.1 λd=>chk (0≤(lQ (pG a 64))∧(lQ (pG a 64)) < (t5.2.1:Nat))<|oY (.int .u64) (d.add (eE (lQ (pG a 64)) *1)) λt7=>chk ((64:Int)≠0)<|chk (0≤(bO a 64))<|nW t5.1 λe=>chk (0≤(lQ (pG a 64))∧(lQ (pG a 64)) < (t5.2.1:Nat))<|pN (e.add (eE (lQ (pG a 64)) *1)) (.int .u64 (bD .u64 (pF (oM (oE .u64) t7 ||| (oM (oE .u64) (bD .u64 (1 *2 ^ (min (eE (bO a 64)) (oE .u64)))))):Nat)))<|oJ (.bool true))
theorem Nu(s_0:nG)(a:Int):Ab hC f91 [(.pointer s_0),(.int .i64 a)] =PV s_0 a:=nU
noncomputable def IS(s_0:nG):T:=oI 134 [lP s_0] (.one (.atom .func)) λt1=>oI 135 [uJ .func t1] lS λt2=>oJ (sv t2)
theorem Mo(s_0:nG):Ab hC f101 [(.pointer s_0)] =IS s_0:=nU
noncomputable def IT(s_0:nG):T:=nW s_0 λb=>jT b 1 λt2=>oI 138 [sv t2] lS λt3=>jO #[lO] 224 λa=>jQ a 0 t3<|oJ (.func (.func 165) #[] #[lP (lF a)])
theorem Mp(s_0:nG):Ab hC f134 [(.pointer s_0)] =IT s_0:=nU
noncomputable def Ti(a:Int):T:=chk ((64:Int)≠0)<|pB (uH 224 (lN (lQ (pG (lQ ((lQ ((if(if 1000 <a then 1000 else a) >(0:Int) then(if 1000 <a then 1000 else a) else 0)+(64:Int))) - 1)) 64))) (lN (lQ (pG (lQ ((lQ ((if(if 1000 <a then 1000 else a) >(0:Int) then(if 1000 <a then 1000 else a) else 0)+(64:Int))) - 1)) 64)))) lS λt1=>jO #[lN (if(if 1000 <a then 1000 else a) >(0:Int) then(if 1000 <a then 1000 else a) else 0),sv t1] 226 λb=>oJ (lP (lF b))
theorem Q4(a:Int):Ab hC f96 [(.int .i64 a)] =Ti a:=nU
noncomputable def Um(d:Int)(b:nG)(a e:Nat):T:=oI 96 [lN d] lR λt1=>oL 0 lZ (oN lZ [lN 0] λc=>lL c.1 a (lK b a c.1 λf=>jR f c.1 1 λt5=>oI 91 [lP t1,lN t5] lU λt6=>oF [lN (wN c.1)]) (oW 0 [lN c.1])) λg=>oJ (lP t1)
theorem SI(d:Int)(a:nG)(b c:Nat):Ab hC f99 [(.int .i64 d),(.slice a b c)] =Um d a b c:=nU
noncomputable def Nv(s_0:nG):T:=nW s_0 λa=>kQ a λt2=>oJ (lN t2)
theorem Lj(s_0:nG):Ab hC f100 [(.pointer s_0)] =Nv s_0:=nU
noncomputable def OV(s_0:nG):T:=nW s_0 λa=>kQ a λt2=>nW s_0 λb=>jT b 1 λt4=>oI 138 [sv t4] lS λt5=>pH a (lN t2)<|jO #[lN t2,sv t5] 226 λc=>oJ (lP (lF c))
theorem Mq(s_0:nG):Ab hC f105 [(.pointer s_0)] =OV s_0:=nU
noncomputable def QU(s_0:nG)(a:Int):T:=oV lV (lM (a≥ 0) (nW s_0 λb=>kQ b λt3=>oF [.bool (decide (a<t3))]) (oF [.bool false])) λc=>oJ (.bool c.1)
theorem OW(s_0:nG)(a:Int):Ab hC f130 [(.pointer s_0),(.int .i64 a)] =QU s_0 a:=nU
noncomputable def PW(s_0:nG)(a:Int):T:=oV lV (oI 130 [lP s_0,lN a] lU λt2=>cond t2 (nW s_0 λb=>jT b 1 λt4=>chk ((64:Int)≠0)<|nW t4.1 λc=>chk (0≤(lQ (pG a 64))∧(lQ (pG a 64)) < (t4.2.1:Nat))<|oY (.int .u64) (c.add (eE (lQ (pG a 64)) *1)) λt6=>chk ((64:Int)≠0)<|chk (0≤(bO a 64))<|oF [.bool ((bD .u64 (pF (oM (oE .u64) (rG t6 (2 ^ (min (eE (bO a 64)) (oE .u64)))) &&& (oM (oE .u64) 1)):Nat))==(1:Int))]) (oF [.bool false])) λd=>oJ (.bool d.1)
theorem Nw(s_0:nG)(a:Int):Ab hC f131 [(.pointer s_0),(.int .i64 a)] =PW s_0 a:=nU
noncomputable def F4(a:nG)(b c:Nat):T:=cond (rV a) (oJ lO) (jO #[] 3 λr1=>pB (oD #[30,30] 30 #[.slice (lF r1) 0 0,.slice a b c]) lS λt2=>oJ (sv t2))
theorem Ip(a:nG)(b c:Nat):Ab hC f35 [(.slice a b c)] =F4 a b c:=nU
noncomputable def EE(a:nG)(b c:Nat):T:=cond (rV a) (oJ lO) (jO #[] 223 λr1=>pB (oD #[224,224] 224 #[.slice (lF r1) 0 0,.slice a b c]) lS λt2=>oJ (sv t2))
theorem GT(a:nG)(b c:Nat):Ab hC f138 [(.slice a b c)] =EE a b c:=nU
noncomputable def Jv(c:nG)(a d:Nat)(v_1:Int):T:=oL 0 lX (oN lX [lN 0,lN 0] λb=>lL b.1 a (lK c a b.1 λe=>jR e b.1 1 λt4=>cond (v_1==t4) (oJ (lN b.1)) (oF [lN (wN b.1),lN b.2.1])) (oW 0 [lN b.1,lN b.2.1])) λf=>oJ (lN (-1:Int))
theorem Iq(a:nG)(b c:Nat)(v_1:Int):Ab hC f139 [(.slice a b c),(.int .i64 v_1)] =Jv a b c v_1:=nU
noncomputable def ID(a:nG)(b c:Nat)(v_1:Int):T:=oI 139 [.slice a b c,lN v_1] lT λt1=>oJ (.bool (decide (t1≥ 0)))
theorem HL(a:nG)(b c:Nat)(v_1:Int):Ab hC f108 [(.slice a b c),(.int .i64 v_1)] =ID a b c v_1:=nU
noncomputable def Kb(d:nG)(e f:Nat)(b:nG)(a k:Nat):T:=oL 0 lX (oN lX [lN 0,lN 0] λg=>cond (decide (g.1< ((a:Nat):Int))) (nW b λB=>chk (0≤g.1∧g.1< (a:Nat))<|kX B g.1 1 λt4=>oI 100 [lP t4] lT λt5=>oF [lN (wN g.1),lN (if t5>g.2.1 then t5 else g.2.1)]) (oW 0 [lN g.1,lN g.2.1])) λC=>jO #[lO] 131 λh=>oL 2 lZ (oN lZ [lN 0] λl=>cond (decide (l.1< ((a:Nat):Int))) (nW b λD=>chk (0≤l.1∧l.1< (a:Nat))<|kX D l.1 1 λo=>jM h 0 λi=>oI 101 [lP o] lS λp=>kJ h 0 i<|oI 99 [lN C.2.1,sv p] lR λq=>kJ h 0 i<|jO #[lP q] 187 λr=>kJ h 0 i<|pB (oD #[131,131] 131 #[sv i,.slice (lF r) 1 1]) lS λs=>jQ h 0 s<|oF [lN (wN l.1)]) (oW 2 [lN l.1])) λF=>oI 103 [.slice d e f,lN ((a:Nat):Int),.func (.func 102) #[] #[lP (lF h)],.func (.func 104) #[] #[lP (lF h)]] mG λE=>oL 4 lY (oN lY [lN 0,lO] λc=>cond (decide (c.1< ((a:Nat):Int))) (nW b λt=>chk (0≤c.1∧c.1< (a:Nat))<|kX t c.1 1 λu=>jM h 0 λj=>nW j.1 λm=>chk (0≤c.1∧c.1< (j.2.1:Nat))<|kX m c.1 1 λn=>oI 100 [lP u] lT λv=>pH (m.add (eE c.1 *1)) (lP n)<|kJ h 0 j<|oI 101 [lP n] lS λw=>oI 99 [lN v,sv w] lR λx=>jO #[lP x] 187 λy=>pB (oD #[131,131] 131 #[sv c.2.1,.slice (lF y) 1 1]) lS λz=>oF [lN (wN c.1),sv z]) (oW 4 [lN c.1,sv c.2.1])) λA=>oJ (sv A.2.1)
theorem OX(a:nG)(b c:Nat)(d:nG)(e f:Nat):Ab hC f59 [(.slice a b c),(.slice d e f)] =Kb a b c d e f:=nU
noncomputable def ER(x_0:Int):T:=cond (x_0==(0:Int)) (oJ (lN 64)) (chk (0≤(58:Int))<|chk (0≤(rG (bD .u64 ((bD .u64 (pF (oM (oE .u64) x_0 &&& (oM (oE .u64) (bD .u64 (0 - x_0)))):Nat)) *285870213051353865)) (2 ^ (min (eE 58) (oE .u64))))∧(rG (bD .u64 ((bD .u64 (pF (oM (oE .u64) x_0 &&& (oM (oE .u64) (bD .u64 (0 - x_0)))):Nat)) *285870213051353865)) (2 ^ (min (eE 58) (oE .u64)))) < (64:Nat))<|kY ((⟨0,0,none⟩:uP).add (eE (rG (bD .u64 ((bD .u64 (pF (oM (oE .u64) x_0 &&& (oM (oE .u64) (bD .u64 (0 - x_0)))):Nat)) *285870213051353865)) (2 ^ (min (eE 58) (oE .u64)))) *1)) λt1=>oJ (lN (bD .i64 t1)))
theorem Gm(a:Int):Ab hC f166 [(.int .u64 a)] =ER a:=nU
noncomputable def IU(a:Int)(b:Int)(c:Nat):T:=jM c 0 λt1=>nW t1.1 λd=>chk (0≤a∧a< (t1.2.1:Nat))<|kX d a 1 λt3=>jM c 0 λt4=>nW t4.1 λe=>chk (0≤b∧b< (t4.2.1:Nat))<|kX e b 1 λt6=>oI 98 [lP t3,lP t6] lU λt7=>oJ (.tuple #[])
theorem Mr(a:Int)(b:Int)(c:Nat):Ab hC f102 [(.int .i64 a),(.int .i64 b),(.pointer (lF c))] =IU a b c:=nU
noncomputable def IV(b:nG)(a c:Nat)(e:Nat):T:=chk (0≤(1:Int)∧(1:Int) ≤((a:Nat):Int)∧((a:Nat):Int) ≤(c:Nat))<|oL 0 lZ (oN lZ [lN 0] λi=>cond (decide (i.1< (((eE ((a:Nat):Int) - eE 1):Nat):Int))) (nW (if c=eE 1 then b else sN (λx=>tE x (eE 1 *1)) b) λt=>chk (0≤i.1∧i.1< ((eE ((a:Nat):Int) - eE 1):Nat))<|jR t i.1 1 λt4=>jM e 0 λt5=>nW b λu=>chk (0≤(0:Int)∧(0:Int) < (a:Nat))<|jR u 0 1 λt7=>nW t5.1 λv=>chk (0≤t7∧t7< (t5.2.1:Nat))<|kX v t7 1 λw=>jM e 0 λj=>nW j.1 λl=>chk (0≤t4∧t4< (j.2.1:Nat))<|kX l t4 1 λm=>oI 98 [lP w,lP m] lU λy=>oF [lN (wN i.1)]) (oW 0 [lN i.1])) λA=>chk (0≤(1:Int)∧(1:Int) ≤((a:Nat):Int)∧((a:Nat):Int) ≤(c:Nat))<|oL 2 lZ (oN lZ [lN 0] λd=>cond (decide (d.1< (((eE ((a:Nat):Int) - eE 1):Nat):Int))) (nW (if c=eE 1 then b else sN (λx=>tE x (eE 1 *1)) b) λn=>chk (0≤d.1∧d.1< ((eE ((a:Nat):Int) - eE 1):Nat))<|jR n d.1 1 λf=>jM e 0 λg=>jM e 0 λk=>nW b λo=>chk (0≤(0:Int)∧(0:Int) < (a:Nat))<|jR o 0 1 λh=>nW k.1 λp=>chk (0≤h∧h< (k.2.1:Nat))<|kX p h 1 λq=>oI 105 [lP q] lR λr=>kJ e 0 g<|nW g.1 λs=>chk (0≤f∧f< (g.2.1:Nat))<|pN (s.add (eE f *1)) (lP r)<|oF [lN (wN d.1)]) (oW 2 [lN d.1])) λz=>oJ (.tuple #[])
theorem Ms(a:nG)(b c:Nat)(d:Nat):Ab hC f104 [(.slice a b c),(.pointer (lF d))] =IV a b c d:=nU
noncomputable def PX(a:nG)(b c:Nat)(h:Int)(e:Nat)(f:Nat):T:=jO #[.slice a b c] 57 λr1=>jO #[lN h] 3 λi=>jO #[.func (.func 102) #[] #[lP (lF e)]] 198 λr3=>jO #[.func (.func 104) #[] #[lP (lF f)]] 182 λp=>jY i 0 λt5=>pB (uH 30 (lN t5) (lN t5)) lS λt6=>jO #[lO] 30 λj=>jQ j 0 t6<|jO #[lO] 30 λq=>jO #[.nilFunc] 232 λk=>jV k 0 (.func (.func 136) #[] #[lP (lF q),lP (lF j),lP (lF r1),lP (lF i),lP (lF k),lP (lF r3),lP (lF p)])<|jY i 0 λl=>oL 0 lZ (oN lZ [lN 0] λd=>lM (d.1<l) (jM j 0 λg=>lK g.1 g.2.1 d.1 λm=>jR m d.1 1 λn=>oV [] (cond (n==(0:Int)) (oY .func ⟨k,0,none⟩ λo=>LP false hC (uJ .func o) #[lN d.1] λr=>oF []) (oF [])) λs=>oF [lN (wN d.1)]) (oW 0 [lN d.1])) λt=>oJ (.tuple #[])
theorem Nx(a:nG)(b c:Nat)(f:Int)(d:Nat)(e:Nat):Ab hC f103 [(.slice a b c),(.int .i64 f),(.func (.func 102) #[] #[(.pointer (lF d))]),(.func (.func 104) #[] #[(.pointer (lF e))])] =PX a b c f d e:=nU
noncomputable def JL(a:Int)(e:Nat)(d:Nat)(s:Nat)(t:Nat)(u:Nat)(v:Nat)(w:Nat):T:=jM e 0 λt1=>jO #[lN a] 3 λM=>pB (oD #[30,30] 30 #[sv t1,.slice (lF M) 1 1]) lS λt3=>jQ e 0 t3<|jM e 0 λt4=>jM d 0 λt5=>nW t5.1 λN=>chk (0≤a∧a< (t5.2.1:Nat))<|pN (N.add (eE a *1)) (lN (t4.2.1:Int))<|jM s 0 λt7=>jY t 0 λt8=>oI 137 [sv t7,lN a,lN t8] lS λy=>oL 0 lZ (oN lZ [lN 0] λf=>cond (decide (f.1< (y.2.1:Int))) (nW y.1 λz=>chk (0≤f.1∧f.1< (y.2.1:Nat))<|jR z f.1 1 λb=>jM d 0 λk=>nW k.1 λA=>chk (0≤b∧b< (k.2.1:Nat))<|jR A b 1 λB=>oV [] (cond (B==(0:Int)) (oY .func ⟨u,0,none⟩ λC=>LP false hC (uJ .func C) #[lN b] λO=>oF []) (oF [])) λP=>jM d 0 λl=>jM d 0 λm=>nW m.1 λD=>chk (0≤a∧a< (m.2.1:Nat))<|jR D a 1 λn=>jM d 0 λo=>nW o.1 λE=>chk (0≤b∧b< (o.2.1:Nat))<|jR E b 1 λp=>nW l.1 λF=>chk (0≤a∧a< (l.2.1:Nat))<|pN (F.add (eE a *1)) (lN (if p<n then p else n))<|oY .func ⟨v,0,none⟩ λG=>LP false hC (uJ .func G) #[lN a,lN b] λQ=>oF [lN (wN f.1)]) (oW 0 [lN f.1])) λR=>jM d 0 λq=>nW q.1 λH=>chk (0≤a∧a< (q.2.1:Nat))<|jR H a 1 λI=>cond (I !=(t4.2.1:Int)) (oJ (.tuple #[])) (jM e 0 λc=>chk (0≤(bD .i64 ((t4.2.1:Int) - 1))∧(bD .i64 ((t4.2.1:Int) - 1)) ≤(c.2.1:Int)∧(c.2.1:Int) ≤(c.2.2:Nat))<|oI 35 [.slice (if c.2.2=eE (bD .i64 ((t4.2.1:Int) - 1)) then c.1 else sN (λx=>tE x (eE (bD .i64 ((t4.2.1:Int) - 1)) *1)) c.1) (eE (c.2.1:Int) - eE (bD .i64 ((t4.2.1:Int) - 1))) (c.2.2 - eE (bD .i64 ((t4.2.1:Int) - 1)))] lS λi=>jM e 0 λh=>chk (0≤(0:Int)∧(0:Int) ≤(bD .i64 ((t4.2.1:Int) - 1))∧(bD .i64 ((t4.2.1:Int) - 1)) ≤(h.2.2:Nat))<|jV e 0 (.slice (if h.2.2=eE 0 then h.1 else sN (λx=>tE x (eE 0 *1)) h.1) (eE (bD .i64 ((t4.2.1:Int) - 1)) - eE 0) (h.2.2 - eE 0))<|oL 2 lZ (oN lZ [lN 0] λg=>cond (decide (g.1< (i.2.1:Int))) (nW i.1 λJ=>chk (0≤g.1∧g.1< (i.2.1:Nat))<|jR J g.1 1 λj=>jM d 0 λr=>nW r.1 λK=>chk (0≤j∧j< (r.2.1:Nat))<|pN (K.add (eE j *1)) (lN 9223372036854775807)<|oF [lN (wN g.1)]) (oW 2 [lN g.1])) λS=>oY .func ⟨w,0,none⟩ λL=>LP false hC (uJ .func L) #[sv i] λU=>oJ (.tuple #[]))
theorem Ny(a:Int)(b:Nat)(c:Nat)(d:Nat)(e:Nat)(f:Nat)(g:Nat)(h:Nat):Ab hC f136 [(.int .i64 a),(.pointer (lF b)),(.pointer (lF c)),(.pointer (lF d)),(.pointer (lF e)),(.pointer (lF f)),(.pointer (lF g)),(.pointer (lF h))] =JL a b c d e f g h:=nU
noncomputable def Ll(b:nG)(a d:Nat)(c:Int)(e:Int):T:=jO #[lN e] 3 λr1=>cond (decide (c≥ ((a:Nat):Int))) (oJ lO) (nW b λf=>chk (0≤c∧c< (a:Nat))<|jN f c 1 λt3=>oI 35 [sv t3] lS λt4=>oI 168 [sv t4,.func (.func 169) #[] #[lP (lF r1)]] lS λt5=>oJ (sv t5))
theorem PY(a:nG)(b c:Nat)(d:Int)(e:Int):Ab hC f137 [(.slice a b c),(.int .i64 d),(.int .i64 e)] =Ll a b c d e:=nU
end Go.Proofs.YtfnppeejaimnbaaGreatDoor

namespace Go.Proofs.YtfnppeejaimnbaaGreatDoor
open Go Go.Eng
theorem mixed:prog.follows .mixedOrders=true:=nU
section
variable {s_0 l_0:Slc}{r:Bool}{v_1:Int×Int×Unit}
section
variable {φ:AD}{h:AH}{F:List Chk}
abbrev Rq0:=tF (qM oC) (tF (pQ 9 oC) (tF (qM oC) (qM oC)))
abbrev Rq1:=tF (qM (oG .i64)) (tF (pQ 3 (oG .i64)) (qM (oG .i64)))
abbrev Wq0(r:Nat)(s:Int×Int×Slc×Slc×Slc×Slc×Slc×Unit):Chk:=cW 25 r [.int .u8 s.1,.int .u8 s.2.1,sv s.2.2.1,sv s.2.2.2.1,sv s.2.2.2.2.1,sv s.2.2.2.2.2.1,sv s.2.2.2.2.2.2.1]
abbrev Wq1(r:Nat)(s:Slc×Slc×Slc×nI×Slc×Unit):Chk:=cW 98 r [sv s.1,sv s.2.1,sv s.2.2.1,.string s.2.2.2.1,sv s.2.2.2.2.1]
abbrev Wq2(r:Nat)(s:Pl6):Chk:=cW 32 r [sv s.1,sv s.2.1,sv s.2.2.1,sv s.2.2.2.1,sv s.2.2.2.2.1,sv s.2.2.2.2.2.1]
abbrev Wq3(r:Nat)(s:nI×nI×Bool×Unit):Chk:=cW 167 r [.string s.1,.string s.2.1,.bool s.2.2.1]
abbrev Wq4(r:Nat):Chk:=cW 98 r [.slice none 0 0,.slice none 0 0,.slice none 0 0,.string mL,.slice none 0 0]
abbrev Wq5(r:Nat):Chk:=cW 32 r [.slice none 0 0,.slice none 0 0,.slice none 0 0,.slice none 0 0,.slice none 0 0,.slice none 0 0]
abbrev Wq6(r:Nat):Chk:=cW 112 r [.slice none 0 0,.slice none 0 0,.slice none 0 0,.int .i64 (0:Int),.int .i64 (0:Int)]
abbrev Wq7(r:Nat)(s:Slc×Slc×Slc×Int×Unit):Chk:=cW 122 r [sv s.1,sv s.2.1,sv s.2.2.1,.int .i64 s.2.2.2.1]
abbrev Wq8(r:Nat):Chk:=cW 50 r [.int .i64 (0:Int),.int .i64 (0:Int)]
abbrev Wq9(r:Nat)(s:Int×Int×Unit):Chk:=cW 50 r [.int .i64 s.1,.int .i64 s.2.1]
abbrev cf(r:Nat)(s:Int×Int×Int×Unit):Chk:=cW 146 r [.int .i64 s.1,.int .i64 s.2.1,.int .i64 s.2.2.1]
noncomputable def Ch(s_0:PO)(a:Int)(b:Int):Option Bool:=
 (cond (decide ((s_0.2.2.1.length:Int) >a))
 (some true)
 (some (decide ((s_0.2.2.2.2.2.1.length:Int) >5)))).bind λg=>
 cond g
 (some false)
 ((C6 (σ:=Unit) (β:=Bool) 0 (s_0.2.2.2.1.length:Int) () λc h=>
  (idx s_0.2.2.2.1 c).bind λe=>
  cond (decide ((e.length:Int) >b))
  (some (oZ false))
  (some (pA ()))).bind λd=>match d with
  |.next i=>
   some true
  |.done f=>some f)
theorem Ho{s_0:Int×Int×Slc×Slc×Slc×Slc×Slc×Unit}{e:nH}{f:List nH}{k:nH}{i:nH}{l:nH}{v:Int}{A:Int}(s:oA (oG .u8) φ s_0.2.2.1 e)(m:oA (tD (oG .u8)) φ s_0.2.2.2.1 f)(al:oA (oG .u8) φ s_0.2.2.2.2.1 k)(t:oA (oG .u8) φ s_0.2.2.2.2.2.1 i)(ap:oA (oG .u8) φ s_0.2.2.2.2.2.2.1 l)(C:St φ F h)(hd:Ch (s_0.1,s_0.2.1,e,f,k,i,l) v A=some r):
 nX hC 5 [.agg #[.int .u8 s_0.1,.int .u8 s_0.2.1,sv s_0.2.2.1,sv s_0.2.2.2.1,sv s_0.2.2.2.2.1,sv s_0.2.2.2.2.2.1,sv s_0.2.2.2.2.2.2.1],lN v,lN A] h (An (mM φ r F)):=by
 refine AT mixed func5 (Hn ..) ?_;have u:s_0.2.2.1.2.1=oK e:=s.length;have n:s_0.2.2.2.1.2.1=oK f:=m.length;have w:s_0.2.2.2.2.2.1.2.1=oK i:=t.length;refine AU (vs:=[.int .u8 s_0.1,.int .u8 s_0.2.1,sv s_0.2.2.1,sv s_0.2.2.2.1,sv s_0.2.2.2.2.1,sv s_0.2.2.2.2.2.1,sv s_0.2.2.2.2.2.2.1]) C λr1 P d=>?_;have⟨x,b,hd⟩:=bS hd;refine AY (λy B g=>∃ψ:AD,Sub φ ψ∧y.1=g∧St ψ (Wq0 r1 s_0::F) B) (g:=x) ?_ ?_
 ·refine AA d rfl<|mP b (by rw[u] <;>rfl) (λb=>?_) (λb=>?_)
  ·exact lG rfl ⟨φ,sb,iS b,d⟩
  refine AA d rfl ?_;obtain rfl:=iS b;exact lG rfl ⟨φ,sb,(by rw[w]),d⟩
 rintro Q R ⟨j,S,rfl,o⟩;refine mP hd rfl (λhd=>?_) (λhd=>?_)
 ·exact AC ⟨j,false,sb,rfl,iS hd,o.tail⟩
 have⟨T,z,hd⟩:=bS hd;refine BQ z (λa0 y B g=>∃ψ:AD,Sub j ψ∧y.1=a0∧()=g∧St ψ (Wq0 r1 s_0::F) B) rfl ⟨j,sb,rfl,rfl,o⟩ ?_ ?_ ?_
 ·rintro _ D U _ _ ⟨p,V,rfl,rfl,c⟩ a W E G H;refine AA c rfl<|Ad (dT n E)<|AA c rfl<|gxS m a c λX Y I a=>?_;have J:=I.length;refine mP a (by rw[J] <;>rfl) (λa=>?_) (λa=>?_)
  ·obtain rfl:=iS a;obtain rfl:=H _ rfl;obtain rfl:=iS hd;exact Ak (Ah (AC ⟨p,false,sb,rfl,rfl,c.tail⟩))
  obtain rfl:=iS a;exact lH rfl rfl ⟨p,sb,G,rfl,c⟩
 ·rintro _ D Z _ ⟨K,b9,rfl,rfl,q⟩ L M;subst M;refine AA q rfl<|AW (dF n L)<|AJ (lI rfl ⟨_,rfl,_,K,sb,rfl,rfl,q⟩)
 rintro z5 ba ⟨_,rfl,_,N,bb,_,rfl,O⟩;exact AC ⟨N,true,sb,rfl,iS hd,O.tail⟩
noncomputable def ES(l_0:nH)(x_1:Int):Option Bool:=
 (C6 (σ:=Unit) (β:=Bool) 0 (l_0.length:Int) () λa e=>
  (idx l_0 a).bind λc=>
  cond (c==x_1)
  (some (oZ true))
  (some (pA ()))).bind λb=>match b with
 |.next f=>
  some false
 |.done d=>some d
theorem Mt{b:nH}{v:Int}(d:oA (oG .i64) φ l_0 b)(A:St φ F h)(hd:ES b v=some r):
 nX hC 71 [sv l_0,lN v] h (An (mM φ r F)):=by
 refine AT mixed func71 (Mg ..) ?_;have e:l_0.2.1=oK b:=d.length;have⟨u,i,hd⟩:=bS hd;refine BQ i (λj y B g=>∃ψ:AD,Sub φ ψ∧y.1=j∧()=g∧St ψ F B) rfl ⟨φ,sb,rfl,rfl,A⟩ ?_ ?_ ?_
 ·rintro _ C w _ _ ⟨f,x,rfl,rfl,c⟩ a z k l m;refine Ad (dT e k)<|gx d a c λa0 a=>mP a rfl (λa=>?_) (λa=>?_)
  ·obtain rfl:=iS a;obtain rfl:=m _ rfl;obtain rfl:=iS hd;exact Ak (Ah (AC ⟨f,true,sb,rfl,rfl,c⟩))
  obtain rfl:=iS a;exact lH rfl rfl ⟨f,sb,l,rfl,c⟩
 ·rintro _ C D _ ⟨n,E,rfl,rfl,o⟩ p q;subst q;refine AW (dF e p)<|AJ (lI rfl ⟨_,rfl,_,n,sb,rfl,rfl,o⟩)
 rintro G H ⟨_,rfl,_,s,I,_,rfl,t⟩;exact AC ⟨s,false,sb,rfl,iS hd,t⟩
noncomputable def Jw(a:Int):Option Int:=some (if(if 1099511627776 <a then 1099511627776 else a) >0 then(if 1099511627776 <a then 1099511627776 else a) else 0)
theorem Q5{a:Int}(b:St φ F h){r:Int}(hd:Jw a=some r):
 nX hC 79 [lN a] h (An (mN φ r F)):=by refine AT mixed func79 (Q2 ..) ?_;exact AC ⟨φ,(if(if(1099511627776:Int) <a then(1099511627776:Int) else a) >(0:Int) then(if(1099511627776:Int) <a then(1099511627776:Int) else a) else(0:Int)),sb,rfl,iS hd,b⟩
noncomputable def Gn(a:Int):Option DA:=(Jw a).bind λt1=>some (t1,0,0)
theorem NT{l:Int}(m:St φ F h){r:DA}(hd:Gn l=some r):
 nX hC 46 [lN l] h (An λv n=>∃ψ:AD,∃y:nG,∃a:DA,Sub φ ψ∧v=lR.val y∧a=r∧St ψ (cO 175 (qM Gl) y a::F) n):=by refine AT mixed func46 (SH ..) ?_;have⟨g,b,hd⟩:=bS hd;refine AK (Q5 m b) ?_;rintro _ i ⟨c,t1,j,rfl,rfl,d⟩;refine⟨t1,rfl,AU (vs:=[.int .i64 t1,.int .i64 (0:Int),.int .i64 (0:Int)]) d λo k e=>?_⟩;have f:=sD (r:=Gl) (x:=(t1,(0:Int),(0:Int))) e ⟨[_],_,rfl,rfl,⟨[_],_,rfl,rfl,rfl⟩⟩;exact AC ⟨c,(lF o),(t1,(0:Int),(0:Int)),sb,rfl,iS hd,f⟩
noncomputable def FZ(a:DA):Option Int:=some (bD .i64 (a.1 - a.2.1))
theorem Lm{g:nG}{a:DA}(i:St φ (cO 175 (qM Gl) g a::F) h){r:Int}(hd:FZ a=some r):
 nX hC 86 [lP g] h (An (mN φ r (cO 175 (qM Gl) g a::F))):=by refine AT mixed func86 (Lc ..) ?_;obtain⟨e,f,c,⟨_,_,rfl,rfl,_,_,rfl,rfl,rfl⟩,b⟩:=uI i;subst c;refine AI _ rfl<|AA b rfl<|AI _ rfl<|AA b rfl ?_;have d:=sD (r:=Gl) (x:=(a.1,a.2.1,a.2.2)) b ⟨[_],_,rfl,rfl,⟨[_],_,rfl,rfl,rfl⟩⟩;exact AC ⟨φ,(bD .i64 (a.1 - a.2.1)),sb,rfl,iS hd,d⟩
noncomputable def DF(a:DA)(b:Int):Option (Int×DA):=cond (decide (b< 0)) (some (1,a)) ((FZ a).bind λt1=>cond (decide (b>t1)) (some (5,a)) (some (0,(a.1,(bD .i64 ((a.2.1)+b)),(if(bD .i64 ((a.2.1)+b)) >(a.2.2) then(bD .i64 ((a.2.1)+b)) else(a.2.2))))))
theorem Gp{u:nG}{a:DA}{t:Int}(w:St φ (cO 175 (qM Gl) u a::F) h){r:(Int×DA)}(hd:DF a t=some r):
 nX hC 50 [lP u,lN t] h (An λv z=>∃ψ:AD,∃y:Int,∃c:DA,Sub φ ψ∧v=lT.val y∧(y,c)=r∧St ψ (cO 175 (qM Gl) u c::F) z):=by
 refine AT mixed func50 (La ..)<|mP hd rfl (λhd=>?_) (λhd=>?_)
 ·exact AC ⟨φ,(1:Int),a,sb,rfl,iS hd,w⟩
 have⟨l,g,hd⟩:=bS hd;refine AK (Lm w g) ?_;rintro _ m ⟨d,t1,n,rfl,rfl,e⟩;refine⟨t1,rfl,mP hd rfl (λhd=>?_) (λhd=>?_)⟩
 ·exact AC ⟨d,(5:Int),a,sb,rfl,iS hd,e⟩
 obtain⟨o,p,i,⟨_,_,rfl,rfl,_,_,rfl,rfl,rfl⟩,f⟩:=uI e;subst i;refine AI _ rfl<|AA f rfl<|AI _ rfl<|AQ f rfl rfl λq b=>AI _ rfl<|AA b rfl<|AI _ rfl<|AA b rfl<|AI _ rfl<|AQ b rfl rfl λs j=>?_;have k:=sD (r:=Gl) (x:=(a.1,(bD .i64 ((a.2.1)+t)),(if(bD .i64 ((a.2.1)+t)) >(a.2.2) then(bD .i64 ((a.2.1)+t)) else(a.2.2)))) j ⟨[_],_,rfl,rfl,⟨[_],_,rfl,rfl,rfl⟩⟩;exact AC ⟨d,(0:Int),(a.1,(bD .i64 ((a.2.1)+t)),(if(bD .i64 ((a.2.1)+t)) >(a.2.2) then(bD .i64 ((a.2.1)+t)) else(a.2.2))),sb,rfl,iS hd,k⟩
noncomputable def Fa(a:DA):Option Int:=some (a.2.1)
theorem Ln{g:nG}{a:DA}(i:St φ (cO 175 (qM Gl) g a::F) h){r:Int}(hd:Fa a=some r):
 nX hC 53 [lP g] h (An (mN φ r (cO 175 (qM Gl) g a::F))):=by refine AT mixed func53 (Lb ..) ?_;obtain⟨e,f,c,⟨_,_,rfl,rfl,_,_,rfl,rfl,rfl⟩,b⟩:=uI i;subst c;refine AI _ rfl<|AA b rfl ?_;have d:=sD (r:=Gl) (x:=(a.1,a.2.1,a.2.2)) b ⟨[_],_,rfl,rfl,⟨[_],_,rfl,rfl,rfl⟩⟩;exact AC ⟨φ,a.2.1,sb,rfl,iS hd,d⟩
noncomputable def BN(l_0:List nI)(c:nI):Option Int:=
 (C6 (σ:=Unit) (β:=Int) 0 (l_0.length:Int) () λa f=>
  (idx l_0 a).bind λd=>
  cond (mE d==mE c)
  (some (oZ a))
  (some (pA ()))).bind λb=>match b with
 |.next g=>
  some (-1:Int)
 |.done e=>some e
theorem IE{b:List nI}{v:nI}(d:oA oC φ l_0 b)(B:St φ F h){r:Int}(hd:BN b v=some r):
 nX hC 76 [sv l_0,.string v] h (An (mN φ r F)):=by
 refine AT mixed func76 (F0 ..) ?_;have e:l_0.2.1=oK b:=d.length;have⟨u,i,hd⟩:=bS hd;refine BQ i (λj y C g=>∃ψ:AD,Sub φ ψ∧y.1=j∧()=g∧St ψ F C) rfl ⟨φ,sb,rfl,rfl,B⟩ ?_ ?_ ?_
 ·rintro _ A w _ _ ⟨f,x,rfl,rfl,c⟩ a z k l m;refine Ad (dT e k)<|gx d a c λa0 a=>mP a rfl (λa=>?_) (λa=>?_)
  ·obtain rfl:=iS a;obtain rfl:=m _ rfl;obtain rfl:=iS hd;exact Ak (Ah (AC ⟨f,A.1,sb,rfl,rfl,c⟩))
  obtain rfl:=iS a;exact lH rfl rfl ⟨f,sb,l,rfl,c⟩
 ·rintro _ A D _ ⟨n,E,rfl,rfl,o⟩ p q;subst q;refine AW (dF e p)<|AJ (lI rfl ⟨_,rfl,_,n,sb,rfl,rfl,o⟩)
 rintro G H ⟨_,rfl,_,s,I,_,rfl,t⟩;exact AC ⟨s,(-1:Int),sb,rfl,iS hd,t⟩
theorem Bv{b:List nI}{v:nI}(A:St φ (cR 9 oC l_0 b::F) h){r:Int}(hd:BN b v=some r):
 nX hC 76 [sv l_0,.string v] h (An (mN φ r (cR 9 oC l_0 b::F))):=by
 refine AT mixed func76 (F0 ..) ?_;have d:l_0.2.1=oK b:=(A).rowLen;have⟨t,f,hd⟩:=bS hd;refine BQ f (λi y C g=>∃ψ:AD,Sub φ ψ∧y.1=i∧()=g∧St ψ (cR 9 oC l_0 b::F) C) rfl ⟨φ,sb,rfl,rfl,A⟩ ?_ ?_ ?_
 ·rintro _ B u _ _ ⟨e,w,rfl,rfl,c⟩ a x j k l;refine Ad (dT d j)<|gxO c a λz a=>mP a rfl (λa=>?_) (λa=>?_)
  ·obtain rfl:=iS a;obtain rfl:=l _ rfl;obtain rfl:=iS hd;exact Ak (Ah (AC ⟨e,B.1,sb,rfl,rfl,c⟩))
  obtain rfl:=iS a;exact lH rfl rfl ⟨e,sb,k,rfl,c⟩
 ·rintro _ B a0 _ ⟨m,D,rfl,rfl,n⟩ o p;subst p;refine AW (dF d o)<|AJ (lI rfl ⟨_,rfl,_,m,sb,rfl,rfl,n⟩)
 rintro E G ⟨_,rfl,_,q,H,_,rfl,s⟩;exact AC ⟨q,(-1:Int),sb,rfl,iS hd,s⟩
noncomputable def Co(g_0:GF)(a:nI):Option Int:=
 (C6 (σ:=Unit) (β:=Int) 0 (g_0.2.2.1.length:Int) () λb f=>
  (idx g_0.2.2.1 b).bind λd=>
  (BN d.2 a).bind λt8=>
  cond (decide (t8≥ 0))
  (some (oZ (bD .i64 (b+1))))
  (some (pA ()))).bind λc=>match c with
 |.next g=>
  some 0
 |.done e=>some e
theorem F5{g_0:Slc×Slc×Slc×nI×Slc×Unit}{d:List Hk}{e:List JF}{c:List Fz}{f:List Dy}{v:nI}(G:oA Hl φ g_0.1 d)(H:oA ON φ g_0.2.1 e)(i:oA HB φ g_0.2.2.1 c)(I:oA Gk φ g_0.2.2.2.2.1 f)(B:St φ F h){r:Int}(hd:Co (d,e,c,g_0.2.2.2.1,f) v=some r):
 nX hC 77 [.agg #[sv g_0.1,sv g_0.2.1,sv g_0.2.2.1,.string g_0.2.2.2.1,sv g_0.2.2.2.2.1],.string v] h (An (mN φ r F)):=by
 refine AT mixed func77 (Js ..) ?_;have j:g_0.2.2.1.2.1=oK c:=i.length;refine AU (vs:=[sv g_0.1,sv g_0.2.1,sv g_0.2.2.1,.string g_0.2.2.2.1,sv g_0.2.2.2.2.1]) B λr1 J n=>?_;have⟨K,o,hd⟩:=bS hd;refine BQ o (λp y C g=>∃ψ:AD,Sub φ ψ∧y.1=p∧()=g∧St ψ (Wq1 r1 g_0::F) C) rfl ⟨φ,sb,rfl,rfl,n⟩ ?_ ?_ ?_
 ·rintro _ A L _ _ ⟨M,N,rfl,rfl,b⟩ a al q s t;refine AA b rfl<|Ad (dT j q)<|AA b rfl<|ixR cb i a b λap O u a=>?_;have⟨P,w,a⟩:=bS a;refine AK (IE u.up b w) ?_;rintro _ Q ⟨k,t8,R,rfl,rfl,l⟩;refine⟨t8,rfl,mP a rfl (λa=>?_) (λa=>?_)⟩
  ·obtain rfl:=iS a;obtain rfl:=t _ rfl;obtain rfl:=iS hd;exact Ak (Ah (AC ⟨k,(wN A.1),sb,rfl,rfl,l.tail⟩))
  obtain rfl:=iS a;exact lH rfl rfl ⟨k,sb,s,rfl,l⟩
 ·rintro _ A S _ ⟨x,T,rfl,rfl,m⟩ z a0;subst a0;refine AA m rfl<|AW (dF j z)<|AJ (lI rfl ⟨_,rfl,_,x,sb,rfl,rfl,m⟩)
 rintro U V ⟨_,rfl,_,D,W,_,rfl,E⟩;exact AC ⟨D,(0:Int),sb,rfl,iS hd,E.tail⟩
noncomputable def Bw(p_0:(List nI×List nI))(a:nI):Option Int:=(BN p_0.1 a).bind λt3=>cond (decide (t3≥ 0)) (some t3) ((BN p_0.2 a).bind λt5=>cond (decide (t5≥ 0)) (some (bD .i64 ((p_0.1.length:Int)+t5))) (some (-1:Int)))
theorem Df{p_0:Pl6}{a:List nI}{b:List nI}{v:nI}(w:St φ (cR 9 oC p_0.1 a::cR 9 oC p_0.2.1 b::F) h){r:Int}(hd:Bw (a,b) v=some r):
 nX hC 78 [aG p_0,.string v] h (An (mN φ r (cR 9 oC p_0.1 a::cR 9 oC p_0.2.1 b::F))):=by
 refine AT mixed func78 (Lh ..) ?_;have g:p_0.1.2.1=oK a:=(w).rowLen;refine D5 (t:=p_0) w λr1 m e=>AA e rfl ?_;have⟨n,i,hd⟩:=bS hd;refine AK (Bv e.at1 i) ?_;rintro _ o ⟨j,t3,p,rfl,rfl,c⟩;refine⟨t3,rfl,mP hd rfl (λhd=>?_) (λhd=>?_)⟩
 ·exact AC ⟨j,t3,sb,rfl,iS hd,c.at1.tail.at1.at1⟩
 refine AA c.at1 rfl ?_;have⟨q,k,hd⟩:=bS hd;refine AK (Bv c.at2 k) ?_;rintro _ s ⟨f,t5,u,rfl,rfl,d⟩;refine⟨t5,rfl,mP hd rfl (λhd=>?_) (λhd=>?_)⟩
 ·refine AA d.at2 rfl ?_;obtain rfl:=iS hd;have l:=d.at2.tail.at1;exact AC ⟨f,(bD .i64 ((p_0.1.2.1:Int)+t5)),sb,rfl,(by rw[g]),l⟩
 exact AC ⟨f,(-1:Int),sb,rfl,iS hd,d.at2.tail.at1⟩
noncomputable def CH(a_0:NS)(x_1:Aq):Option Int:=(idx a_0.2.2.1 x_1.1).bind λa=>cond (decide (x_1.2≥ (a.2.1.length:Int))) (some (-1:Int)) ((idx a.2.1 x_1.2).bind λb=>some b)
theorem D6{a_0:nG}{a:NS}{v:Int×Int×Unit}(y:St φ (cO 75 (qM Dz) a_0 a::F) h){r:Int}(hd:CH a (v.1,v.2.1)=some r):
 nX hC 82 [lP a_0,.agg #[lN v.1,lN v.2.1]] h (An (mN φ r (cO 75 (qM Dz) a_0 a::F))):=by
 refine AT mixed func82 (Jq ..)<|AU (vs:=[.int .i64 v.1,.int .i64 v.2.1]) y λr1 a0 q=>?_;obtain⟨A,B,s,⟨_,_,rfl,⟨d,rfl,e⟩,_,_,rfl,⟨f,rfl,g⟩,_,_,rfl,⟨i,rfl,c⟩,_,_,rfl,⟨j,rfl,k⟩,_,_,rfl,⟨l,rfl,m⟩,_,_,rfl,⟨n,rfl,o⟩,_,_,rfl,rfl,rfl⟩,b⟩:=uI q.at1;subst s;refine AI _ rfl<|AA b rfl<|AA b.at1 rfl<|ixR Gf c hd b λC D p hd=>?_;have t:=p.length;refine AA b.at1 rfl<|mP hd (by rw[t] <;>rfl) (λhd=>?_) (λhd=>?_)
 ·have u:=sD (r:=Dz) (x:=(a.1,a.2.1,a.2.2.1,a.2.2.2.1,a.2.2.2.2.1,a.2.2.2.2.2.1,a.2.2.2.2.2.2.1,a.2.2.2.2.2.2.2)) b ⟨[_],_,rfl,⟨d,rfl,e⟩,⟨[_],_,rfl,⟨f,rfl,g⟩,⟨[_],_,rfl,⟨i,rfl,c⟩,⟨[_],_,rfl,⟨j,rfl,k⟩,⟨[_],_,rfl,⟨l,rfl,m⟩,⟨[_],_,rfl,⟨n,rfl,o⟩,⟨[_],_,rfl,rfl,rfl⟩⟩⟩⟩⟩⟩⟩;exact AC ⟨φ,(-1:Int),sb,rfl,iS hd,u.at1.tail⟩
 refine AA b.at1 rfl<|gx p hd b λw hd=>?_;have z:=sD (r:=Dz) (x:=(a.1,a.2.1,a.2.2.1,a.2.2.2.1,a.2.2.2.2.1,a.2.2.2.2.2.1,a.2.2.2.2.2.2.1,a.2.2.2.2.2.2.2)) b ⟨[_],_,rfl,⟨d,rfl,e⟩,⟨[_],_,rfl,⟨f,rfl,g⟩,⟨[_],_,rfl,⟨i,rfl,c⟩,⟨[_],_,rfl,⟨j,rfl,k⟩,⟨[_],_,rfl,⟨l,rfl,m⟩,⟨[_],_,rfl,⟨n,rfl,o⟩,⟨[_],_,rfl,rfl,rfl⟩⟩⟩⟩⟩⟩⟩;exact AC ⟨φ,w,sb,rfl,iS hd,z.at1.tail⟩
noncomputable def Bp(p_0:As)(a:Int):Option Bool:=(cond (decide (a≥ 0)) (some (decide (a< (p_0.1.length:Int)))) (some false)).bind λb=>some b
theorem Eg{p_0:Pl6}{d_p_0:As}{m:Int}(c:G8 φ p_0 d_p_0)(n:St φ F h)(hd:Bp d_p_0 m=some r):
 nX hC 30 [aG p_0,lN m] h (An (mM φ r F)):=by
 refine AT mixed func30 (Q3 ..) ?_;have d:p_0.1.2.1=oK d_p_0.1:=c.k0.length;refine D5 (t:=p_0) n λr1 j b=>?_;have⟨e,a,hd⟩:=bS hd;refine AY (λy o g=>∃ψ:AD,Sub φ ψ∧y.1=g∧St ψ (Wq2 r1 p_0::F) o) (g:=e) ?_ ?_
 ·refine mP a rfl (λa=>?_) (λa=>?_)
  ·refine AA b rfl ?_;obtain rfl:=iS a;exact lG rfl ⟨φ,sb,(by rw[d]),b⟩
  exact lG rfl ⟨φ,sb,iS a,b⟩
 rintro p k ⟨f,l,rfl,i⟩;exact AC ⟨f,p.1,sb,rfl,iS hd,i.tail⟩
noncomputable def Bq(s_0:List Aq)(v_1:Aq):Option Int:=
 (C6 (σ:=Unit) (β:=Int) 0 (s_0.length:Int) () λa e=>
  (idx s_0 a).bind λb=>
  cond ((v_1.1==b.1) && ((v_1.2==b.2) && true))
  (some (oZ a))
  (some (pA ()))).bind λc=>match c with
 |.next f=>
  some (-1:Int)
 |.done d=>some d
theorem Ew{c:List Aq}(d:oA Au φ s_0 c)(A:St φ F h){r:Int}(hd:Bq c (v_1.1,v_1.2.1)=some r):
 nX hC 122 [sv s_0,.agg #[lN v_1.1,lN v_1.2.1]] h (An (mN φ r F)):=by
 refine AT mixed func122 (DE ..) ?_;have e:s_0.2.1=oK c:=d.length;refine AU (vs:=[.int .i64 v_1.1,.int .i64 v_1.2.1]) A λr1 w i=>?_;have⟨x,j,hd⟩:=bS hd;refine BQ j (λk y B g=>∃ψ:AD,Sub φ ψ∧y.1=k∧()=g∧St ψ (cW 116 r1 [.int .i64 v_1.1,.int .i64 v_1.2.1]::F) B) rfl ⟨φ,sb,rfl,rfl,i⟩ ?_ ?_ ?_
 ·rintro _ v z _ _ ⟨f,a0,rfl,rfl,b⟩ a C l m n;refine Ad (dT e l)<|AA b rfl<|AA b rfl<|QQ d a b λD a=>mP a rfl (λa=>?_) (λa=>?_)
  ·obtain rfl:=iS a;obtain rfl:=n _ rfl;obtain rfl:=iS hd;exact Ak (Ah (AC ⟨f,v.1,sb,rfl,rfl,b.tail⟩))
  obtain rfl:=iS a;exact lH rfl rfl ⟨f,sb,m,rfl,b⟩
 ·rintro _ v E _ ⟨o,G,rfl,rfl,p⟩ q s;subst s;refine AW (dF e q)<|AJ (lI rfl ⟨_,rfl,_,o,sb,rfl,rfl,p⟩)
 rintro H I ⟨_,rfl,_,t,J,_,rfl,u⟩;exact AC ⟨t,(-1:Int),sb,rfl,iS hd,u.tail⟩
theorem Eh{b:List Aq}(v:St φ (cR 116 Au s_0 b::F) h){r:Int}(hd:Bq b (v_1.1,v_1.2.1)=some r):
 nX hC 122 [sv s_0,.agg #[lN v_1.1,lN v_1.2.1]] h (An (mN φ r (cR 116 Au s_0 b::F))):=by
 refine AT mixed func122 (DE ..) ?_;have d:s_0.2.1=oK b:=(v).rowLen;refine AU (vs:=[.int .i64 v_1.1,.int .i64 v_1.2.1]) v λr1 u f=>?_;have⟨w,i,hd⟩:=bS hd;refine BQ i (λj y B g=>∃ψ:AD,Sub φ ψ∧y.1=j∧()=g∧St ψ (cW 116 r1 [.int .i64 v_1.1,.int .i64 v_1.2.1]::cR 116 Au s_0 b::F) B) rfl ⟨φ,sb,rfl,rfl,f.at1.at1⟩ ?_ ?_ ?_
 ·rintro _ A x _ _ ⟨e,z,rfl,rfl,c⟩ a a0 k l m;refine Ad (dT d k)<|AA c rfl<|AA c rfl<|iJ c.at1 a λC a=>mP a rfl (λa=>?_) (λa=>?_)
  ·obtain rfl:=iS a;obtain rfl:=m _ rfl;obtain rfl:=iS hd;exact Ak (Ah (AC ⟨e,A.1,sb,rfl,rfl,c.tail⟩))
  obtain rfl:=iS a;exact lH rfl rfl ⟨e,sb,l,rfl,c.at1.at1⟩
 ·rintro _ A D _ ⟨n,E,rfl,rfl,o⟩ p q;subst q;refine AW (dF d p)<|AJ (lI rfl ⟨_,rfl,_,n,sb,rfl,rfl,o.at1.at1⟩)
 rintro G H ⟨_,rfl,_,s,I,_,rfl,t⟩;exact AC ⟨s,(-1:Int),sb,rfl,iS hd,t.tail⟩
noncomputable def BC(s_0:List Aq)(v_1:Aq):Option Bool:=(Bq s_0 (v_1.1,v_1.2)).bind λt4=>some (decide (t4≥ 0))
theorem EP{b:List Aq}(c:oA Au φ s_0 b)(l:St φ F h)(hd:BC b (v_1.1,v_1.2.1)=some r):
 nX hC 83 [sv s_0,.agg #[lN v_1.1,lN v_1.2.1]] h (An (mM φ r F)):=by refine AT mixed func83 (Cs ..)<|AU (vs:=[.int .i64 v_1.1,.int .i64 v_1.2.1]) l λr1 g a=>AA a rfl<|AA a rfl ?_;have⟨i,d,hd⟩:=bS hd;refine AK (Ew (v_1:=(v_1.1,v_1.2.1,())) c a d) ?_;rintro _ j ⟨e,t4,k,rfl,rfl,f⟩;exact⟨t4,rfl,AC ⟨e,(decide (t4≥ (0:Int))),sb,rfl,iS hd,f.tail⟩⟩
theorem EF{a:List Aq}(k:St φ (cR 116 Au s_0 a::F) h)(hd:BC a (v_1.1,v_1.2.1)=some r):
 nX hC 83 [sv s_0,.agg #[lN v_1.1,lN v_1.2.1]] h (An (mM φ r (cR 116 Au s_0 a::F))):=by refine AT mixed func83 (Cs ..)<|AU (vs:=[.int .i64 v_1.1,.int .i64 v_1.2.1]) k λr1 f b=>AA b rfl<|AA b rfl ?_;have⟨g,c,hd⟩:=bS hd;refine AK (Eh (v_1:=(v_1.1,v_1.2.1,())) b.at1 c) ?_;rintro _ i ⟨d,t4,j,rfl,rfl,e⟩;exact⟨t4,rfl,AC ⟨d,(decide (t4≥ (0:Int))),sb,rfl,iS hd,e.at1.tail⟩⟩
noncomputable def DH(c_0:Int):Option Bool:=(cond (c_0==95) (some true) (cond (decide (c_0≥ 97)) (cond (decide (c_0≤122)) (some true) (cond (decide (c_0≥ 65)) (some (decide (c_0≤90))) (some false))) (cond (decide (c_0≥ 65)) (some (decide (c_0≤90))) (some false)))).bind λa=>some a
theorem JM{j:Int}(i:St φ F h)(hd:DH j=some r):
 nX hC 172 [.int .u8 j] h (An (mM φ r F)):=by
 refine AT mixed func172 (JK ..) ?_;have⟨b,a,hd⟩:=bS hd;refine AY (λy k g=>∃ψ:AD,Sub φ ψ∧y.1=g∧St ψ F k) (g:=b) ?_ ?_
 ·refine mP a rfl (λa=>?_) (λa=>?_)
  ·exact lG rfl ⟨φ,sb,iS a,i⟩
  refine mP a rfl (λa=>?_) (λa=>?_)
  ·refine mP a rfl (λa=>?_) (λa=>?_)
   ·exact lG rfl ⟨φ,sb,iS a,i⟩
   refine mP a rfl (λa=>?_) (λa=>?_)
   ·exact lG rfl ⟨φ,sb,iS a,i⟩
   exact lG rfl ⟨φ,sb,iS a,i⟩
  refine mP a rfl (λa=>?_) (λa=>?_)
  ·exact lG rfl ⟨φ,sb,iS a,i⟩
  exact lG rfl ⟨φ,sb,iS a,i⟩
 rintro l e ⟨c,f,rfl,d⟩;exact AC ⟨c,l.1,sb,rfl,iS hd,d⟩
noncomputable def Gq(c_0:Int):Option Bool:=(cond (decide (c_0≥ 48)) (some (decide (c_0≤57))) (some false)).bind λa=>some a
theorem Jy{i:Int}(j:St φ F h)(hd:Gq i=some r):
 nX hC 173 [.int .u8 i] h (An (mM φ r F)):=by
 refine AT mixed func173 (Ju ..) ?_;have⟨b,a,hd⟩:=bS hd;refine AY (λy k g=>∃ψ:AD,Sub φ ψ∧y.1=g∧St ψ F k) (g:=b) ?_ ?_
 ·refine mP a rfl (λa=>?_) (λa=>?_)
  ·exact lG rfl ⟨φ,sb,iS a,j⟩
  exact lG rfl ⟨φ,sb,iS a,j⟩
 rintro l e ⟨c,f,rfl,d⟩;exact AC ⟨c,l.1,sb,rfl,iS hd,d⟩
noncomputable def FA(s_0:nI):Option Bool:=
 (C6 (σ:=Unit) (β:=Bool) 0 ((nZ s_0:Nat):Int) () λa e=>
  (need (0≤a∧a< (nZ s_0:Nat))<|
  (DH ((oX (FS s_0 (eE a)):Nat):Int)).bind λt4=>
  cond (!t4)
  (cond (a==0)
   (some true)
   (need (0≤a∧a< (nZ s_0:Nat))<|
    (Gq ((oX (FS s_0 (eE a)):Nat):Int)).bind λt5=>
    some (!t5)))
  (some false)).bind λd=>
  cond d
  (some (oZ false))
  (some (pA ()))).bind λb=>match b with
 |.next f=>
  some (!(mE s_0==mE mL))
 |.done c=>some c
theorem Ks{s_0:nI}(A:St φ F h)(hd:FA s_0=some r):
 nX hC 143 [.string s_0] h (An (mM φ r F)):=by
 refine AT mixed func143 (Kq ..) ?_;have⟨E,i,hd⟩:=bS hd;refine BQ i (λj y v g=>∃ψ:AD,Sub φ ψ∧y.1=j∧()=g∧St ψ F v) rfl ⟨φ,sb,rfl,rfl,A⟩ ?_ ?_ ?_
 ·rintro _ B G _ _ ⟨k,H,rfl,rfl,l⟩ b I m n o;refine Ad (by exact mW m) ?_;have⟨p,a,b⟩:=bS b;refine AY (λy v g=>∃ψ:AD,Sub k ψ∧y.1=g∧St ψ F v) (g:=p) ?_ ?_
  ·refine DM a id λJ a=>?_;have⟨K,q,a⟩:=bS a;refine AK (JM l q) ?_;rintro _ L ⟨d,t4,M,rfl,rfl,c⟩;refine⟨t4,rfl,mP a rfl (λa=>?_) (λa=>?_)⟩
   ·refine mP a rfl (λa=>?_) (λa=>?_)
    ·exact lG rfl ⟨d,sb,iS a,c⟩
    refine DM a id λal a=>?_;have⟨ap,s,a⟩:=bS a;refine AK (Jy c s) ?_;rintro _ N ⟨t,t5,O,rfl,rfl,u⟩;exact⟨t5,rfl,lG rfl ⟨t,sb,iS a,u⟩⟩
   exact lG rfl ⟨d,sb,iS a,c⟩
  rintro P Q ⟨e,R,rfl,f⟩;refine mP b rfl (λb=>?_) (λb=>?_)
  ·obtain rfl:=iS b;obtain rfl:=o _ rfl;obtain rfl:=iS hd;exact Ak (Ah (AC ⟨e,false,sb,rfl,rfl,f⟩))
  obtain rfl:=iS b;exact lH rfl rfl ⟨e,sb,n,rfl,f⟩
 ·rintro _ B S _ ⟨w,T,rfl,rfl,x⟩ z a0;subst a0;refine AW (by exact mV (rH.2 z))<|AJ (lI rfl ⟨_,rfl,_,w,sb,rfl,rfl,x⟩)
 rintro U V ⟨_,rfl,_,C,W,_,rfl,D⟩;exact AC ⟨C,(!(mE s_0==mE mL)),sb,rfl,iS hd,D⟩
noncomputable def Ba(s_0:nI):Option Bool:=(cond (decide (((nZ s_0:Nat):Int) ≤32)) ((FA s_0).bind λt2=>some t2) (some false)).bind λa=>some a
theorem Cc{s_0:nI}(o:St φ F h)(hd:Ba s_0=some r):
 nX hC 117 [.string s_0] h (An (mM φ r F)):=by
 refine AT mixed func117 (Km ..) ?_;have⟨b,a,hd⟩:=bS hd;refine AY (λy p g=>∃ψ:AD,Sub φ ψ∧y.1=g∧St ψ F p) (g:=b) ?_ ?_
 ·refine mP a rfl (λa=>?_) (λa=>?_)
  ·have⟨j,c,a⟩:=bS a;refine AK (Ks o c) ?_;rintro _ k ⟨d,t2,l,rfl,rfl,e⟩;exact⟨t2,rfl,lG rfl ⟨d,sb,iS a,e⟩⟩
  exact lG rfl ⟨φ,sb,iS a,o⟩
 rintro q m ⟨f,n,rfl,i⟩;exact AC ⟨f,q.1,sb,rfl,iS hd,i⟩
noncomputable def CL(p_0:JF):Option Bool:=
 cond (!(mE p_0.1==mE mL))
 ((cond (decide (((nZ p_0.1:Nat):Int) ≤32))
  (cond (mE p_0.2.1==mE mL)
   (some (!p_0.2.2))
   (some false))
  (some false)).bind λd=>
  some d)
 ((C6 (σ:=Unit) (β:=Bool) 1 ((nZ p_0.2.1:Nat):Int) () λa e=>
  need (0≤a∧a< (nZ p_0.2.1:Nat))<|
  need (0≤(bD .i64 (a - 1))∧(bD .i64 (a - 1)) < (nZ p_0.2.1:Nat))<|
  cond (decide (((oX (FS p_0.2.1 (eE a)):Nat):Int) ≤((oX (FS p_0.2.1 (eE (bD .i64 (a - 1)))):Nat):Int)))
  (some (oZ false))
  (some (pA ()))).bind λb=>match b with
  |.next f=>
   some (!(mE p_0.2.1==mE mL))
  |.done c=>some c)
theorem FK{p_0:nI×nI×Bool×Unit}(A:St φ F h)(hd:CL (p_0.1,p_0.2.1,p_0.2.2.1)=some r):
 nX hC 118 [.agg #[.string p_0.1,.string p_0.2.1,.bool p_0.2.2.1]] h (An (mM φ r F)):=by
 refine AT mixed func118 (Io ..)<|AU (vs:=[.string p_0.1,.string p_0.2.1,.bool p_0.2.2.1]) A λr1 x c=>AA c rfl<|mP hd rfl (λhd=>?_) (λhd=>?_)
 ·have⟨j,a,hd⟩:=bS hd;refine AY (λy v g=>∃ψ:AD,Sub φ ψ∧y.1=g∧St ψ (Wq3 r1 p_0::F) v) (g:=j) ?_ ?_
  ·refine AA c rfl<|mP a rfl (λa=>?_) (λa=>?_)
   ·refine AA c rfl<|mP a rfl (λa=>?_) (λa=>?_)
    ·refine AA c rfl ?_;exact lG rfl ⟨φ,sb,iS a,c⟩
    exact lG rfl ⟨φ,sb,iS a,c⟩
   exact lG rfl ⟨φ,sb,iS a,c⟩
  rintro B z ⟨k,a0,rfl,l⟩;exact AC ⟨k,B.1,sb,rfl,iS hd,l.tail⟩
 have⟨D,m,hd⟩:=bS hd;refine BQ m (λn y v g=>∃ψ:AD,Sub φ ψ∧y.1=n∧()=g∧St ψ (Wq3 r1 p_0::F) v) rfl ⟨φ,sb,rfl,rfl,c⟩ ?_ ?_ ?_
 ·rintro _ C E _ _ ⟨e,G,rfl,rfl,d⟩ b H o p q;refine AA d rfl<|Ad (by exact mW o)<|AA d rfl<|DM b id λI b=>AA d rfl<|DM b id λJ b=>mP b rfl (λb=>?_) (λb=>?_)
  ·obtain rfl:=iS b;obtain rfl:=q _ rfl;obtain rfl:=iS hd;exact Ak (Ah (AC ⟨e,false,sb,rfl,rfl,d.tail⟩))
  obtain rfl:=iS b;exact lH rfl rfl ⟨e,sb,p,rfl,d⟩
 ·rintro _ C K _ ⟨s,L,rfl,rfl,f⟩ t u;subst u;refine AA f rfl<|AW (by exact mV (rH.2 t))<|AJ (lI rfl ⟨_,rfl,_,s,sb,rfl,rfl,f⟩)
 rintro M N ⟨_,rfl,_,w,O,_,rfl,i⟩;refine AA i rfl ?_;exact AC ⟨w,(!(mE p_0.2.1==mE mL)),sb,rfl,iS hd,i.tail⟩
noncomputable def DI(s_0:nI):Option Bool:=
 cond (decide (((nZ s_0:Nat):Int) >200))
 (some false)
 ((C6 (σ:=Int) (β:=Bool) 0 ((nZ s_0:Nat):Int) 1 λa e=>
  need (0≤a∧a< (nZ s_0:Nat))<|
  (cond (((oX (FS s_0 (eE a)):Nat):Int)==123)
  (some (bD .i64 (e+1)))
  (some e)).bind λf=>
  need (0≤a∧a< (nZ s_0:Nat))<|
  (cond (((oX (FS s_0 (eE a)):Nat):Int)==125)
  (some (bD .i64 (f - 1)))
  (some f)).bind λc=>
  (cond (decide (c>4))
  (some true)
  (some (c==0))).bind λg=>
  cond g
  (some (oZ false))
  (some (pA c))).bind λb=>match b with
  |.next h=>
   some (h==1)
  |.done d=>some d)
theorem Fj{s_0:nI}(A:St φ F h)(hd:DI s_0=some r):
 nX hC 119 [.string s_0] h (An (mM φ r F)):=by
 refine AT mixed func119 (JJ ..)<|mP hd rfl (λhd=>?_) (λhd=>?_)
 ·exact AC ⟨φ,false,sb,rfl,iS hd,A⟩
 have⟨I,o,hd⟩:=bS hd;refine BQ o (λp y v g=>∃ψ:AD,Sub φ ψ∧y.1=p∧y.2.1=g∧St ψ F v) rfl ⟨φ,sb,rfl,rfl,A⟩ ?_ ?_ ?_
 ·rintro _ B J _ _ ⟨e,K,rfl,rfl,j⟩ a L q s t;refine Ad (by exact mW q)<|DM a id λM a=>?_;have⟨u,b,a⟩:=bS a;refine AY (λy v g=>∃ψ:AD,Sub e ψ∧y.1=g∧St ψ F v) (g:=u) ?_ ?_
  ·refine mP b rfl (λb=>?_) (λb=>?_)
   ·exact lG rfl ⟨e,sb,iS b,j⟩
   exact lG rfl ⟨e,sb,iS b,j⟩
  rintro N O ⟨f,al,rfl,k⟩;refine DM a id λap a=>?_;have⟨w,c,a⟩:=bS a;refine AY (λy v g=>∃ψ:AD,Sub f ψ∧y.1=g∧St ψ F v) (g:=w) ?_ ?_
  ·refine mP c rfl (λc=>?_) (λc=>?_)
   ·exact lG rfl ⟨f,sb,iS c,k⟩
   exact lG rfl ⟨f,sb,iS c,k⟩
  rintro P Q ⟨i,R,rfl,l⟩;have⟨x,d,a⟩:=bS a;refine AY (λy v g=>∃ψ:AD,Sub i ψ∧y.1=g∧St ψ F v) (g:=x) ?_ ?_
  ·refine mP d rfl (λd=>?_) (λd=>?_)
   ·exact lG rfl ⟨i,sb,iS d,l⟩
   exact lG rfl ⟨i,sb,iS d,l⟩
  rintro S T ⟨m,U,rfl,n⟩;refine mP a rfl (λa=>?_) (λa=>?_)
  ·obtain rfl:=iS a;obtain rfl:=t _ rfl;obtain rfl:=iS hd;exact Ak (Ah (AC ⟨m,false,sb,rfl,rfl,n⟩))
  obtain rfl:=iS a;exact lH rfl rfl ⟨m,sb,s,rfl,n⟩
 ·rintro _ B V _ ⟨z,W,rfl,rfl,a0⟩ C D;subst D;refine AW (by exact mV (rH.2 C))<|AJ (lI rfl ⟨_,rfl,_,z,sb,rfl,rfl,a0⟩)
 rintro E X ⟨_,rfl,_,G,Y,_,rfl,H⟩;exact AC ⟨G,(E.2.1==(1:Int)),sb,rfl,iS hd,H⟩
noncomputable def B5(l_0:List nI):Option Bool:=
 (C6 (σ:=Unit) (β:=Bool) 0 (l_0.length:Int) () λa j=>
  (idx l_0 a).bind λe=>
  (Ba e).bind λt5=>
  cond (!t5)
  (some (oZ false))
  ((C6 (σ:=Unit) (β:=Bool) 0 a () λb k=>
   (idx l_0 b).bind λf=>
   (idx l_0 a).bind λg=>
   cond (mE f==mE g)
   (some (oZ false))
   (some (pA ()))).bind λc=>match c with
   |.next l=>
    some (pA ())
   |.done h=>some (oZ h))).bind λd=>match d with
 |.next m=>
  some true
 |.done i=>some i
theorem GG{e:List nI}(c:oA oC φ l_0 e)(A:St φ F h)(hd:B5 e=some r):
 nX hC 120 [sv l_0] h (An (mM φ r F)):=by
 refine AT mixed func120 (Kp ..) ?_;have i:l_0.2.1=oK e:=c.length;have⟨ap,n,hd⟩:=bS hd;refine BQ n (λo y v g=>∃ψ:AD,Sub φ ψ∧y.1=o∧()=g∧St ψ F v) rfl ⟨φ,sb,rfl,rfl,A⟩ ?_ ?_ ?_
 ·rintro _ B O _ _ ⟨P,Q,rfl,rfl,j⟩ a R p q k;refine Ad (dT i p)<|gx c a j λS a=>?_;have⟨T,s,a⟩:=bS a;refine AK (Cc j s) ?_;rintro _ U ⟨f,t5,V,rfl,rfl,l⟩;refine⟨t5,rfl,mP a rfl (λa=>?_) (λa=>?_)⟩
  ·obtain rfl:=iS a;obtain rfl:=k _ rfl;obtain rfl:=iS hd;exact Ak (Ah (AC ⟨f,false,sb,rfl,rfl,l⟩))
  have⟨W,t,a⟩:=bS a;refine BQ t (λu y v g=>∃ψ:AD,Sub f ψ∧y.1=u∧()=g∧St ψ F v) rfl ⟨f,sb,rfl,rfl,l⟩ ?_ ?_ ?_
  ·rintro _ C X _ _ ⟨m,Y,rfl,rfl,d⟩ b ba w x z;refine Ad (by exact mW w)<|gx c b d λZ b=>gx c b d λbd b=>mP b rfl (λb=>?_) (λb=>?_)
   ·obtain rfl:=iS b;obtain rfl:=z _ rfl;obtain rfl:=iS a;obtain rfl:=k _ rfl;obtain rfl:=iS hd;exact Ak (Ah (Ak (Ah (AC ⟨m,false,sb,rfl,rfl,d⟩))))
   obtain rfl:=iS b;exact lH rfl rfl ⟨m,sb,x,rfl,d⟩
  ·rintro _ C bf _ ⟨a0,bg,rfl,rfl,D⟩ E G;subst G;refine AW (by exact mV (rH.2 E))<|AJ (lI rfl ⟨_,rfl,_,a0,sb,rfl,rfl,D⟩)
  rintro z6 bi ⟨_,rfl,_,H,bj,_,rfl,I⟩;obtain rfl:=iS a;exact lH rfl rfl ⟨H,sb,q,rfl,I⟩
 ·rintro _ B bl _ ⟨J,bn,rfl,rfl,K⟩ L M;subst M;refine AW (dF i L)<|AJ (lI rfl ⟨_,rfl,_,J,sb,rfl,rfl,K⟩)
 rintro z1 bp ⟨_,rfl,_,N,bq,_,rfl,al⟩;exact AC ⟨N,true,sb,rfl,iS hd,al⟩
end
end
section
variable {φ:AD}{h:AH}{F:List Chk}
theorem Cw:Fy hC 28 28 9 1:=⟨tG,.inl tG,⟨t9,nU,rfl,⟨_,rfl,rfl⟩,nQ,nQ⟩,nQ⟩
theorem V4:Fy hC 93 93 169 4:=⟨tH,.inl tH,⟨t169,nU,rfl,⟨_,rfl,rfl⟩,nQ,nQ⟩,nQ⟩
theorem V5:Fy hC 95 95 172 2:=⟨tJ,.inl tJ,⟨t172,nU,rfl,⟨_,rfl,rfl⟩,nQ,nQ⟩,nQ⟩
theorem Q6:Fy hC 96 96 165 4:=⟨tL,.inl tL,⟨t165,nU,rfl,⟨_,rfl,rfl⟩,nQ,nQ⟩,nQ⟩
noncomputable def DX(g_0:GF):Option Bool:=
 (cond (decide ((g_0.1.length:Int) >20))
 (some true)
 (cond (decide ((g_0.2.1.length:Int) >4))
  (some true)
  (cond (decide ((g_0.2.2.1.length:Int) >10))
   (some true)
   (cond (decide ((g_0.2.2.2.2.length:Int) < 1))
    (some true)
    (cond (decide ((g_0.2.2.2.2.length:Int) >40))
     (some true)
     ((Ba g_0.2.2.2.1).bind λN=>
      some (!N))))))).bind λO=>
 cond O
 (some false)
 ((C6 (σ:=List nI) (β:=Bool) 0 (g_0.1.length:Int) ([]:List nI) λc u=>
  (idx g_0.1 c).bind λv=>
  (app u ([v.1]:List nI)).bind λw=>
  (idx g_0.1 c).bind λe=>
  (CL (e.2.1,e.2.2.1,e.2.2.2)).bind λx=>
  cond (!x)
  (some (oZ false))
  (some (pA w))).bind λf=>match f with
  |.next y=>
   (C6 (σ:=Unit) (β:=Bool) 0 (g_0.2.1.length:Int) () λg P=>
    (idx g_0.2.1 g).bind λd=>
    (CL (d.1,d.2.1,d.2.2)).bind λz=>
    cond (!z)
    (some (oZ false))
    (some (pA ()))).bind λh=>match h with
   |.next Q=>
    (C6 (σ:=List nI) (β:=Bool) 0 (g_0.2.2.1.length:Int) ([]:List nI) λi A=>
     (idx g_0.2.2.1 i).bind λb=>
     (app A b.2).bind λB=>
     (cond (decide (b.1< 1))
     (some true)
     (cond (decide (b.1>3))
      (some true)
      (some ((b.2.length:Int)==0)))).bind λC=>
     cond C
     (some (oZ false))
     (some (pA B))).bind λj=>match j with
    |.next D=>
     (C6 (σ:=Unit) (β:=Bool) 0 (g_0.2.2.2.2.length:Int) () λk R=>
      (idx g_0.2.2.2.2 k).bind λa=>
      ((Ba a.1).bind λE=>
      cond (!E)
      (some true)
      (cond (decide ((a.2.1.length:Int) >8))
       (some true)
       (cond (!(mE a.2.2.1==mE mL))
        ((Ba a.2.2.1).bind λF=>
         cond (!F)
         (some true)
         ((DI a.2.2.2).bind λG=>
          some (!G)))
        ((DI a.2.2.2).bind λH=>
         some (!H))))).bind λI=>
      cond I
      (some (oZ false))
      ((C6 (σ:=Unit) (β:=Bool) 0 (a.2.1.length:Int) () λl S=>
       (idx a.2.1 l).bind λo=>
       (Ba o).bind λJ=>
       cond (!J)
       (some (oZ false))
       (some (pA ()))).bind λm=>match m with
       |.next T=>
        some (pA ())
       |.done p=>some (oZ p))).bind λn=>match n with
     |.next U=>
      ((B5 y).bind λK=>
      cond K
      ((B5 D).bind λL=>
       some L)
      (some false)).bind λM=>
      some M
     |.done q=>some q
    |.done r=>some r
   |.done s=>some s
  |.done t=>some t)
theorem Jz{g_0:Slc×Slc×Slc×nI×Slc×Unit}{I:List Hk}{J:List JF}{K:List Fz}{L:List Dy}(M:oA Hl φ g_0.1 I)(bb:oA ON φ g_0.2.1 J)(bd:oA HB φ g_0.2.2.1 K)(bf:oA Gk φ g_0.2.2.2.2.1 L)(s0:St φ F h){r:Bool}(hd:DX (I,J,K,g_0.2.2.2.1,L)=some r):
 nX hC 75 [.agg #[sv g_0.1,sv g_0.2.1,sv g_0.2.2.1,.string g_0.2.2.2.1,sv g_0.2.2.2.2.1]] h (An (mM φ r F)):=by
 refine AT mixed func75 (Jr ..) ?_;have al:g_0.1.2.1=oK I:=M.length;have ap:g_0.2.1.2.1=oK J:=bb.length;have N:g_0.2.2.1.2.1=oK K:=bd.length;have C:g_0.2.2.2.2.1.2.1=oK L:=bf.length;refine AU (vs:=[sv g_0.1,sv g_0.2.1,sv g_0.2.2.1,.string g_0.2.2.2.1,sv g_0.2.2.2.2.1]) s0 λr1 i4 e=>?_;have⟨d4,c,hd⟩:=bS hd;refine AY (λy v g=>∃ψ:AD,Sub φ ψ∧y.1=g∧St ψ (Wq1 r1 g_0::F) v) (g:=d4) ?_ ?_
 ·refine AA e rfl<|mP c (by rw[al] <;>rfl) (λc=>?_) (λc=>?_)
  ·exact lG rfl ⟨φ,sb,iS c,e⟩
  refine AA e rfl<|mP c (by rw[ap] <;>rfl) (λc=>?_) (λc=>?_)
  ·exact lG rfl ⟨φ,sb,iS c,e⟩
  refine AA e rfl<|mP c (by rw[N] <;>rfl) (λc=>?_) (λc=>?_)
  ·exact lG rfl ⟨φ,sb,iS c,e⟩
  refine AA e rfl<|mP c (by rw[C] <;>rfl) (λc=>?_) (λc=>?_)
  ·exact lG rfl ⟨φ,sb,iS c,e⟩
  refine AA e rfl<|mP c (by rw[C] <;>rfl) (λc=>?_) (λc=>?_)
  ·exact lG rfl ⟨φ,sb,iS c,e⟩
  refine AA e rfl ?_;have⟨i5,d5,c⟩:=bS c;refine AK (Cc e d5) ?_;rintro _ i6 ⟨d6,t9,i7,rfl,rfl,d7⟩;exact⟨t9,rfl,lG rfl ⟨d6,sb,iS c,d7⟩⟩
 rintro z2 i8 ⟨O,i9,rfl,bg⟩;refine mP hd rfl (λhd=>?_) (λhd=>?_)
 ·exact AC ⟨O,false,sb,rfl,iS hd,bg.tail⟩
 have⟨ih,d8,hd⟩:=bS hd;refine BQ d8 (λd9 y v g=>∃ψ:AD,∃bi:List nI,Sub O ψ∧y.1=d9∧bi=g∧St ψ (cR 9 oC y.2.1 bi::Wq1 r1 g_0::F) v) rfl ⟨O,[],sb,rfl,rfl,(((bg.nil 9 oC).at1).at1)⟩ ?_ ?_ ?_
 ·rintro _ P ir _ _ ⟨dd,it,ix,rfl,rfl,D⟩ d j0 dk dl dm;refine AA D.at1 rfl<|Ad (dT al dk)<|AA D.at1 rfl<|Ik Qf M d D λbj d=>AU (vs:=[.string bj.1]) D λm2 j1 bl=>?_;have⟨dn,dp,d⟩:=bS d;refine AV (ms:=([bj.1]:List nI)) Cw bl.tail rfl (pI bl) (.cons (a:=[_]) rfl .nil) rfl dp ?_;intro m3 j2 w;refine AA w.at1 rfl ?_;have⟨q,ds,d⟩:=bS d;obtain⟨j3,j4,dx,dy,e0,Q⟩:=(M.up (ψ:=dd)).get ds;refine AI _ dx (Ai dy ?_);obtain⟨_,_,rfl,rfl,⟨_,_,rfl,rfl,⟨_,_,rfl,rfl,rfl⟩⟩⟩:=e0;refine AF (by rw[Aj];exact(AG (oQ sb w.sub) (Q 1 _ rfl))) rfl<|AF (by rw[Aj,Aj];exact(AG (oQ sb w.sub) (Q 2 _ rfl))) rfl<|AF (by rw[Aj,Aj];exact(AG (oQ sb w.sub) (Q 3 _ rfl))) rfl ?_;have⟨j5,e7,d⟩:=bS d;refine AK (FK (p_0:=(q.2.1,q.2.2.1,q.2.2.2,())) w e7) ?_;rintro _ j6 ⟨bn,R,j7,rfl,rfl,bp⟩;refine⟨R,rfl,mP d rfl (λd=>?_) (λd=>?_)⟩
  ·obtain rfl:=iS d;obtain rfl:=dm _ rfl;obtain rfl:=iS hd;exact Ak (Ah (AC ⟨bn,false,sb,rfl,rfl,bp.tail.tail⟩))
  obtain rfl:=iS d;exact lH rfl rfl ⟨bn,dn,sb,dl,rfl,bp.at1.at1⟩
 ·rintro _ P j8 _ ⟨e8,e9,j9,rfl,rfl,bq⟩ ea ed;subst ed;refine AA bq.at1 rfl<|AW (dF al ea)<|AJ (lI rfl ⟨_,rfl,_,e8,e9,sb,rfl,rfl,bq.at1.at1⟩)
 rintro x ja ⟨_,rfl,_,bs,s,jb,_,rfl,ee⟩;have⟨jc,ef,hd⟩:=bS hd;refine BQ ef (λeg y v g=>∃ψ:AD,Sub bs ψ∧y.1=eg∧()=g∧St ψ (cR 9 oC x.2.1 s::Wq1 r1 g_0::F) v) rfl ⟨bs,sb,rfl,rfl,ee.at1.at1⟩ ?_ ?_ ?_
 ·rintro _ S jd _ _ ⟨je,jf,rfl,rfl,E⟩ j jg el em en;refine AA E.at1 rfl<|Ad (dT ap el)<|AA E.at1 rfl<|ZG bb j E λT j=>?_;have⟨jh,eo,j⟩:=bS j;refine AK (FK (p_0:=(T.1,T.2.1,T.2.2,())) E eo) ?_;rintro _ ji ⟨bt,U,jj,rfl,rfl,bx⟩;refine⟨U,rfl,mP j rfl (λj=>?_) (λj=>?_)⟩
  ·obtain rfl:=iS j;obtain rfl:=en _ rfl;obtain rfl:=iS hd;exact Ak (Ah (AC ⟨bt,false,sb,rfl,rfl,bx.tail.tail⟩))
  obtain rfl:=iS j;exact lH rfl rfl ⟨bt,sb,em,rfl,bx.at1.at1⟩
 ·rintro _ S jk _ ⟨er,jl,rfl,rfl,bz⟩ es ev;subst ev;refine AA bz.at1 rfl<|AW (dF ap es)<|AJ (lI rfl ⟨_,rfl,_,er,sb,rfl,rfl,bz.at1.at1⟩)
 rintro m4 jm ⟨_,rfl,_,c0,jn,_,rfl,ew⟩;have⟨jo,ex,hd⟩:=bS hd;refine BQ ex (λez y v g=>∃ψ:AD,∃c1:List nI,Sub c0 ψ∧y.1=ez∧c1=g∧St ψ (cR 9 oC y.2.1 c1::cR 9 oC x.2.1 s::Wq1 r1 g_0::F) v) rfl ⟨c0,[],sb,rfl,rfl,((((ew.nil 9 oC).at2).at2).at2)⟩ ?_ ?_ ?_
 ·rintro _ V jp _ _ ⟨z,jq,jr,rfl,rfl,a0⟩ i js f0 f1 f2;refine AA a0.at2 rfl<|Ad (dT N f0)<|AA a0.at2 rfl ?_;have⟨b3,f3,i⟩:=bS i;obtain⟨jt,ju,f4,f5,f6,c2⟩:=(bd.up (ψ:=z)).get f3;refine AI _ f4 (Ai f5 ?_);obtain⟨_,_,rfl,rfl,⟨b4,rfl,c3⟩⟩:=f6;have c4:=c3.length;refine AF (AG (oQ sb a0.sub) (c2 0 _ rfl)) rfl<|AF (by rw[Aj];exact(AG (oQ sb a0.sub) (c2 1 _ rfl))) rfl<|AU (vs:=[.int .i64 (0:Int),.slice none 0 0]) a0 λW jv f9=>AQ f9 rfl rfl λjw fa=>AQ fa rfl rfl λjx X=>AA X rfl ?_;have⟨jy,fd,fl⟩:=c3.heap X.sub;have⟨c5,fn,i⟩:=bS i;refine AV (ms:=b3.2) Cw X.at1 rfl fl fd c4.symm fn ?_;intro Y jz u;have⟨fo,k,i⟩:=bS i;refine AY (λy v g=>∃ψ:AD,Sub z ψ∧y.1=g∧St ψ (cR 9 oC Y c5::cW 172 W [.int .i64 b3.1,sv b4]::cR 9 oC x.2.1 s::Wq1 r1 g_0::F) v) (g:=fo) ?_ ?_
  ·refine AA u.at1 rfl<|mP k rfl (λk=>?_) (λk=>?_)
   ·have fr:=u.at3;exact lG rfl ⟨z,sb,iS k,fr.at3.at3.at3⟩
   refine AA u.at1 rfl<|mP k rfl (λk=>?_) (λk=>?_)
   ·have fs:=u.at3;exact lG rfl ⟨z,sb,iS k,fs.at3.at3.at3⟩
   refine AA u.at1 rfl ?_;have fv:=u.at3.at3.at3.at3;obtain rfl:=iS k;exact lG rfl ⟨z,sb,(by rw[c4]),fv⟩
  rintro m5 k0 ⟨c6,k1,rfl,c7⟩;refine mP i rfl (λi=>?_) (λi=>?_)
  ·obtain rfl:=iS i;obtain rfl:=f2 _ rfl;obtain rfl:=iS hd;exact Ak (Ah (AC ⟨c6,false,sb,rfl,rfl,c7.tail.tail.tail.tail⟩))
  obtain rfl:=iS i;exact lH rfl rfl ⟨c6,c5,sb,f1,rfl,c7.at1.tail.at2.at2.at2⟩
 ·rintro _ V k2 _ ⟨fz,g0,k3,rfl,rfl,c8⟩ g1 g2;subst g2;refine AA c8.at2 rfl<|AW (dF N g1)<|AJ (lI rfl ⟨_,rfl,_,fz,g0,sb,rfl,rfl,c8.at2.at2.at2⟩)
 rintro A k4 ⟨_,rfl,_,c9,Z,k5,_,rfl,g3⟩;have⟨k6,g4,hd⟩:=bS hd;refine BQ g4 (λg5 y v g=>∃ψ:AD,Sub c9 ψ∧y.1=g5∧()=g∧St ψ (cR 9 oC A.2.1 Z::cR 9 oC x.2.1 s::Wq1 r1 g_0::F) v) rfl ⟨c9,sb,rfl,rfl,g3.at2.at2.at2⟩ ?_ ?_ ?_
 ·rintro _ e1 k7 _ _ ⟨ch,k8,rfl,rfl,p⟩ f k9 g6 g7 cl;refine AA p.at2 rfl<|Ad (dT C g6)<|AA p.at2 rfl ?_;have⟨l,g8,f⟩:=bS f;obtain⟨ka,kb,g9,gc,gd,G⟩:=(bf.up (ψ:=ch)).get g8;refine AI _ g9 (Ai gc ?_);obtain⟨_,_,rfl,rfl,⟨_,_,rfl,⟨b7,rfl,cm⟩,gj⟩⟩:=gd;have b8:=cm.length;obtain⟨_,_,rfl,rfl,rfl⟩:=gj;refine AF (AG (oQ sb p.sub) (G 0 _ rfl)) rfl<|AF (by rw[Aj];exact(AG (oQ sb p.sub) (G 1 _ rfl))) rfl<|AF (by rw[Aj];exact(AG (oQ sb p.sub) (G 2 _ rfl))) rfl<|AF (by rw[Aj];exact(AG (oQ sb p.sub) (G 3 _ rfl))) rfl<|AU (vs:=[.string mL,.slice none 0 0,.string mL,.string mL]) p λB kc gn=>AQ gn rfl rfl λkd go=>AQ go rfl rfl λke gp=>AQ gp rfl rfl λkf gr=>AQ gr rfl rfl λkg cp=>?_;have⟨gs,b,f⟩:=bS f;refine AY (λy v g=>∃ψ:AD,Sub ch ψ∧y.1=g∧St ψ (cW 165 B [.string l.1,sv b7,.string l.2.2.1,.string l.2.2.2]::cR 9 oC A.2.1 Z::cR 9 oC x.2.1 s::Wq1 r1 g_0::F) v) (g:=gs) ?_ ?_
  ·refine AA cp rfl ?_;have⟨kh,gv,b⟩:=bS b;refine AK (Cc cp gv) ?_;rintro _ ki ⟨cs,e2,kj,rfl,rfl,o⟩;refine⟨e2,rfl,mP b rfl (λb=>?_) (λb=>?_)⟩
   ·have gw:=o.at3;exact lG rfl ⟨cs,sb,iS b,gw.at3.at3.at3⟩
   refine AA o rfl<|mP b (by rw[b8] <;>rfl) (λb=>?_) (λb=>?_)
   ·have h0:=o.at3;exact lG rfl ⟨cs,sb,iS b,h0.at3.at3.at3⟩
   refine AA o rfl<|mP b rfl (λb=>?_) (λb=>?_)
   ·refine AA o rfl ?_;have⟨kk,h1,b⟩:=bS b;refine AK (Cc o h1) ?_;rintro _ kl ⟨h2,e3,km,rfl,rfl,b9⟩;refine⟨e3,rfl,mP b rfl (λb=>?_) (λb=>?_)⟩
    ·have h3:=b9.at3;exact lG rfl ⟨h2,sb,iS b,h3.at3.at3.at3⟩
    refine AA b9 rfl ?_;have⟨kn,h4,b⟩:=bS b;refine AK (Fj b9 h4) ?_;rintro _ ko ⟨h5,e4,kp,rfl,rfl,h6⟩;exact⟨e4,rfl,lG rfl ⟨h5,sb,iS b,h6.at3.at3.at3.at3⟩⟩
   refine AA o rfl ?_;have⟨kq,h7,b⟩:=bS b;refine AK (Fj o h7) ?_;rintro _ kr ⟨h8,e5,ks,rfl,rfl,h9⟩;exact⟨e5,rfl,lG rfl ⟨h8,sb,iS b,h9.at3.at3.at3.at3⟩⟩
  rintro m6 kt ⟨ba,ku,rfl,cw⟩;refine mP f rfl (λf=>?_) (λf=>?_)
  ·obtain rfl:=iS f;obtain rfl:=cl _ rfl;obtain rfl:=iS hd;exact Ak (Ah (AC ⟨ba,false,sb,rfl,rfl,cw.tail.tail.tail.tail⟩))
  have⟨kv,hb,f⟩:=bS f;refine BQ hb (λhc y v g=>∃ψ:AD,Sub ba ψ∧y.1=hc∧()=g∧St ψ (cW 165 B [.string l.1,sv b7,.string l.2.2.1,.string l.2.2.2]::cR 9 oC A.2.1 Z::cR 9 oC x.2.1 s::Wq1 r1 g_0::F) v) rfl ⟨ba,sb,rfl,rfl,cw.at3.at3.at3.at3⟩ ?_ ?_ ?_
  ·rintro _ e6 kw _ _ ⟨kx,ky,rfl,rfl,H⟩ m kz he hf hg;refine AA H rfl<|Ad (dT b8 he)<|AA H rfl<|gx cm m H λl0 m=>?_;have⟨l1,hh,m⟩:=bS m;refine AK (Cc H hh) ?_;rintro _ l2 ⟨cx,f7,l3,rfl,rfl,d0⟩;refine⟨f7,rfl,mP m rfl (λm=>?_) (λm=>?_)⟩
   ·obtain rfl:=iS m;obtain rfl:=hg _ rfl;obtain rfl:=iS f;obtain rfl:=cl _ rfl;obtain rfl:=iS hd;exact Ak (Ah (Ak (Ah (AC ⟨cx,false,sb,rfl,rfl,d0.tail.tail.tail.tail⟩))))
   obtain rfl:=iS m;exact lH rfl rfl ⟨cx,sb,hf,rfl,d0.at3.at3.at3.at3⟩
  ·rintro _ e6 l4 _ ⟨hi,l5,rfl,rfl,d1⟩ hj hk;subst hk;refine AA d1 rfl<|AW (dF b8 hj)<|AJ (lI rfl ⟨_,rfl,_,hi,sb,rfl,rfl,d1.at3.at3.at3.at3⟩)
  rintro m7 l6 ⟨_,rfl,_,hl,l7,_,rfl,hm⟩;obtain rfl:=iS f;exact lH rfl rfl ⟨hl,sb,g7,rfl,hm.tail.at2.at2.at2⟩
 ·rintro _ e1 l8 _ ⟨hn,l9,rfl,rfl,d2⟩ ho hp;subst hp;refine AA d2.at2 rfl<|AW (dF C ho)<|AJ (lI rfl ⟨_,rfl,_,hn,sb,rfl,rfl,d2.at2.at2.at2⟩)
 rintro m8 la ⟨_,rfl,_,lb,lc,_,rfl,hq⟩;have⟨ld,le,hr,hs⟩:=oO (t:=x.2.1) hq.at1;have⟨ht,lf,hu,hv⟩:=oO (t:=A.2.1) hs;have⟨hw,n,hd⟩:=bS hd;refine AY (λy v g=>∃ψ:AD,Sub ht ψ∧y.1=g∧St ψ (Wq1 r1 g_0::F) v) (g:=hw) ?_ ?_
 ·have⟨lg,hx,n⟩:=bS n;refine AK (GG hr.up hv hx) ?_;rintro _ lh ⟨hy,f8,li,rfl,rfl,d3⟩;refine⟨f8,rfl,mP n rfl (λn=>?_) (λn=>?_)⟩
  ·have⟨lj,hz,n⟩:=bS n;refine AK (GG hu.up d3 hz) ?_;rintro _ lk ⟨i0,m0,ll,rfl,rfl,i1⟩;exact⟨m0,rfl,lG rfl ⟨i0,sb,iS n,i1⟩⟩
  exact lG rfl ⟨hy,sb,iS n,d3⟩
 rintro m1 lm ⟨i2,ln,rfl,i3⟩;exact AC ⟨i2,m1.1,sb,rfl,iS hd,i3.tail⟩
noncomputable def CC(s_0:PO):Option (List Hk×List JF×List Fz×nI×List Dy):=need ((5:Int)≠0)<|need ((4:Int)≠0)<|(forS (σ:=GF) 0 (s_0.2.2.2.2.2.1.length:Int) (([]:List Hk),([]:List JF),([]:List Fz),{data:=#[83]},([]:List Dy)) λh s=>(idx s_0.2.2.2.2.2.1 h).bind λz=>need ((3:Int)≠0)<|need (0≤h∧h≤(bD .i64 (h+1))∧(bD .i64 (h+1)) ≤(nZ {data:=#[112,113,114,115,116]} :Nat))<|(app s.2.2.1 ([((bD .i64 ((bD .i64 (bO z 3))+1)),([(hM {data:=#[112,113,114,115,116]} (eE h) (eE (bD .i64 (h+1))))]:List nI))]:List Fz)).bind λA=>some (s.1,s.2.1,A,s.2.2.2.1,s.2.2.2.2)).bind λQ=>(forS (σ:=GF) 0 (bD .i64 ((bD .i64 (bO s_0.1 5))+1)) Q λc a=>need (0≤c∧c≤(bD .i64 (c+1))∧(bD .i64 (c+1)) ≤(nZ {data:=#[97,98,99,100,101]} :Nat))<|(app a.1 ([((hM {data:=#[97,98,99,100,101]} (eE c) (eE (bD .i64 (c+1)))),(hM {data:=#[97,98,99,100,101]} (eE c) (eE (bD .i64 (c+1)))),mL,false)]:List Hk)).bind λb=>(cond (decide (c< (s_0.2.2.2.2.2.2.length:Int))) ((idx s_0.2.2.2.2.2.2 c).bind λl=>need ((bD .i64 ((((oK (b,a.2.1,a.2.2.1,a.2.2.2.1,a.2.2.2.2).2.2.1):Nat):Int)+1))≠0)<|(cond (decide ((bO (bD .i64 l) (bD .i64 ((((oK (b,a.2.1,a.2.2.1,a.2.2.2.1,a.2.2.2.2).2.2.1):Nat):Int)+1))) >0)) ((idx ((b,a.2.1,a.2.2.1,a.2.2.2.1,a.2.2.2.2).1,(b,a.2.1,a.2.2.1,a.2.2.2.1,a.2.2.2.2).2.1,(b,a.2.1,a.2.2.1,a.2.2.2.1,a.2.2.2.2).2.2.1,((b,a.2.1,a.2.2.1,a.2.2.2.1,a.2.2.2.2).2.2.2.1),(b,a.2.1,a.2.2.1,a.2.2.2.1,a.2.2.2.2).2.2.2.2).2.2.1 (bD .i64 ((bO (bD .i64 l) (bD .i64 ((((oK (b,a.2.1,a.2.2.1,a.2.2.2.1,a.2.2.2.2).2.2.1):Nat):Int)+1))) - 1))).bind λt=>(app ([]:List nI) t.2).bind λB=>(app B ([(hM {data:=#[97,98,99,100,101]} (eE c) (eE (bD .i64 (c+1))))]:List nI)).bind λC=>(idx ((b,a.2.1,a.2.2.1,a.2.2.2.1,a.2.2.2.2).1,(b,a.2.1,a.2.2.1,a.2.2.2.1,a.2.2.2.2).2.1,(b,a.2.1,a.2.2.1,a.2.2.2.1,a.2.2.2.2).2.2.1,((b,a.2.1,a.2.2.1,a.2.2.2.1,a.2.2.2.2).2.2.2.1),(b,a.2.1,a.2.2.1,a.2.2.2.1,a.2.2.2.2).2.2.2.2).2.2.1 (bD .i64 ((bO (bD .i64 l) (bD .i64 ((((oK (b,a.2.1,a.2.2.1,a.2.2.2.1,a.2.2.2.2).2.2.1):Nat):Int)+1))) - 1))).bind λu=>(DQ (((b,a.2.1,a.2.2.1,a.2.2.2.1,a.2.2.2.2).1,(b,a.2.1,a.2.2.1,a.2.2.2.1,a.2.2.2.2).2.1,(b,a.2.1,a.2.2.1,a.2.2.2.1,a.2.2.2.2).2.2.1,((b,a.2.1,a.2.2.1,a.2.2.2.1,a.2.2.2.2).2.2.2.1),(b,a.2.1,a.2.2.1,a.2.2.2.1,a.2.2.2.2).2.2.2.2).2.2.1) (bD .i64 ((bO (bD .i64 l) (bD .i64 ((((oK (b,a.2.1,a.2.2.1,a.2.2.2.1,a.2.2.2.2).2.2.1):Nat):Int)+1))) - 1)) (u.1,C)).bind λv=>some (((b,a.2.1,a.2.2.1,a.2.2.2.1,a.2.2.2.2).1,(b,a.2.1,a.2.2.1,a.2.2.2.1,a.2.2.2.2).2.1,(b,a.2.1,a.2.2.1,a.2.2.2.1,a.2.2.2.2).2.2.1,((b,a.2.1,a.2.2.1,a.2.2.2.1,a.2.2.2.2).2.2.2.1),(b,a.2.1,a.2.2.1,a.2.2.2.1,a.2.2.2.2).2.2.2.2).1,((b,a.2.1,a.2.2.1,a.2.2.2.1,a.2.2.2.2).1,(b,a.2.1,a.2.2.1,a.2.2.2.1,a.2.2.2.2).2.1,(b,a.2.1,a.2.2.1,a.2.2.2.1,a.2.2.2.2).2.2.1,((b,a.2.1,a.2.2.1,a.2.2.2.1,a.2.2.2.2).2.2.2.1),(b,a.2.1,a.2.2.1,a.2.2.2.1,a.2.2.2.2).2.2.2.2).2.1,v,(((b,a.2.1,a.2.2.1,a.2.2.2.1,a.2.2.2.2).1,(b,a.2.1,a.2.2.1,a.2.2.2.1,a.2.2.2.2).2.1,(b,a.2.1,a.2.2.1,a.2.2.2.1,a.2.2.2.2).2.2.1,((b,a.2.1,a.2.2.1,a.2.2.2.1,a.2.2.2.2).2.2.2.1),(b,a.2.1,a.2.2.1,a.2.2.2.1,a.2.2.2.2).2.2.2.2).2.2.2.1),((b,a.2.1,a.2.2.1,a.2.2.2.1,a.2.2.2.2).1,(b,a.2.1,a.2.2.1,a.2.2.2.1,a.2.2.2.2).2.1,(b,a.2.1,a.2.2.1,a.2.2.2.1,a.2.2.2.2).2.2.1,((b,a.2.1,a.2.2.1,a.2.2.2.1,a.2.2.2.2).2.2.2.1),(b,a.2.1,a.2.2.1,a.2.2.2.1,a.2.2.2.2).2.2.2.2).2.2.2.2)) (some ((b,a.2.1,a.2.2.1,a.2.2.2.1,a.2.2.2.2).1,(b,a.2.1,a.2.2.1,a.2.2.2.1,a.2.2.2.2).2.1,(b,a.2.1,a.2.2.1,a.2.2.2.1,a.2.2.2.2).2.2.1,((b,a.2.1,a.2.2.1,a.2.2.2.1,a.2.2.2.2).2.2.2.1),(b,a.2.1,a.2.2.1,a.2.2.2.1,a.2.2.2.2).2.2.2.2))).bind λD=>some D) (some (b,a.2.1,a.2.2.1,a.2.2.2.1,a.2.2.2.2))).bind λE=>some E).bind λF=>(forS (σ:=GF) 0 (s_0.2.2.1.length:Int) F λf g=>(idx s_0.2.2.1 f).bind λm=>need ((bD .i64 ((bD .i64 (bO s_0.2.1 4))+1))≠0)<|(idx s_0.2.2.1 f).bind λn=>need ((bD .i64 ((bD .i64 (bO s_0.2.1 4))+1))≠0)<|need (0≤(bO (bD .i64 m) (bD .i64 ((bD .i64 (bO s_0.2.1 4))+1)))∧(bO (bD .i64 m) (bD .i64 ((bD .i64 (bO s_0.2.1 4))+1))) ≤(bD .i64 ((bO (bD .i64 n) (bD .i64 ((bD .i64 (bO s_0.2.1 4))+1)))+1))∧(bD .i64 ((bO (bD .i64 n) (bD .i64 ((bD .i64 (bO s_0.2.1 4))+1)))+1)) ≤(nZ {data:=#[83,84,85,86]} :Nat))<|(cond (decide (f< (s_0.2.2.2.1.length:Int))) ((loop (σ:=(Int×Dy)) (β:=Dy) (0,((hM {data:=#[83,84,85,86]} (eE (bO (bD .i64 m) (bD .i64 ((bD .i64 (bO s_0.2.1 4))+1)))) (eE (bD .i64 ((bO (bD .i64 n) (bD .i64 ((bD .i64 (bO s_0.2.1 4))+1)))+1)))),([]:List nI),mL,mL)) λj=>(idx s_0.2.2.2.1 f).bind λw=>cond (decide (j.1< (w.length:Int))) ((idx s_0.2.2.2.1 f).bind λx=>(idx x j.1).bind λd=>need ((bD .i64 ((bD .i64 ((bD .i64 (bO s_0.1 5))+1))+(bD .i64 ((bD .i64 (bO s_0.2.1 4))+1))))≠0)<|need ((5:Int)≠0)<|need ((5:Int)≠0)<|need (0≤(bO (bO (bD .i64 d) (bD .i64 ((bD .i64 ((bD .i64 (bO s_0.1 5))+1))+(bD .i64 ((bD .i64 (bO s_0.2.1 4))+1))))) 5)∧(bO (bO (bD .i64 d) (bD .i64 ((bD .i64 ((bD .i64 (bO s_0.1 5))+1))+(bD .i64 ((bD .i64 (bO s_0.2.1 4))+1))))) 5) ≤(bD .i64 ((bO (bO (bD .i64 d) (bD .i64 ((bD .i64 ((bD .i64 (bO s_0.1 5))+1))+(bD .i64 ((bD .i64 (bO s_0.2.1 4))+1))))) 5)+1))∧(bD .i64 ((bO (bO (bD .i64 d) (bD .i64 ((bD .i64 ((bD .i64 (bO s_0.1 5))+1))+(bD .i64 ((bD .i64 (bO s_0.2.1 4))+1))))) 5)+1)) ≤(nZ {data:=#[97,98,99,100,101]} :Nat))<|(cond (decide ((bO (bD .i64 d) (bD .i64 ((bD .i64 ((bD .i64 (bO s_0.1 5))+1))+(bD .i64 ((bD .i64 (bO s_0.2.1 4))+1))))) ≥ (bD .i64 ((bD .i64 (bO s_0.1 5))+1)))) (need (0≤(bD .i64 ((bO (bD .i64 d) (bD .i64 ((bD .i64 ((bD .i64 (bO s_0.1 5))+1))+(bD .i64 ((bD .i64 (bO s_0.2.1 4))+1))))) - (bD .i64 ((bD .i64 (bO s_0.1 5))+1))))∧(bD .i64 ((bO (bD .i64 d) (bD .i64 ((bD .i64 ((bD .i64 (bO s_0.1 5))+1))+(bD .i64 ((bD .i64 (bO s_0.2.1 4))+1))))) - (bD .i64 ((bD .i64 (bO s_0.1 5))+1)))) ≤(bD .i64 ((bD .i64 ((bO (bD .i64 d) (bD .i64 ((bD .i64 ((bD .i64 (bO s_0.1 5))+1))+(bD .i64 ((bD .i64 (bO s_0.2.1 4))+1))))) - (bD .i64 ((bD .i64 (bO s_0.1 5))+1))))+1))∧(bD .i64 ((bD .i64 ((bO (bD .i64 d) (bD .i64 ((bD .i64 ((bD .i64 (bO s_0.1 5))+1))+(bD .i64 ((bD .i64 (bO s_0.2.1 4))+1))))) - (bD .i64 ((bD .i64 (bO s_0.1 5))+1))))+1)) ≤(nZ {data:=#[83,84,85,86]} :Nat))<|some (hM {data:=#[83,84,85,86]} (eE (bD .i64 ((bO (bD .i64 d) (bD .i64 ((bD .i64 ((bD .i64 (bO s_0.1 5))+1))+(bD .i64 ((bD .i64 (bO s_0.2.1 4))+1))))) - (bD .i64 ((bD .i64 (bO s_0.1 5))+1))))) (eE (bD .i64 ((bD .i64 ((bO (bD .i64 d) (bD .i64 ((bD .i64 ((bD .i64 (bO s_0.1 5))+1))+(bD .i64 ((bD .i64 (bO s_0.2.1 4))+1))))) - (bD .i64 ((bD .i64 (bO s_0.1 5))+1))))+1))))) (some (hM {data:=#[97,98,99,100,101]} (eE (bO (bO (bD .i64 d) (bD .i64 ((bD .i64 ((bD .i64 (bO s_0.1 5))+1))+(bD .i64 ((bD .i64 (bO s_0.2.1 4))+1))))) 5)) (eE (bD .i64 ((bO (bO (bD .i64 d) (bD .i64 ((bD .i64 ((bD .i64 (bO s_0.1 5))+1))+(bD .i64 ((bD .i64 (bO s_0.2.1 4))+1))))) 5)+1)))))).bind λG=>(app j.2.2.1 ([G]:List nI)).bind λH=>some (pA ((bD .i64 (j.1+1)),(j.2.1,H,j.2.2.2.1,j.2.2.2.2)))) (some (oZ j.2))).bind λI=>some I) (some ((hM {data:=#[83,84,85,86]} (eE (bO (bD .i64 m) (bD .i64 ((bD .i64 (bO s_0.2.1 4))+1)))) (eE (bD .i64 ((bO (bD .i64 n) (bD .i64 ((bD .i64 (bO s_0.2.1 4))+1)))+1)))),([]:List nI),mL,mL))).bind λo=>(cond (decide (f< (s_0.2.2.2.2.1.length:Int))) ((idx s_0.2.2.2.2.1 f).bind λi=>need ((bD .i64 ((g.2.2.1.length:Int)+1))≠0)<|(cond (decide ((bO (bD .i64 i) (bD .i64 ((g.2.2.1.length:Int)+1))) >0)) (need (0≤(bD .i64 ((bO (bD .i64 i) (bD .i64 ((g.2.2.1.length:Int)+1))) - 1))∧(bD .i64 ((bO (bD .i64 i) (bD .i64 ((g.2.2.1.length:Int)+1))) - 1)) ≤(bO (bD .i64 i) (bD .i64 ((g.2.2.1.length:Int)+1)))∧(bO (bD .i64 i) (bD .i64 ((g.2.2.1.length:Int)+1))) ≤(nZ {data:=#[112,113,114,115,116]} :Nat))<|some (o.1,o.2.1,(hM {data:=#[112,113,114,115,116]} (eE (bD .i64 ((bO (bD .i64 i) (bD .i64 ((g.2.2.1.length:Int)+1))) - 1))) (eE (bO (bD .i64 i) (bD .i64 ((g.2.2.1.length:Int)+1))))),o.2.2.2)) (some o)).bind λJ=>some J) (some o)).bind λr=>(app g.2.2.2.2 ([(r.1,r.2.1,r.2.2.1,r.2.2.2)]:List Dy)).bind λK=>some (g.1,g.2.1,g.2.2.1,g.2.2.2.1,K)).bind λL=>(forS (σ:=GF) 0 (bD .i64 ((bD .i64 (bO s_0.2.1 4))+1)) L λe k=>need (0≤e∧e≤(bD .i64 (e+1))∧(bD .i64 (e+1)) ≤(nZ {data:=#[83,84,85,86]} :Nat))<|(loop (σ:=(Int×Bool)) (β:=Bool) (0,false) λp=>cond (decide (p.1< (k.2.2.2.2.length:Int))) ((cond p.2 (some true) ((idx k.2.2.2.2 p.1).bind λy=>some (mE y.1==mE (hM {data:=#[83,84,85,86]} (eE e) (eE (bD .i64 (e+1))))))).bind λM=>some (pA ((bD .i64 (p.1+1)),M))) (some (oZ p.2))).bind λN=>(cond (!N) ((app k.2.2.2.2 ([((hM {data:=#[83,84,85,86]} (eE e) (eE (bD .i64 (e+1)))),([]:List nI),mL,mL)]:List Dy)).bind λO=>some (k.1,k.2.1,k.2.2.1,k.2.2.2.1,O)) (some k)).bind λP=>some P).bind λq=>some (q.1,q.2.1,q.2.2.1,q.2.2.2.1,q.2.2.2.2)
theorem GU{s_0:Int×Int×Slc×Slc×Slc×Slc×Slc×Unit}{c3:nH}{c4:List nH}{c5:nH}{c6:nH}{c7:nH}(c8:oA (oG .u8) φ s_0.2.2.1 c3)(c9:oA (tD (oG .u8)) φ s_0.2.2.2.1 c4)(dn:oA (oG .u8) φ s_0.2.2.2.2.1 c5)(dp:oA (oG .u8) φ s_0.2.2.2.2.2.1 c6)(ds:oA (oG .u8) φ s_0.2.2.2.2.2.2.1 c7)(s0:St φ F h){r:(List Hk×List JF×List Fz×nI×List Dy)}(hd:CC (s_0.1,s_0.2.1,c3,c4,c5,c6,c7)=some r):
 nX hC 42 [.agg #[.int .u8 s_0.1,.int .u8 s_0.2.1,sv s_0.2.2.1,sv s_0.2.2.2.1,sv s_0.2.2.2.2.1,sv s_0.2.2.2.2.2.1,sv s_0.2.2.2.2.2.2.1]] h (An λv h'=>∃ψ:AD,∃y:Slc×Slc×Slc×nI×Slc×Unit,∃dx:List Hk,∃dy:List JF,∃e0:List Fz,∃e1:List Dy,Sub φ ψ∧v=((.one (.agg [.slice,.slice,.slice,.string,.slice])):Sh).val y∧(dx,dy,e0,y.2.2.2.1,e1)=r∧oA Hl ψ y.1 dx∧oA ON ψ y.2.1 dy∧oA HB ψ y.2.2.1 e0∧oA Gk ψ y.2.2.2.2.1 e1∧St ψ F h'):=by
 refine AT mixed func42 (GS ..) ?_;have e2:s_0.2.2.1.2.1=oK c3:=c8.length;have h9:s_0.2.2.2.1.2.1=oK c4:=c9.length;have hb:s_0.2.2.2.2.1.2.1=oK c5:=dn.length;have e3:s_0.2.2.2.2.2.1.2.1=oK c6:=dp.length;have hc:s_0.2.2.2.2.2.2.1.2.1=oK c7:=ds.length;refine AU (vs:=[.int .u8 s_0.1,.int .u8 s_0.2.1,sv s_0.2.2.1,sv s_0.2.2.2.1,sv s_0.2.2.2.2.1,sv s_0.2.2.2.2.2.1,sv s_0.2.2.2.2.2.2.1]) s0 λr1 p4 he=>AU (vs:=[.slice none 0 0,.slice none 0 0,.slice none 0 0,.string mL,.slice none 0 0]) he λE p5 ch=>AA ch.at1 rfl<|DM hd id λp6 hd=>AA ch.at1 rfl<|DM hd id λp7 hd=>AU (vs:=[.slice none 0 0,.slice none 0 0,.slice none 0 0,.string mL,.slice none 0 0]) ch λA p8 hf=>AQ hf rfl rfl λp9 hg=>AQ hg rfl rfl λpa hh=>AQ hh rfl rfl λpb hi=>AQ hi rfl rfl λpc hj=>AQ hj rfl rfl λpd hk=>?_;have hl:=G9 (t0:=mQ) (t1:=mQ) (t2:=mQ) (t4:=mQ) (x1:=([]:List JF)) (x3:={data:=#[83]}) (((hk.nil 169 Hl).nil 172 HB).nil 165 Gk).at3.at3.at3.at3 (oH ON φ);have⟨pe,hm,hd⟩:=bS hd;refine BD hm (λhn y C g=>∃ψ:AD,∃e4:GF,Sub φ ψ∧y.1=hn∧e4=g∧St ψ (cO 98 Jn (lF A) e4::Wq4 E::Wq0 r1 s_0::F) C) rfl ⟨φ,(([]:List Hk),[],[],{data:=#[83]},([]:List Dy)),sb,rfl,rfl,hl.at2.at2.at2⟩ ?_ ?_ ?_
 ·rintro _ Z pf _ _ ⟨ho,T,pg,rfl,rfl,e5⟩ u ph hp hq;refine AA e5.at2 rfl<|Ad (dT e3 hp) ?_;have⟨pi,pj,pk,pl,hs,bj⟩:=mS e5;refine AA bj.at3 rfl<|AA bj.at5 rfl ?_;have⟨cl,ht,u⟩:=bS u;obtain⟨pm,pn,hu,hv,hw,e7⟩:=(dp.up (ψ:=ho)).get ht;refine AI _ hu (Ai hv ?_);obtain rfl:=hw;refine AF (x:=cl) (AG (oQ sb bj.sub) (e7 0 _ rfl)) rfl<|DM u id λpo u=>DM u id λpp u=>GP bj λJ pq pr bl=>AP (AG (oQ sb bl.sub) (e7 0 _ rfl))<|AP (oS (b:=r1) (j:=5) bl.at6 rfl)<|AP (oS (b:=A) (j:=2) bl.at4 rfl)<|AU (vs:=[.int .i64 (bD .i64 ((bD .i64 (bO cl (3:Int)))+(1:Int))),.slice (lF J) 1 1]) bl λj5 ps e8=>AP (oS (b:=A) (j:=2) e8.at5 rfl) ?_;have hx:=rI (r:=oC) (l:=([(hM {data:=#[112,113,114,115,116]} (eE Z.1) (eE (wN Z.1)))]:List nI)) (n:=1) e8.at1 (.cons (a:=[_]) rfl .nil) rfl nQ;have⟨hy,pt,hz,e9⟩:=oO (t:=((some ⟨J,0,none⟩,1,1):Slc)) hx;have⟨i0,i1,u⟩:=bS u;refine AV (r:=HB) (ms:=([((bD .i64 ((bD .i64 (bO cl (3:Int)))+(1:Int))),([(hM {data:=#[112,113,114,115,116]} (eE Z.1) (eE (wN Z.1)))]:List nI))]:List Fz)) V5 e9.tail.at1 rfl (pI e9) (.cons (a:=[_,_]) ⟨[_],_,rfl,rfl,⟨((some ⟨J,0,none⟩,1,1):Slc),rfl,hz⟩⟩ .nil) rfl i1 ?_;intro j8 pu i2;refine AQ i2.at3 rfl rfl λpv i3=>?_;obtain rfl:=iS u;exact lH rfl rfl ⟨hy,(T.1,T.2.1,i0,T.2.2.2.1,T.2.2.2.2),sb,hq,rfl,((((G9 (x1:=T.2.1) (x3:=(T.2.2.2.1)) i3.at3.at2.at3.at3.at3.at3.at3 hs.up).at2).at2).at2)⟩
 ·rintro _ Z pw ⟨i4,i5,px,rfl,rfl,ea⟩ i6;refine AA ea.at2 rfl<|AW (dF e3 i6)<|AJ (lI rfl ⟨_,i4,i5,sb,rfl,rfl,ea.at2.at2.at2⟩)
 rintro z6 py ⟨_,ed,i7,pz,_,rfl,i8⟩;have⟨q0,i9,hd⟩:=bS hd;refine BD i9 (λih y C g=>∃ψ:AD,∃ee:GF,Sub ed ψ∧y.1=ih∧ee=g∧St ψ (cO 98 Jn (lF A) ee::Wq4 E::Wq0 r1 s_0::F) C) rfl ⟨ed,i7,sb,rfl,rfl,i8.at2.at2.at2⟩ ?_ ?_ ?_
 ·rintro _ B q2 _ _ ⟨bn,e,q3,rfl,rfl,ir⟩ K q4 it ix;refine Ad (by exact mW it)<|DM K id λq5 K=>?_;have⟨q6,q7,q8,q9,j1,eg⟩:=mS ir;refine AA eg.at3 rfl<|AU (vs:=[.string (hM {data:=#[97,98,99,100,101]} (eE B.1) (eE (wN B.1))),.string (hM {data:=#[97,98,99,100,101]} (eE B.1) (eE (wN B.1))),.string mL,.bool false]) eg λk1 qa el=>?_;have⟨b8,j2,K⟩:=bS K;refine AV (r:=Hl) (ms:=([((hM {data:=#[97,98,99,100,101]} (eE B.1) (eE (wN B.1))),(hM {data:=#[97,98,99,100,101]} (eE B.1) (eE (wN B.1))),mL,false)]:List Hk)) V4 el.tail.at2 rfl (pI el) (.cons (a:=[_,_,_,_]) ⟨[_],_,rfl,rfl,⟨[_],_,rfl,rfl,⟨[_],_,rfl,rfl,rfl⟩⟩⟩ .nil) rfl j2 ?_;intro k2 qb j3;refine AQ j3.at3 rfl rfl λqc em=>AA em.at5 rfl ?_;have bp:=G9 (x1:=e.2.1) (x3:=(e.2.2.2.1)) em.at1.at3.at3.at3.at3.at3.at3 j1;have⟨j4,q,K⟩:=bS K;refine AY (λy C g=>∃ψ:AD,∃en:GF,Sub bn ψ∧en=g∧St ψ (cO 98 Jn (lF A) en::Wq4 E::Wq0 r1 s_0::F) C) (g:=j4) ?_ ?_
  ·refine mP q (by rw[hc] <;>rfl) (λq=>?_) (λq=>?_)
   ·refine AA bp.at2 rfl<|gx ds q bp λqd q=>?_;have⟨qe,qf,qg,qh,j6,cm⟩:=mS bp;have w:=(cm.at1).rowLen;refine AA cm.at3 rfl<|DM q (by rw[w];exact id) λqi q=>?_;have er:=G9 (x1:=e.2.1) (x3:=(e.2.2.2.1)) cm.at2.at2.at2.at3.at3.at3.at3 j6;have⟨j7,d,q⟩:=bS q;refine AY (λy C g=>∃ψ:AD,∃es:GF,Sub bn ψ∧es=g∧St ψ (cO 98 Jn (lF A) es::Wq4 E::Wq0 r1 s_0::F) C) (g:=j7) ?_ ?_
    ·refine mP d (by rw[w] <;>rfl) (λd=>?_) (λd=>?_)
     ·have⟨qj,qk,ql,qm,cp,b9⟩:=mS er;refine AA b9.at3 rfl<|AA b9.at3 rfl ?_;have⟨cw,ew,d⟩:=bS d;rw[←w]at ew;obtain⟨qn,qo,j9,ja,jb,ba⟩:=(b9.at1).get ew;refine AI _ j9 (Ai ja ?_);obtain⟨_,_,rfl,rfl,⟨je,rfl,bq⟩⟩:=jb;have cx:=bq.length;refine AF (x:=je) (by rw[Aj];exact(ba 1 _ rfl)) rfl<|DP ?_ ?_
      ·refine GP b9 λo1 qp ex bb=>AP (by rw[Aj];exact(ex _ _ (ba 1 _ rfl)))<|AP (oS (b:=A) (j:=2) bb.at4 rfl)<|AP (oS (b:=A) (j:=2) bb.at4 rfl)<|DP ?_ ?_
       ·have⟨qq,jf,jg⟩:=bq.heap bb.sub;have jh:=rI (r:=oC) (l:=([]:List nI)) (n:=0) bb .nil rfl nQ;have⟨qr,ji,d⟩:=bS d;refine AV (ms:=cw.2) Cw jh rfl jg jf cx.symm ji ?_;intro w0 qs ez;refine AP (oS (b:=A) (j:=2) ez.at4 rfl)<|AU (vs:=[.string (hM {data:=#[97,98,99,100,101]} (eE B.1) (eE (wN B.1)))]) ez λw1 qt d0=>AP (oS (b:=A) (j:=2) d0.at5 rfl) ?_;have⟨qu,jj,d⟩:=bS d;refine AV (ms:=([(hM {data:=#[97,98,99,100,101]} (eE B.1) (eE (wN B.1)))]:List nI)) Cw d0.tail rfl (pI d0) (.cons (a:=[_]) rfl .nil) rfl jj ?_;intro e6 qv d1;refine AP (oS (b:=A) (j:=2) d1.at4 rfl) ?_;have⟨qw,d2,d⟩:=bS d;rw[←w]at d2;obtain⟨qx,qy,f0,jk,jl,qz⟩:=(d1.at2).get d2;refine AI _ f0 (Ai jk ?_);obtain⟨_,_,rfl,rfl,⟨r0,rfl,r3⟩⟩:=jl;have⟨jo,r4,jp,jq⟩:=oO (t:=e6) d1;have⟨jr,f1,d⟩:=bS d;rw[←w]at f1;refine TY (j:=1) jq.at1 d2 f1 (by rintro _ ⟨_,_,rfl,rfl,⟨t1,rfl,q1⟩⟩;exact⟨[_],_,rfl,rfl,⟨e6,rfl,jp⟩⟩) rfl rfl f0 (by rw[Aj];rfl) λr6 js=>?_;exact lG rfl ⟨jo,(b8,e.2.1,jr,((e.2.2.2.1)),e.2.2.2.2),sb,iS d,((((G9 (x1:=e.2.1) (x3:=((e.2.2.2.1))) js.at2.at1.at2.at3.at3.at3.at3 cp.up).at2).at2).at2)⟩
       ·refine GP bb λw2 r7 jt bs=>AP (by rw[Aj];exact(jt _ _ (ex _ _ (ba 1 _ rfl))))<|AP (oS (b:=A) (j:=2) bs.at5 rfl)<|AP (oS (b:=A) (j:=2) bs.at5 rfl) ?_;have⟨r8,ju,jv⟩:=bq.heap bs.sub;have jw:=rI (r:=oC) (l:=([]:List nI)) (n:=0) bs.at1 .nil rfl nQ;have⟨r9,jx,d⟩:=bS d;refine AV (ms:=cw.2) Cw jw rfl jv ju cx.symm jx ?_;intro w3 ra d3;refine AP (oS (b:=A) (j:=2) d3.at5 rfl) ?_;have⟨rb,jy,d⟩:=bS d;refine AV (ms:=([(hM {data:=#[97,98,99,100,101]} (eE B.1) (eE (wN B.1)))]:List nI)) Cw d3.at1.tail rfl (pI d3.at1) (.cons (a:=[_]) rfl .nil) rfl jy ?_;intro g4 rc d4;refine AP (oS (b:=A) (j:=2) d4.at4 rfl) ?_;have⟨rd,d5,d⟩:=bS d;rw[←w]at d5;obtain⟨re,rf,f2,jz,k0,rg⟩:=(d4.at2).get d5;refine AI _ f2 (Ai jz ?_);obtain⟨_,_,rfl,rfl,⟨rh,rfl,ri⟩⟩:=k0;have⟨k3,rj,k4,k5⟩:=oO (t:=g4) d4;have⟨k6,f3,d⟩:=bS d;rw[←w]at f3;refine TY (j:=1) k5.at1 d5 f3 (by rintro _ ⟨_,_,rfl,rfl,⟨t1,rfl,q1⟩⟩;exact⟨[_],_,rfl,rfl,⟨g4,rfl,k4⟩⟩) rfl rfl f2 (by rw[Aj];rfl) λrk k7=>?_;exact lG rfl ⟨k3,(b8,e.2.1,k6,((e.2.2.2.1)),e.2.2.2.2),sb,iS d,((((G9 (x1:=e.2.1) (x3:=((e.2.2.2.1))) k7.at2.at1.at2.at3.at3.at3.at3 cp.up).at2).at2).at2)⟩
      ·refine GP b9 λw4 rl f4 d6=>AP (by rw[Aj];exact(f4 _ _ (ba 1 _ rfl)))<|AP (oS (b:=A) (j:=2) d6.at4 rfl)<|AP (oS (b:=A) (j:=2) d6.at4 rfl)<|GP d6 λw5 rm k8 bt=>AP (by rw[Aj];exact(k8 _ _ (f4 _ _ (ba 1 _ rfl))))<|AP (oS (b:=A) (j:=2) bt.at5 rfl)<|AP (oS (b:=A) (j:=2) bt.at5 rfl) ?_;have⟨rn,k9,ka⟩:=bq.heap bt.sub;have kb:=rI (r:=oC) (l:=([]:List nI)) (n:=0) bt .nil rfl nQ;have⟨rp,kc,d⟩:=bS d;refine AV (ms:=cw.2) Cw kb rfl ka k9 cx.symm kc ?_;intro w6 rq d7;refine AP (oS (b:=A) (j:=2) d7.at5 rfl) ?_;have⟨rr,kd,d⟩:=bS d;refine AV (ms:=([(hM {data:=#[97,98,99,100,101]} (eE B.1) (eE (wN B.1)))]:List nI)) Cw d7.at1.tail rfl (pI d7.at1) (.cons (a:=[_]) rfl .nil) rfl kd ?_;intro h2 rs d8;refine AP (oS (b:=A) (j:=2) d8.at4 rfl) ?_;have⟨rt,d9,d⟩:=bS d;rw[←w]at d9;obtain⟨ru,rv,f5,ke,kf,rx⟩:=(d8.at2).get d9;refine AI _ f5 (Ai ke ?_);obtain⟨_,_,rfl,rfl,⟨ry,rfl,rz⟩⟩:=kf;have⟨ki,s1,kj,kk⟩:=oO (t:=h2) d8;have⟨kl,f6,d⟩:=bS d;rw[←w]at f6;refine TY (j:=1) kk.at1 d9 f6 (by rintro _ ⟨_,_,rfl,rfl,⟨t1,rfl,q1⟩⟩;exact⟨[_],_,rfl,rfl,⟨h2,rfl,kj⟩⟩) rfl rfl f5 (by rw[Aj];rfl) λs2 km=>?_;exact lG rfl ⟨ki,(b8,e.2.1,kl,((e.2.2.2.1)),e.2.2.2.2),sb,iS d,((((G9 (x1:=e.2.1) (x3:=((e.2.2.2.1))) km.at2.at1.at2.at3.at3.at3.at3 cp.up).at2).at2).at2)⟩
     exact lG rfl ⟨bn,(b8,e.2.1,e.2.2.1,(e.2.2.2.1),e.2.2.2.2),sb,iS d,er.at2.at2.at2⟩
    rintro w7 s3 ⟨kn,ko,s4,rfl,kp⟩;exact lG rfl ⟨kn,ko,sb,iS q,kp.at2.at2.at2⟩
   exact lG rfl ⟨bn,(b8,e.2.1,e.2.2.1,e.2.2.2.1,e.2.2.2.2),sb,iS q,bp.at2.at2.at2⟩
  rintro w8 s5 ⟨kq,kr,s6,rfl,ks⟩;obtain rfl:=iS K;exact lH rfl rfl ⟨kq,kr,sb,ix,rfl,ks.at2.at2.at2⟩
 ·rintro _ B s7 ⟨kt,ku,s8,rfl,rfl,kv⟩ kw;refine AW (by exact mV (rH.2 kw))<|AJ (lI rfl ⟨_,kt,ku,sb,rfl,rfl,kv.at2.at2.at2⟩)
 rintro w9 s9 ⟨_,f7,kx,sa,_,rfl,ky⟩;have⟨sc,kz,hd⟩:=bS hd;refine BD kz (λl0 y C g=>∃ψ:AD,∃f8:GF,Sub f7 ψ∧y.1=l0∧f8=g∧St ψ (cO 98 Jn (lF A) f8::Wq4 E::Wq0 r1 s_0::F) C) rfl ⟨f7,kx,sb,rfl,rfl,ky.at2.at2.at2⟩ ?_ ?_ ?_
 ·rintro _ j0 sd _ _ ⟨z,c,se,rfl,rfl,U⟩ k sf l1 l2;refine AA U.at2 rfl<|Ad (dT e2 l1)<|AA U.at2 rfl ?_;have⟨b2,l3,k⟩:=bS k;obtain⟨sg,sh,l4,l5,l6,f9⟩:=(c8.up (ψ:=z)).get l3;refine AI _ l4 (Ai l5 ?_);obtain rfl:=l6;refine AF (AG (oQ sb U.sub) (f9 0 _ rfl)) rfl<|DM k id λsi k=>AA U.at2 rfl ?_;have⟨b3,l7,k⟩:=bS k;obtain⟨sj,sk,l8,l9,la,fa⟩:=(c8.up (ψ:=z)).get l7;refine AI _ l8 (Ai l9 ?_);obtain rfl:=la;refine AF (AG (oQ sb U.sub) (fa 0 _ rfl)) rfl<|DM k id λsl k=>DM k id λsm k=>GP U λD sn so bd=>AP (AG (oQ sb bd.sub) (fa 0 _ rfl))<|AP (oS (b:=r1) (j:=2) bd.at3 rfl)<|AP (AG (oQ sb bd.sub) (f9 0 _ rfl))<|AP (oS (b:=r1) (j:=2) bd.at3 rfl)<|AQ bd rfl rfl λsp lb=>AQ lb rfl rfl λsq lc=>AQ lc rfl rfl λsr ld=>AQ ld rfl rfl λss fd=>AA fd.at3 rfl ?_;have le:=pO (r:=oC) (cs:=[.string mL]) (x:=mL) (pO (r:=oC) (cs:=[.string mL]) (x:=mL) (fd.nil 9 oC) rfl) rfl;have lf:=pO (r:=oC) (cs:=[.string (hM {data:=#[83,84,85,86]} (eE (bO (bD .i64 b2) (bD .i64 ((bD .i64 (bO s_0.2.1 (4:Int)))+(1:Int))))) (eE (bD .i64 ((bO (bD .i64 b3) (bD .i64 ((bD .i64 (bO s_0.2.1 (4:Int)))+(1:Int))))+(1:Int)))))]) (x:=(hM {data:=#[83,84,85,86]} (eE (bO (bD .i64 b2) (bD .i64 ((bD .i64 (bO s_0.2.1 (4:Int)))+(1:Int))))) (eE (bD .i64 ((bO (bD .i64 b3) (bD .i64 ((bD .i64 (bO s_0.2.1 (4:Int)))+(1:Int))))+(1:Int)))))) (pD ((pD le).at1)) rfl;have fl:St z (cO 165 Rq0 (lF D) ((hM {data:=#[83,84,85,86]} (eE (bO (bD .i64 b2) (bD .i64 ((bD .i64 (bO s_0.2.1 (4:Int)))+(1:Int))))) (eE (bD .i64 ((bO (bD .i64 b3) (bD .i64 ((bD .i64 (bO s_0.2.1 (4:Int)))+(1:Int))))+(1:Int))))),[],mL,mL)::cO 98 Jn (lF A) c::Wq4 E::Wq0 r1 s_0::F) _:=sK (pD lf).at1;have⟨lg,L,k⟩:=bS k;refine AY (λy C g=>∃ψ:AD,∃fn:Dy,Sub z ψ∧fn=g∧St ψ (cO 165 Rq0 (lF D) fn::cO 98 Jn (lF A) c::Wq4 E::Wq0 r1 s_0::F) C) (g:=lg) ?_ ?_
  ·refine mP L (by rw[h9] <;>rfl) (λL=>?_) (λL=>?_)
   ·have lh:=fl.at3;have⟨li,lj,L⟩:=bS L;refine Af (λy C g=>∃ψ:AD,∃fo:Dy,Sub z ψ∧fo=g∧St ψ (cO 165 Rq0 (lF D) fo::cO 98 Jn (lF A) c::Wq4 E::Wq0 r1 s_0::F) C) (g:=li) ?_ ?_
    ·refine Bx lj (λy C g=>∃ψ:AD,∃fr:Dy,Sub z ψ∧(y.1,fr)=g∧St ψ (cO 165 Rq0 (lF D) fr::cO 98 Jn (lF A) c::Wq4 E::Wq0 r1 s_0::F) C) rfl ⟨z,((hM {data:=#[83,84,85,86]} (eE (bO (bD .i64 b2) (bD .i64 ((bD .i64 (bO s_0.2.1 (4:Int)))+(1:Int))))) (eE (bD .i64 ((bO (bD .i64 b3) (bD .i64 ((bD .i64 (bO s_0.2.1 (4:Int)))+(1:Int))))+(1:Int))))),[],mL,mL),sb,rfl,lh.at3.at3.at3⟩ ?_
     ·rintro x0 st _ _ ⟨bx,i,su,rfl,a0⟩ f lk;refine AA a0.at3 rfl<|gxS c9 f a0 λsw sx ll f=>?_;have lm:=ll.length;refine mP f (by rw[lm] <;>rfl) (λf=>?_) (λf=>?_)
      ·refine AA a0.at3 rfl<|gxS c9 f a0 λsy sz ln f=>gx ln f a0 λbz f=>DM f id λt3 f=>DM f id λt5 f=>DM f id λt6 f=>DM f id λt7 f=>?_;have⟨lo,M,f⟩:=bS f;refine AY (λy C g=>∃ψ:AD,Sub bx ψ∧y.1=g∧St ψ (cO 165 Rq0 (lF D) i::cO 98 Jn (lF A) c::Wq4 E::Wq0 r1 s_0::F) C) (g:=lo) ?_ ?_
       ·refine mP M rfl (λM=>?_) (λM=>?_)
        ·refine DM M id λt8 M=>?_;exact lG rfl ⟨bx,sb,iS M,a0.at3.at3.at3.at3⟩
        exact lG rfl ⟨bx,sb,iS M,a0.at3.at3.at3.at3⟩
       rintro h8 t9 ⟨dd,ta,rfl,lp⟩;obtain⟨lq,tb,fs,tc,lr⟩:=lp.open;obtain rfl:D=lq:=by simpa using fs
       clear fs;obtain⟨td,te,rfl,tf,ls⟩:=lr.at1.pair;obtain⟨lt,lu⟩:=ls.ro;subst lt;obtain⟨tg,th,rfl,ti,fv⟩:=lu.pair;obtain⟨fz,lv⟩:=fv.rowCs;subst lv;obtain⟨tj,tk,rfl,tl,lw⟩:=fv.at1.pair;obtain⟨lx,ly⟩:=lw.ro;subst lx;obtain⟨lz,m0⟩:=ly.ro;subst lz;have g0:St dd (cR 9 oC fz i.2.1::cW 165 D [.string i.1,sv fz,.string i.2.2.1,.string i.2.2.2]::cO 98 Jn (lF A) c::Wq4 E::Wq0 r1 s_0::F) _:=m0;refine AA g0.at1 rfl<|AU (vs:=[.string h8.1]) g0 λx2 tm g1=>?_;have⟨g2,m1,f⟩:=bS f;refine AV (ms:=([h8.1]:List nI)) Cw g1.tail rfl (pI g1) (.cons (a:=[_]) rfl .nil) rfl m1 ?_;intro x4 tn m2;refine AQ m2.at1 rfl rfl λtp m3=>?_;have m4:=pO (r:=oC) (cs:=[.string i.2.2.1]) (x:=(i.2.2.1)) (pO (r:=oC) (cs:=[.string i.2.2.2]) (x:=(i.2.2.2)) m3.at1 rfl) rfl;have m5:St dd (cO 165 Rq0 (lF D) (i.1,g2,i.2.2.1,i.2.2.2)::cO 98 Jn (lF A) c::Wq4 E::Wq0 r1 s_0::F) _:=sK (pD (pO (r:=oC) (cs:=[.string i.1]) (x:=(i.1)) (pD ((pD m4).at1)) rfl)).at1;obtain rfl:=iS f;exact lH rfl rfl ⟨dd,(i.1,g2,i.2.2.1,i.2.2.2),sb,rfl,m5.at3.at3.at3.at3⟩
      obtain rfl:=iS f;obtain rfl:=lk _ rfl;exact AJ (lI rfl ⟨bx,i,sb,rfl,a0.at3.at3.at3.at3⟩)
    rintro x5 tq ⟨m6,m7,tr,rfl,m8⟩;exact lG rfl ⟨m6,m7,sb,iS L,m8.at3.at3.at3.at3⟩
   exact lG rfl ⟨z,((hM {data:=#[83,84,85,86]} (eE (bO (bD .i64 b2) (bD .i64 ((bD .i64 (bO s_0.2.1 (4:Int)))+(1:Int))))) (eE (bD .i64 ((bO (bD .i64 b3) (bD .i64 ((bD .i64 (bO s_0.2.1 (4:Int)))+(1:Int))))+(1:Int))))),[],mL,mL),sb,iS L,fl.at3.at3.at3.at3⟩
  rintro x6 ts ⟨N,o,tt,rfl,bf⟩;refine AA bf.at3 rfl ?_;have⟨m9,s,k⟩:=bS k;refine AY (λy C g=>∃ψ:AD,∃g3:Dy,Sub N ψ∧g3=g∧St ψ (cO 165 Rq0 (lF D) g3::cO 98 Jn (lF A) c::Wq4 E::Wq0 r1 s_0::F) C) (g:=m9) ?_ ?_
  ·refine mP s (by rw[hb] <;>rfl) (λs=>?_) (λs=>?_)
   ·refine AA bf.at3 rfl<|gx dn s bf λH s=>?_;have⟨V,dk,I,W,mb,c0⟩:=mS bf.at1;have c1:=(c0.at1).rowLen;refine AA c0.at3 rfl<|DM s (by rw[c1];exact id) λtu s=>?_;have⟨mc,O,s⟩:=bS s;refine AY (λy C g=>∃ψ:AD,∃g5:Dy,Sub N ψ∧g5=g∧St ψ (cO 165 Rq0 (lF D) g5::cR 165 Gk W c.2.2.2.2::cR 172 HB I c.2.2.1::cR 169 Hl V c.1::cW 98 A [sv V,sv dk,sv I,.string c.2.2.2.1,sv W]::Wq4 E::Wq0 r1 s_0::F) C) (g:=mc) ?_ ?_
    ·refine mP O (by rw[c1] <;>rfl) (λO=>?_) (λO=>?_)
     ·refine DM O (by rw[c1];exact id) λtv O=>?_;obtain⟨md,tw,g6,tx,me⟩:=c0.at4.open;obtain rfl:D=md:=by simpa using g6
      clear g6;obtain⟨ty,tz,rfl,u0,mf⟩:=me.at1.pair;obtain⟨mg,mh⟩:=mf.ro;subst mg;obtain⟨u1,u2,rfl,u3,g7⟩:=mh.pair;obtain⟨g8,mi⟩:=g7.rowCs;subst mi;obtain⟨u4,u5,rfl,u6,mj⟩:=g7.at1.pair;obtain⟨mk,ml⟩:=mj.ro;subst mk;obtain⟨mm,mn⟩:=ml.ro;subst mm;have mo:St N (cR 9 oC g8 o.2.1::cW 165 D [.string o.1,sv g8,.string o.2.2.1,.string o.2.2.2]::cR 165 Gk W c.2.2.2.2::cR 172 HB I c.2.2.1::cR 169 Hl V c.1::cW 98 A [sv V,sv dk,sv I,.string c.2.2.2.1,sv W]::Wq4 E::Wq0 r1 s_0::F) _:=mn;refine AQ mo.at1 rfl rfl λu7 mp=>?_;have mq:=pO (r:=oC) (cs:=[.string (hM {data:=#[112,113,114,115,116]} (eE (bD .i64 ((bO (bD .i64 H) (bD .i64 ((I.2.1:Int)+(1:Int)))) - (1:Int)))) (eE (bO (bD .i64 H) (bD .i64 ((I.2.1:Int)+(1:Int))))))]) (x:=(hM {data:=#[112,113,114,115,116]} (eE (bD .i64 ((bO (bD .i64 H) (bD .i64 ((c.2.2.1.length:Int)+(1:Int)))) - (1:Int)))) (eE (bO (bD .i64 H) (bD .i64 ((c.2.2.1.length:Int)+(1:Int))))))) (pO (r:=oC) (cs:=[.string o.2.2.2]) (x:=(o.2.2.2)) mp.at1 rfl) (show _=_ by rw[c1];rfl);have mr:St N (cO 165 Rq0 (lF D) (o.1,o.2.1,(hM {data:=#[112,113,114,115,116]} (eE (bD .i64 ((bO (bD .i64 H) (bD .i64 ((c.2.2.1.length:Int)+(1:Int)))) - (1:Int)))) (eE (bO (bD .i64 H) (bD .i64 ((c.2.2.1.length:Int)+(1:Int)))))),o.2.2.2)::cR 165 Gk W c.2.2.2.2::cR 172 HB I c.2.2.1::cR 169 Hl V c.1::cW 98 A [sv V,sv dk,sv I,.string c.2.2.2.1,sv W]::Wq4 E::Wq0 r1 s_0::F) _:=sK (pD (pO (r:=oC) (cs:=[.string o.1]) (x:=(o.1)) (pD ((pD mq).at1)) rfl)).at1;exact lG rfl ⟨N,(o.1,o.2.1,(hM {data:=#[112,113,114,115,116]} (eE (bD .i64 ((bO (bD .i64 H) (bD .i64 ((c.2.2.1.length:Int)+(1:Int)))) - (1:Int)))) (eE (bO (bD .i64 H) (bD .i64 ((c.2.2.1.length:Int)+(1:Int)))))),o.2.2.2),sb,iS O,mr.at6.at6.at6.at6.at6.at6.at6⟩
     exact lG rfl ⟨N,o,sb,iS O,c0.at6.at6.at5.at5.at5.at5.at6⟩
    rintro x7 u9 ⟨mu,mv,ua,rfl,mw⟩;exact lG rfl ⟨mu,mv,sb,iS s,(((((G9 (x1:=c.2.1) (x3:=(c.2.2.2.1)) mw.at3.at3.at3.at4.at3.at3.at3 mb.up).at3).at3).at2).at3)⟩
   exact lG rfl ⟨N,o,sb,iS s,bf.at3.at3.at3.at3⟩
  rintro x8 ub ⟨mx,p,uc,rfl,my⟩;have⟨g9,n0,gc,gd,n1,gg⟩:=mS my.at1;refine AA gg.at3 rfl ?_;obtain⟨n2,ud,gi,ue,n3⟩:=gg.at4.open;obtain rfl:D=n2:=by simpa using gi
  clear gi;obtain⟨uf,ug,rfl,uh,n4⟩:=n3.at1.pair;obtain⟨n5,n6⟩:=n4.ro;subst n5;obtain⟨ui,uj,rfl,uk,gj⟩:=n6.pair;obtain⟨bg,n7⟩:=gj.rowCs;subst n7;obtain⟨ul,um,rfl,un,n8⟩:=gj.at1.pair;obtain⟨n9,na⟩:=n8.ro;subst n9;obtain⟨nb,nc⟩:=na.ro;subst nb;have bi:St mx (cR 9 oC bg p.2.1::cW 165 D [.string p.1,sv bg,.string p.2.2.1,.string p.2.2.2]::cR 165 Gk gd c.2.2.2.2::cR 172 HB gc c.2.2.1::cR 169 Hl g9 c.1::cW 98 A [sv g9,sv n0,sv gc,.string c.2.2.2.1,sv gd]::Wq4 E::Wq0 r1 s_0::F) _:=nc;refine AA bi.at1 rfl<|AA bi.at1 rfl<|AA bi.at1 rfl<|AA bi.at1 rfl<|AU (vs:=[.string p.1,sv bg,.string p.2.2.1,.string p.2.2.2]) bi λx9 uo nd=>?_;have⟨nf,uq,ng,gk⟩:=oO (t:=bg) nd.at1;have⟨nh,ni,k⟩:=bS k;refine AV (ms:=([(p.1,p.2.1,p.2.2.1,p.2.2.2)]:List Dy)) Q6 gk.tail.at1 rfl (pI gk) (.cons (a:=[_,_,_,_]) ⟨[_],_,rfl,rfl,⟨[_],_,rfl,⟨bg,rfl,ng⟩,⟨[_],_,rfl,rfl,rfl⟩⟩⟩ .nil) rfl ni ?_;intro y0 ur nj;refine AQ nj.at4 rfl rfl λus nk=>?_;have nl:=((((G9 (x1:=c.2.1) (x3:=(c.2.2.2.1)) nk.at4.at4.at3.at3.at3.at3.at3 n1.up).at1.tail).at2).at2).at2;obtain rfl:=iS k;exact lH rfl rfl ⟨nf,(c.1,c.2.1,c.2.2.1,c.2.2.2.1,nh),sb,l2,rfl,nl⟩
 ·rintro _ j0 ut ⟨nm,nn,uu,rfl,rfl,gl⟩ np;refine AA gl.at2 rfl<|AW (dF e2 np)<|AJ (lI rfl ⟨_,nm,nn,sb,rfl,rfl,gl.at2.at2.at2⟩)
 rintro y1 uv ⟨_,gn,nq,uw,_,rfl,nr⟩;have⟨ux,ns,hd⟩:=bS hd;refine BD ns (λnt y C g=>∃ψ:AD,∃go:GF,Sub gn ψ∧y.1=nt∧go=g∧St ψ (cO 98 Jn (lF A) go::Wq4 E::Wq0 r1 s_0::F) C) rfl ⟨gn,nq,sb,rfl,rfl,nr.at2.at2.at2⟩ ?_ ?_ ?_
 ·rintro _ G uy _ _ ⟨dl,m,uz,rfl,rfl,nu⟩ P v0 nv nw;refine Ad (by exact mW nv)<|DM P id λv1 P=>?_;have⟨nx,ny,P⟩:=bS P;refine Af (λy C g=>∃ψ:AD,Sub dl ψ∧y.2.1=g∧St ψ (cO 98 Jn (lF A) m::Wq4 E::Wq0 r1 s_0::F) C) (g:=nx) ?_ ?_
  ·refine Bx ny (λy C g=>∃ψ:AD,Sub dl ψ∧(y.1,y.2.1)=g∧St ψ (cO 98 Jn (lF A) m::Wq4 E::Wq0 r1 s_0::F) C) rfl ⟨dl,sb,rfl,nu.at2.at2.at2⟩ ?_
   ·rintro y2 v2 _ _ ⟨c2,v3,rfl,nz⟩ Q o0;have⟨gp,o2,gr,gs,gw,R⟩:=mS nz;have o3:=(R).rowLen;refine AA R.at3 rfl<|mP Q (by rw[o3] <;>rfl) (λQ=>?_) (λQ=>?_)
    ·have⟨o4,al,Q⟩:=bS Q;refine AY (λy C g=>∃ψ:AD,Sub c2 ψ∧y.1=g∧St ψ (cR 165 Gk gs m.2.2.2.2::cR 172 HB gr m.2.2.1::cR 169 Hl gp m.1::cW 98 A [sv gp,sv o2,sv gr,.string m.2.2.2.1,sv gs]::Wq4 E::Wq0 r1 s_0::F) C) (g:=o4) ?_ ?_
     ·refine mP al rfl (λal=>?_) (λal=>?_)
      ·have o5:=R.at5;exact lG rfl ⟨c2,sb,iS al,o5.at5.at5.at5.at5.at5⟩
      refine AA R.at3 rfl<|iz Tb R al λo6 al=>?_;exact lG rfl ⟨c2,sb,iS al,R.at5.at5.at5.at5.at5.at5⟩
     rintro y3 v4 ⟨o7,v5,rfl,o8⟩;obtain rfl:=iS Q;exact lH rfl rfl ⟨o7,sb,rfl,((((G9 (x1:=m.2.1) (x3:=(m.2.2.2.1)) o8.at2.at2.at2.at3.at3.at3.at3 gw.up).at2).at2).at2)⟩
    obtain rfl:=iS Q;obtain rfl:=o0 _ rfl;exact AJ (lI rfl ⟨c2,sb,rfl,((((G9 (x1:=m.2.1) (x3:=(m.2.2.2.1)) R.at2.at2.at2.at3.at3.at3.at3 gw).at2).at2).at2)⟩)
  rintro y4 v6 ⟨dm,v7,rfl,h0⟩;have⟨o9,ap,P⟩:=bS P;refine AY (λy C g=>∃ψ:AD,∃h1:GF,Sub dm ψ∧h1=g∧St ψ (cO 98 Jn (lF A) h1::Wq4 E::Wq0 r1 s_0::F) C) (g:=o9) ?_ ?_
  ·refine mP ap rfl (λap=>?_) (λap=>?_)
   ·have⟨v8,v9,va,vb,ob,h3⟩:=mS h0;refine AA h3.at3 rfl<|AU (vs:=[.string (hM {data:=#[83,84,85,86]} (eE G.1) (eE (wN G.1))),.slice none 0 0,.string mL,.string mL]) h3 λy5 vc h4=>?_;have⟨oc,od,ap⟩:=bS ap;refine AV (r:=Gk) (ms:=([((hM {data:=#[83,84,85,86]} (eE G.1) (eE (wN G.1))),[],mL,mL)]:List Dy)) Q6 h4.tail rfl (pI h4) (.cons (a:=[_,_,_,_]) ⟨[_],_,rfl,rfl,⟨[_],_,rfl,⟨((none,0,0):Slc),rfl,oH _ _⟩,⟨[_],_,rfl,rfl,rfl⟩⟩⟩ .nil) rfl od ?_;intro y6 vd oe;refine AQ oe.at3 rfl rfl λve og=>?_;exact lG rfl ⟨dm,(m.1,m.2.1,m.2.2.1,m.2.2.2.1,oc),sb,iS ap,((((G9 (x1:=m.2.1) (x3:=(m.2.2.2.1)) og.at3.at3.at3.at3.at3.at3.at3 ob).at2).at2).at2)⟩
   exact lG rfl ⟨dm,m,sb,iS ap,h0.at2.at2.at2⟩
  rintro y7 vf ⟨oh,oi,vg,rfl,oj⟩;obtain rfl:=iS P;exact lH rfl rfl ⟨oh,oi,sb,nw,rfl,oj.at2.at2.at2⟩
 ·rintro _ G vh ⟨ok,ol,vi,rfl,rfl,om⟩ on;refine AW (by exact mV (rH.2 on))<|AJ (lI rfl ⟨_,ok,ol,sb,rfl,rfl,om.at2.at2.at2⟩)
 rintro y8 vj ⟨_,vk,S,vl,_,rfl,oo⟩;have⟨h5,oq,h6,h7,os,X⟩:=mS oo;refine AA X.at3 rfl<|AA X.at3 rfl<|AA X.at3 rfl<|AA (x:=(S.2.2.2.1)) X.at3 rfl<|AA X.at3 rfl<|AQ X.at4 rfl rfl λvm ot=>AQ ot rfl rfl λvn ou=>AQ ou rfl rfl λvo ov=>AQ ov rfl rfl λvp ow=>AQ ow rfl rfl λvq Y=>AA Y rfl<|AA Y rfl<|AA Y rfl<|AA (x:=(S.2.2.2.1)) Y rfl<|AA Y rfl ?_;have⟨vr,vt,ox,oy⟩:=oO (t:=h5) Y.at3;have⟨vu,vv,oz,p0⟩:=oO (t:=h6) oy.at2;have⟨p1,vw,p2,p3⟩:=oO (t:=h7) p0.at1;exact AC ⟨p1,(h5,oq,h6,S.2.2.2.1,h7,()),S.1,S.2.1,S.2.2.1,S.2.2.2.2,sb,rfl,iS hd,ox.up,os.up,oz.up,p2,p3.tail.tail.tail⟩
end
section
variable {φ:AD}{h:AH}{F:List Chk}
theorem V6:Fy hC 29 29 156 3:=⟨tM,.inl tM,⟨t156,nU,rfl,⟨_,rfl,rfl⟩,nQ,nQ⟩,nQ⟩
theorem BR:Fy hC 30 30 3 1:=⟨pC,.inl pC,⟨t3,nU,rfl,⟨_,rfl,rfl⟩,nQ,nQ⟩,nQ⟩
noncomputable def ET(g_0:GF):Option (List nI×List nI×List Ap×nH×nH×List nI×Int×nI):=
 (DX (g_0.1,g_0.2.1,g_0.2.2.1,g_0.2.2.2.1,g_0.2.2.2.2)).bind λt8=>
 cond (!t8)
 (some (([]:List nI),[],[],[],[],[],1,mL))
 ((forS (σ:=As) 0 (g_0.2.2.2.2.length:Int) (([{data:=#[36,101,110,100]}]:List nI),[],[],([(0:Int)]:nH),([(0:Int)]:nH),([mL]:List nI)) λi a=>
  (idx g_0.2.2.2.2 i).bind λB=>
  (BN a.2.1 B.1).bind λR=>
  (cond (decide (R< 0))
  ((idx g_0.2.2.2.2 i).bind λC=>
   (app (a.1,a.2.1,a.2.2.1,a.2.2.2.1,a.2.2.2.2.1,a.2.2.2.2.2).2.1 ([C.1]:List nI)).bind λS=>
   some ((a.1,a.2.1,a.2.2.1,a.2.2.2.1,a.2.2.2.2.1,a.2.2.2.2.2).1,S,(a.1,a.2.1,a.2.2.1,a.2.2.2.1,a.2.2.2.2.1,a.2.2.2.2.2).2.2.1,(a.1,a.2.1,a.2.2.1,a.2.2.2.1,a.2.2.2.2.1,a.2.2.2.2.2).2.2.2.1,(a.1,a.2.1,a.2.2.1,a.2.2.2.1,a.2.2.2.2.1,a.2.2.2.2.2).2.2.2.2.1,(a.1,a.2.1,a.2.2.1,a.2.2.2.1,a.2.2.2.2.1,a.2.2.2.2.2).2.2.2.2.2))
  (some (a.1,a.2.1,a.2.2.1,a.2.2.2.1,a.2.2.2.2.1,a.2.2.2.2.2))).bind λn=>
  (idx g_0.2.2.2.2 i).bind λD=>
  (app n.2.2.2.2.2 ([D.2.2.2]:List nI)).bind λT=>
  some (n.1,n.2.1,n.2.2.1,n.2.2.2.1,n.2.2.2.2.1,T)).bind λU=>
  (C6 (σ:=(As×As)) (β:=(List nI×List nI×List Ap×nH×nH×List nI×Int×nI)) 0 (g_0.1.length:Int) ((([]:List nI),[],[],[],[],([]:List nI)),U) λe g=>
   (idx g_0.1 e).bind λE=>
   (BN g.2.2.1 E.1).bind λV=>
   cond (decide (V≥ 0))
   ((idx g_0.1 e).bind λF=>
    some (oZ (([]:List nI),[],[],[],[],[],15,F.1)))
   ((idx g_0.1 e).bind λG=>
    (app g.2.1 ([G.1]:List nI)).bind λW=>
    (idx g_0.1 e).bind λH=>
    (Co (g_0.1,g_0.2.1,g_0.2.2.1,g_0.2.2.2.1,g_0.2.2.2.2) H.1).bind λX=>
    (app g.2.2.2.2.1 ([X]:nH)).bind λY=>
    some (pA (g.1,(W,g.2.2.1,g.2.2.2.1,Y,g.2.2.2.2.2.1,g.2.2.2.2.2.2))))).bind λt=>match t with
  |.next I=>
   (forS (σ:=As) 0 (g_0.2.2.1.length:Int) I.2 λu o=>
    (idx g_0.2.2.1 u).bind λJ=>
    (app o.2.2.2.2.1 ([J.1]:nH)).bind λZ=>
    some (o.1,o.2.1,o.2.2.1,o.2.2.2.1,Z,o.2.2.2.2.2)).bind λf=>
   (Bw (f.1,f.2.1) g_0.2.2.2.1).bind λa0=>
   (C6 (σ:=(As×As)) (β:=(List nI×List nI×List Ap×nH×nH×List nI×Int×nI)) 0 (g_0.2.2.2.2.length:Int) (I.1,(f.1,f.2.1,([((bD .i64 ((f.1.length:Int)+(f.2.1.length:Int))),([a0]:nH),0)]:List Ap),f.2.2.2.1,f.2.2.2.2.1,f.2.2.2.2.2)) λv b=>
    (idx g_0.2.2.2.2 v).bind λd=>
    (Bw (b.2.1,b.2.2.1) d.1).bind λK=>
    (C6 (σ:=(As×Ap)) (β:=(List nI×List nI×List Ap×nH×nH×List nI×Int×nI)) 0 (d.2.1.length:Int) (b.1,(K,[],0)) λk c=>
     (idx d.2.1 k).bind λL=>
     (Bw (b.2.1,b.2.2.1) L).bind λl=>
     cond (decide (l< 0))
     ((idx d.2.1 k).bind λM=>
      some (oZ (([]:List nI),[],[],[],[],[],16,M)))
     ((app c.2.2.1 ([l]:nH)).bind λp=>
      (cond (decide (l< (b.2.1.length:Int)))
      ((idx b.2.2.2.2.1 l).bind λN=>
       some (((c.2.1,p,c.2.2.2).1),(c.2.1,p,c.2.2.2).2.1,N))
      (some (c.2.1,p,c.2.2.2))).bind λO=>
      some (pA (c.1,O)))).bind λq=>match q with
    |.next h=>
     ((cond (!(mE d.2.2.1==mE mL))
     ((Co (g_0.1,g_0.2.1,g_0.2.2.1,g_0.2.2.2.1,g_0.2.2.2.2) d.2.2.1).bind λs=>
      cond (s==0)
      (some (oZ (([]:List nI),[],[],[],[],[],16,d.2.2.1)))
      (some (pA ((h.2.1,h.2.2.1,s),h.1))))
     (some (pA (h.2,h.1)))):Option (AX (Ap×As) (List nI×List nI×List Ap×nH×nH×List nI×Int×nI))).bind λr=>match r with
     |.next m=>
      (app b.2.2.2.1 ([(m.1.1,m.1.2.1,m.1.2.2)]:List Ap)).bind λP=>
      some (pA (m.2,(b.2.1,b.2.2.1,P,b.2.2.2.2.1,b.2.2.2.2.2.1,b.2.2.2.2.2.2)))
     |.done w=>some (oZ w)
    |.done x=>some (oZ x)).bind λy=>match y with
   |.next j=>
    (BN j.2.2.1 g_0.2.2.2.1).bind λQ=>
    cond (decide (Q< 0))
    (some (([]:List nI),[],[],[],[],[],16,g_0.2.2.2.1))
    (some (j.2.1,j.2.2.1,j.2.2.2.1,j.2.2.2.2.1,j.2.2.2.2.2.1,j.2.2.2.2.2.2,0,mL))
   |.done z=>some z
  |.done A=>some A)
theorem Mu{g_0:Slc×Slc×Slc×nI×Slc×Unit}{cp:List Hk}{dd:List JF}{cw:List Fz}{cx:List Dy}(Y:oA Hl φ g_0.1 cp)(d0:oA ON φ g_0.2.1 dd)(bn:oA HB φ g_0.2.2.1 cw)(Z:oA Gk φ g_0.2.2.2.2.1 cx)(s0:St φ F h){r:(List nI×List nI×List Ap×nH×nH×List nI×Int×nI)}(hd:ET (cp,dd,cw,g_0.2.2.2.1,cx)=some r):
 nX hC 41 [.agg #[sv g_0.1,sv g_0.2.1,sv g_0.2.2.1,.string g_0.2.2.2.1,sv g_0.2.2.2.2.1]] h (An λv h'=>∃ψ:AD,∃y:(Pl6)×Int×nI×Unit,∃dk:List nI,∃dl:List nI,∃dm:List Ap,∃dn:nH,∃dp:nH,∃ds:List nI,Sub φ ψ∧v=((.tuple [(.agg [.slice,.slice,.slice,.slice,.slice,.slice]),aI,(.atom .string)]):Sh).val y∧(dk,dl,dm,dn,dp,ds,y.2.1,y.2.2.1)=r∧oA oC ψ y.1.1 dk∧oA oC ψ y.1.2.1 dl∧oA BL ψ y.1.2.2.1 dm∧oA (oG .i64) ψ y.1.2.2.2.1 dn∧oA (oG .i64) ψ y.1.2.2.2.2.1 dp∧oA oC ψ y.1.2.2.2.2.2.1 ds∧St ψ F h'):=by
 refine AT mixed func41 (Mk ..) ?_;have dx:g_0.1.2.1=oK cp:=Y.length;have dy:g_0.2.2.1.2.1=oK cw:=bn.length;have bz:g_0.2.2.2.2.1.2.1=oK cx:=Z.length;refine AU (vs:=[sv g_0.1,sv g_0.2.1,sv g_0.2.2.1,.string g_0.2.2.2.1,sv g_0.2.2.2.2.1]) s0 λr1 pl h8=>AU (vs:=[.slice none 0 0,.slice none 0 0,.slice none 0 0,.slice none 0 0,.slice none 0 0,.slice none 0 0]) h8 λG pm bi=>AA bi.at1 rfl<|AA bi.at1 rfl<|AA bi.at1 rfl<|AA bi.at1 rfl<|AA bi.at1 rfl ?_;have⟨pn,h9,hd⟩:=bS hd;refine AK (Jz (g_0:=(g_0.1,g_0.2.1,g_0.2.2.1,g_0.2.2.2.1,g_0.2.2.2.2.1,())) Y d0 bn Z bi h9) ?_;rintro _ po ⟨S,t8,pp,rfl,rfl,e0⟩;refine⟨t8,rfl,mP hd rfl (λhd=>?_) (λhd=>?_)⟩
 ·refine AQ e0 rfl rfl λpq hb=>AQ hb rfl rfl λpr hc=>AQ hc rfl rfl λps he=>AQ he rfl rfl λpt hf=>AQ hf rfl rfl λpu hg=>AQ hg rfl rfl λpv b9=>mR b9 rfl<|mR b9 rfl<|mR b9 rfl<|mR b9 rfl<|mR b9 rfl<|mR b9 rfl ?_;exact AC ⟨S,((mQ,mQ,mQ,mQ,mQ,mQ,()),(1:Int),mL,()),[],[],[],[],[],[],sb,rfl,iS hd,(oH oC S),(oH oC S),(oH BL S),(oH (oG .i64) S),(oH (oG .i64) S),(oH oC S),b9.tail.tail⟩
 refine AU (vs:=[.string ({data:=#[36,101,110,100]})]) e0 λf6 pw hh=>AU (vs:=[.int .i64 (0:Int)]) hh λh5 px hi=>AU (vs:=[.int .i64 (0:Int)]) hi λh6 py hj=>AU (vs:=[.string mL]) hj λh7 pz hk=>AU (vs:=[.slice none 0 0,.slice none 0 0,.slice none 0 0,.slice none 0 0,.slice none 0 0,.slice none 0 0]) hk λB q0 hl=>AQ hl rfl rfl λq1 hm=>AQ hm rfl rfl λq2 hn=>AQ hn rfl rfl λq3 ho=>AQ ho rfl rfl λq4 hp=>AQ hp rfl rfl λq5 hq=>AQ hq rfl rfl λq6 hr=>?_;have hs:=rI (r:=oC) (l:=([{data:=#[36,101,110,100]}]:List nI)) (n:=1) hr.at4 (.cons (a:=[_]) rfl .nil) rfl nQ;have ht:=rI (r:=(oG .i64)) (l:=([(0:Int)]:nH)) (n:=1) ((hs.nil 9 oC).nil 156 BL).at6 (.cons (a:=[_]) rfl .nil) rfl nQ;have hu:=rI (r:=(oG .i64)) (l:=([(0:Int)]:nH)) (n:=1) ht.at6 (.cons (a:=[_]) rfl .nil) rfl nQ;have hv:=rI (r:=oC) (l:=([mL]:List nI)) (n:=1) hu.at6 (.cons (a:=[_]) rfl .nil) rfl nQ;have hw:=Jm (t0:=((some ⟨f6,0,none⟩,1,1):Slc)) (t1:=mQ) (t2:=mQ) (t3:=((some ⟨h5,0,none⟩,1,1):Slc)) (t4:=((some ⟨h6,0,none⟩,1,1):Slc)) (t5:=((some ⟨h7,0,none⟩,1,1):Slc)) hv.at6.at6.at6.at6.at6.at6.at6;have⟨q7,hx,hd⟩:=bS hd;refine BD hx (λhy y H g=>∃ψ:AD,∃e1:As,Sub S ψ∧y.1=hy∧e1=g∧St ψ (cO 32 Il (lF B) e1::Wq5 G::Wq1 r1 g_0::F) H) rfl ⟨S,(([{data:=#[36,101,110,100]}]:List nI),[],[],([(0:Int)]:nH),([(0:Int)]:nH),([mL]:List nI)),sb,rfl,rfl,hw.at2.at2.at2⟩ ?_ ?_ ?_
 ·rintro _ i1 q8 _ _ ⟨q9,J,qa,rfl,rfl,e2⟩ K qb hz i0;refine AA e2.at2 rfl<|Ad (dT bz hz) ?_;have⟨qc,qd,qe,qf,qg,qh,c0⟩:=mT e2;refine AA c0.at6 rfl<|AA c0.at8 rfl<|Ik Tb Z K c0 λqi K=>?_;have⟨qj,i2,K⟩:=bS K;refine AK (Bv c0.at4 i2) ?_;rintro _ qk ⟨d1,i5,ql,rfl,rfl,i3⟩;refine⟨i5,rfl,?_⟩;have e4:=Jm i3.at5.at1.at5.at5.at5.at5.at6.at6.at6.at6.at6.at6.at6;have⟨i4,al,K⟩:=bS K;refine AY (λy H g=>∃ψ:AD,∃e5:As,Sub d1 ψ∧e5=g∧St ψ (cO 32 Il (lF B) e5::Wq5 G::Wq1 r1 g_0::F) H) (g:=i4) ?_ ?_
  ·refine mP al rfl (λal=>?_) (λal=>?_)
   ·have⟨qm,qn,qo,qp,qq,qr,c1⟩:=mT e4;refine AA c1.at6 rfl<|AA c1.at8 rfl<|Ik Tb Z al c1 λe7 al=>AU (vs:=[.string e7.1]) c1 λz1 qs d2=>AP (oS (b:=B) (j:=1) d2.at7 rfl) ?_;have⟨i6,i7,al⟩:=bS al;refine AV (r:=oC) (ms:=([e7.1]:List nI)) Cw d2.tail.at4 rfl (pI d2) (.cons (a:=[_]) rfl .nil) rfl i7 ?_;intro z2 qt i8;refine AQ i8.at6 rfl rfl λqu i9=>?_;exact lG rfl ⟨d1,(J.1,i6,J.2.2.1,J.2.2.2.1,J.2.2.2.2.1,J.2.2.2.2.2),sb,iS al,((((Jm i9.at6.at2.at6.at6.at6.at6.at6.at6.at6.at6.at6.at6.at6).at2).at2).at2)⟩
   exact lG rfl ⟨d1,(J.1,J.2.1,J.2.2.1,J.2.2.2.1,J.2.2.2.2.1,J.2.2.2.2.2),sb,iS al,e4.at2.at2.at2⟩
  rintro z3 qv ⟨ih,bp,qw,rfl,ir⟩;have⟨qx,qy,qz,r0,r3,r4,c2⟩:=mT ir;refine AA c2.at6 rfl<|AA c2.at8 rfl<|ixS cc Z K c2 λe9 K=>AU (vs:=[.string e9.2.2.2]) c2 λz4 r5 d3=>AP (oS (b:=B) (j:=5) d3.at7 rfl) ?_;have⟨ix,j0,K⟩:=bS K;refine AV (r:=oC) (ms:=([e9.2.2.2]:List nI)) Cw d3.tail rfl (pI d3) (.cons (a:=[_]) rfl .nil) rfl j0 ?_;intro z5 r6 j1;refine AQ j1.at6 rfl rfl λr7 j2=>?_;obtain rfl:=iS K;exact lH rfl rfl ⟨ih,(bp.1,bp.2.1,bp.2.2.1,bp.2.2.2.1,bp.2.2.2.2.1,ix),sb,i0,rfl,((((Jm j2.at6.at6.at6.at6.at6.at6.at6.at6.at6.at6.at6.at6.at6).at2).at2).at2)⟩
 ·rintro _ i1 r8 ⟨j3,j4,r9,rfl,rfl,ea⟩ j5;refine AA ea.at2 rfl<|AW (dF bz j5)<|AJ (lI rfl ⟨_,j3,j4,sb,rfl,rfl,ea.at2.at2.at2⟩)
 rintro z6 ra ⟨_,ed,j6,rb,_,rfl,j7⟩;have j8:=Jm (t0:=mQ) (t1:=mQ) (t2:=mQ) (t3:=mQ) (t4:=mQ) (t5:=mQ) ((((((j7.nil 9 oC).nil 9 oC).nil 156 BL).nil 3 (oG .i64)).nil 3 (oG .i64)).nil 9 oC).at7.at6.at6.at6.at6.at6.at6;have⟨rc,j9,hd⟩:=bS hd;refine BQ j9 (λja y H g=>∃ψ:AD,∃ee:As,∃ef:As,Sub ed ψ∧y.1=ja∧(ee,ef)=g∧St ψ (cO 32 Il (lF G) ee::cO 32 Il (lF B) ef::Wq1 r1 g_0::F) H) rfl ⟨ed,(([]:List nI),[],[],[],[],([]:List nI)),j6,sb,rfl,rfl,j8.at2.at2.at2⟩ ?_ ?_ ?_
 ·rintro _ p1 rd _ _ ⟨re,jb,c3,rf,rfl,rfl,eg⟩ p rg jc jd je;refine AA eg.at2 rfl<|Ad (dT dx jc) ?_;have⟨rh,ri,rj,rk,rl,rm,c4⟩:=mT eg.at1;refine AA c4.at6 rfl<|AA c4.at8 rfl<|Ik Qf Y p c4 λrn p=>?_;have⟨rp,jg,p⟩:=bS p;refine AK (Bv c4.at4 jg) ?_;rintro _ rq ⟨b6,y0,rr,rfl,rfl,ba⟩;refine⟨y0,rfl,mP p rfl (λp=>?_) (λp=>?_)⟩
  ·refine AA ba.at8 rfl ?_;have⟨em,jh,p⟩:=bS p;obtain⟨rs,rt,ji,jj,jk,en⟩:=(Y.up (ψ:=b6)).get jh;refine AI _ ji (Ai jj ?_);obtain⟨_,_,rfl,rfl,⟨_,_,rfl,rfl,⟨_,_,rfl,rfl,rfl⟩⟩⟩:=jk;refine AF (AG (oQ sb ba.sub) (en 0 _ rfl)) rfl ?_;have⟨ru,rv,rx,ry,rz,s1,js⟩:=mT ba.at7;refine AQ js.at6 rfl rfl λs2 jt=>AQ jt rfl rfl λs3 ju=>AQ ju rfl rfl λs4 jv=>AQ jv rfl rfl λs5 jw=>AQ jw rfl rfl λs6 jx=>AQ jx rfl rfl λs7 ap=>AP (AG (oQ sb ap.sub) (en 0 _ rfl))<|AP (oS (b:=r1) (j:=0) ap.at14 rfl)<|AA (x:=((none,0,0):Slc)) ap rfl<|AA (x:=((none,0,0):Slc)) ap rfl<|AA (x:=((none,0,0):Slc)) ap rfl<|AA (x:=((none,0,0):Slc)) ap rfl<|AA (x:=((none,0,0):Slc)) ap rfl<|AA (x:=((none,0,0):Slc)) ap rfl ?_;obtain rfl:=iS p;obtain rfl:=je _ rfl;obtain rfl:=iS hd;exact Ak (Ah (AC ⟨b6,((((none,0,0):Slc),((none,0,0):Slc),((none,0,0):Slc),((none,0,0):Slc),((none,0,0):Slc),((none,0,0):Slc),()),(15:Int),em.1,()),[],[],[],[],[],[],sb,rfl,rfl,(oH oC b6),(oH oC b6),(oH BL b6),(oH (oG .i64) b6),(oH (oG .i64) b6),(oH oC b6),ap.tail.tail.tail.tail.tail.tail.tail.tail.tail.tail.tail.tail.tail.tail.tail⟩))
  refine AA ba.at6 rfl<|AA ba.at8 rfl<|Ik Qf Y p ba λer p=>AU (vs:=[.string er.1]) ba λz7 s8 d4=>AP (oS (b:=B) (j:=0) d4.at7 rfl) ?_;have⟨jy,jz,p⟩:=bS p;refine AV (ms:=([er.1]:List nI)) Cw d4.tail.at5 rfl (pI d4) (.cons (a:=[_]) rfl .nil) rfl jz ?_;intro z8 s9 k0;refine AQ k0.at6 rfl rfl λsa T=>AA T rfl<|AA T.at8 rfl<|AA T.at8 rfl<|AA T.at8 rfl<|AA T.at8 rfl<|AA T.at8 rfl<|AA T.at8 rfl<|Ik Qf Y p T λsc p=>?_;have⟨sd,k1,p⟩:=bS p;refine AK (F5 (g_0:=(g_0.1,g_0.2.1,g_0.2.2.1,g_0.2.2.2.1,g_0.2.2.2.2.1,())) Y.up d0.up bn.up Z.up T k1) ?_;rintro _ se ⟨k2,e3,sf,rfl,rfl,es⟩;refine⟨e3,rfl,AP (oS (b:=B) (j:=3) es rfl)<|AU (vs:=[.int .i64 e3]) es λz9 sg d5=>AP (oS (b:=B) (j:=3) d5.at1 rfl) ?_⟩;have⟨k3,k4,p⟩:=bS p;refine AV (ms:=([e3]:nH)) BR d5.tail.at5 rfl (pI d5) (.cons (a:=[_]) rfl .nil) rfl k4 ?_;intro t75 sh k5;refine AQ k5.at1 rfl rfl λsi k6=>?_;obtain rfl:=iS p;exact lH rfl rfl ⟨k2,jb,(jy,c3.2.1,c3.2.2.1,k3,c3.2.2.2.2.1,c3.2.2.2.2.2),sb,jd,rfl,((((Jm k6.at2.at3.at6.at4.at6.at6.at6.at6.at6.at6.at6.at6.at6).at2).at1).at2)⟩
 ·rintro _ p1 sj _ ⟨k7,k8,k9,sk,rfl,rfl,ev⟩ ka kb;subst kb;refine AA ev.at2 rfl<|AW (dF dx ka)<|AJ (lI rfl ⟨_,rfl,_,k7,k8,k9,sb,rfl,rfl,ev.at2.at2.at2⟩)
 rintro z41 sl ⟨_,rfl,_,ew,ex,kc,sm,_,rfl,kd⟩;have⟨sn,ke,hd⟩:=bS hd;refine BD ke (λkf y H g=>∃ψ:AD,∃ez:As,Sub ew ψ∧y.1=kf∧ez=g∧St ψ (cO 32 Il (lF B) ez::cO 32 Il (lF G) ex::Wq1 r1 g_0::F) H) rfl ⟨ew,kc,sb,rfl,rfl,kd.at2.at1.at2⟩ ?_ ?_ ?_
 ·rintro _ y1 so _ _ ⟨kg,bq,sp,rfl,rfl,f0⟩ bs sq kh ki;refine AA f0.at2 rfl<|Ad (dT dy kh) ?_;have⟨sr,ss,st,su,sw,sx,c5⟩:=mT f0;refine AA c5.at6 rfl<|AA c5.at8 rfl<|Ik ca bn bs c5 λf2 bs=>AU (vs:=[.int .i64 f2.1]) c5 λr83 sy d6=>AP (oS (b:=B) (j:=4) d6.at7 rfl) ?_;have⟨kk,kl,bs⟩:=bS bs;refine AV (r:=(oG .i64)) (ms:=([f2.1]:nH)) BR d6.tail.at1 rfl (pI d6) (.cons (a:=[_]) rfl .nil) rfl kl ?_;intro t84 sz km;refine AQ km.at6 rfl rfl λt6 kn=>?_;obtain rfl:=iS bs;exact lH rfl rfl ⟨kg,(bq.1,bq.2.1,bq.2.2.1,bq.2.2.2.1,kk,bq.2.2.2.2.2),sb,ki,rfl,((((Jm kn.at6.at6.at6.at6.at5.at6.at6.at6.at6.at6.at6.at6.at6).at2).at2).at2)⟩
 ·rintro _ y1 t7 ⟨ko,kp,t9,rfl,rfl,f3⟩ kq;refine AA f3.at2 rfl<|AW (dF dy kq)<|AJ (lI rfl ⟨_,ko,kp,sb,rfl,rfl,f3.at2.at2.at2⟩)
 rintro z76 ta ⟨_,tb,q,tc,_,rfl,kr⟩;have⟨f4,f5,z,kt,ku,kv,I⟩:=mT kr;have kw:=(I.at5).rowLen;have kx:=(I.at4).rowLen;refine AA I.at6 rfl<|AA I.at6 rfl<|AA I.at6 rfl<|AA I.at6 rfl<|AA I.at6 rfl<|AA I.at6 rfl<|AA I.at6 rfl<|AA I.at6 rfl<|AA I.at8 rfl ?_;have⟨td,ky,hd⟩:=bS hd;refine AK (Df (p_0:=(f4,f5,z,kt,ku,kv,())) I.at5.at5.at1 ky) ?_;rintro _ te ⟨tf,L,tg,rfl,rfl,kz⟩;refine⟨L,rfl,AU (vs:=[.int .i64 L]) kz λe6 th l0=>AU (vs:=[.int .i64 (bD .i64 ((f4.2.1:Int)+(f5.2.1:Int))),.slice (lF e6) 1 1,.int .i64 (0:Int)]) l0 λy2 ti l1=>AQ l1.at8 rfl rfl λtj l2=>?_⟩;have l3:=rI (r:=(oG .i64)) (l:=([L]:nH)) (n:=1) l2.at3.at4.at4 (.cons (a:=[_]) rfl .nil) rfl nQ;have⟨f7,tk,l4,l5⟩:=oO (t:=((some ⟨e6,0,none⟩,1,1):Slc)) l3;have l6:=rI (r:=BL) (l:=([((bD .i64 ((q.1.length:Int)+(q.2.1.length:Int))),([L]:nH),(0:Int))]:List Ap)) (n:=1) l5.at3 (.cons (a:=[_,_,_]) ⟨[_],_,rfl,(show _=_ by rw[kw,kx];rfl),⟨[_],_,rfl,⟨((some ⟨e6,0,none⟩,1,1):Slc),rfl,l4⟩,rfl⟩⟩ .nil) rfl nQ;have l7:=((((Jm (t2:=((some ⟨y2,0,none⟩,1,1):Slc)) l6.at6.at6.at6.at6.at6.at6.at6.at6.at6.at6).at3).at2).at2).at3;have⟨tl,l8,hd⟩:=bS hd;refine BQ l8 (λl9 y H g=>∃ψ:AD,∃f8:As,∃f9:As,Sub f7 ψ∧y.1=l9∧(f8,f9)=g∧St ψ (cO 32 Il (lF G) f8::cO 32 Il (lF B) f9::cR 156 BL z q.2.2.1::Wq1 r1 g_0::F) H) rfl ⟨f7,ex,(q.1,q.2.1,([((bD .i64 ((q.1.length:Int)+(q.2.1.length:Int))),([L]:nH),(0:Int))]:List Ap),q.2.2.2.1,q.2.2.2.2.1,q.2.2.2.2.2),sb,rfl,rfl,l7⟩ ?_ ?_ ?_
 ·rintro _ y3 tm _ _ ⟨la,fa,c,tn,rfl,rfl,bb⟩ a0 tp lb lc fd;refine AA bb.at3 rfl<|Ad (dT bz lb)<|AA bb.at3 rfl ?_;have⟨d,ld,a0⟩:=bS a0;obtain⟨tq,tr,le,lf,lg,c6⟩:=(Z.up (ψ:=la)).get ld;refine AI _ le (Ai lf ?_);obtain⟨_,_,rfl,rfl,⟨_,_,rfl,⟨M,rfl,d7⟩,lk⟩⟩:=lg;have fl:=d7.length;obtain⟨_,_,rfl,rfl,rfl⟩:=lk;refine AF (AG (oQ sb bb.sub) (c6 0 _ rfl)) rfl<|AF (by rw[Aj];exact(AG (oQ sb bb.sub) (c6 1 _ rfl))) rfl<|AF (by rw[Aj];exact(AG (oQ sb bb.sub) (c6 2 _ rfl))) rfl<|AF (by rw[Aj];exact(AG (oQ sb bb.sub) (c6 3 _ rfl))) rfl<|AU (vs:=[.string mL,.slice none 0 0,.string mL,.string mL]) bb λC ts ln=>AQ ln rfl rfl λtt lo=>AQ lo rfl rfl λtu lp=>AQ lp rfl rfl λtv lq=>AQ lq rfl rfl λtw lr=>?_;have⟨e,f,i,k,m,o,U⟩:=mT lr.at2;have lt:=(U.at5).rowLen;refine AA U.at6 rfl<|AA U.at6 rfl<|AA U.at6 rfl<|AA U.at6 rfl<|AA U.at6 rfl<|AA U.at6 rfl<|AA U.at7 rfl ?_;have⟨tx,lu,a0⟩:=bS a0;refine AK (Df (p_0:=(e,f,i,k,m,o,())) U.at5.at5.at1 lu) ?_;rintro _ ty ⟨d8,D,tz,rfl,rfl,lv⟩;refine⟨D,rfl,AU (vs:=[.int .i64 (0:Int),.slice none 0 0,.int .i64 (0:Int)]) lv λA u0 lw=>AQ lw rfl rfl λu1 lx=>AQ lx rfl rfl λu2 ly=>AQ ly rfl rfl λu3 lz=>?_⟩;have m0:=pD ((pO (r:=(oG .i64)) (cs:=[.int .i64 (0:Int)]) (x:=(0:Int)) (lz.nil 3 (oG .i64)) rfl).at1);have m1:St d8 (cO 156 Rq1 (lF A) (D,[],(0:Int))::cR 9 oC e c.1::cR 9 oC f c.2.1::cR 9 oC o c.2.2.2.2.2::cR 3 (oG .i64) m c.2.2.2.2.1::cR 3 (oG .i64) k c.2.2.2.1::cR 156 BL i c.2.2.1::cW 32 B [sv e,sv f,sv i,sv k,sv m,sv o]::cW 165 C [.string d.1,sv M,.string d.2.2.1,.string d.2.2.2]::cO 32 Il (lF G) fa::cR 156 BL z q.2.2.1::Wq1 r1 g_0::F) _:=sK (pD (pO (r:=(oG .i64)) (cs:=[.int .i64 D]) (x:=D) m0 rfl)).at1;have⟨u4,m2,a0⟩:=bS a0;refine BQ m2 (λm3 y H g=>∃ψ:AD,∃fo:As,∃fr:Ap,Sub d8 ψ∧y.1=m3∧(fo,fr)=g∧St ψ (cO 32 Il (lF G) fo::cO 156 Rq1 (lF A) fr::cR 9 oC e c.1::cR 9 oC f c.2.1::cR 9 oC o c.2.2.2.2.2::cR 3 (oG .i64) m c.2.2.2.2.1::cR 3 (oG .i64) k c.2.2.2.1::cR 156 BL i c.2.2.1::cW 32 B [sv e,sv f,sv i,sv k,sv m,sv o]::cW 165 C [.string d.1,sv M,.string d.2.2.1,.string d.2.2.2]::cR 156 BL z q.2.2.1::Wq1 r1 g_0::F) H) rfl ⟨d8,fa,(D,[],(0:Int)),sb,rfl,rfl,m1.at11.at11.at10.at10.at10.at10.at10.at10.at10.at10.at10.at11⟩ ?_ ?_ ?_
  ·rintro _ e8 u5 _ _ ⟨u6,bj,s,u7,rfl,rfl,P⟩ u u8 m4 m5 m6;refine AA P.at9 rfl<|Ad (dT fl m4)<|AA P.at8 rfl<|AA P.at8 rfl<|AA P.at8 rfl<|AA P.at8 rfl<|AA P.at8 rfl<|AA P.at8 rfl<|AA P.at9 rfl<|gx d7 u P λu9 u=>?_;have⟨ua,m7,u⟩:=bS u;refine AK (Df (p_0:=(e,f,i,k,m,o,())) P.at2.at3.at1 m7) ?_;rintro _ ub ⟨w,N,uc,rfl,rfl,c7⟩;refine⟨N,rfl,mP u rfl (λu=>?_) (λu=>?_)⟩
   ·refine AA c7.at9 rfl ?_;have⟨fs,m8,u⟩:=bS u;obtain⟨ud,ue,m9,ma,mb,fv⟩:=(d7.up (ψ:=w)).get m8;refine AI _ m9 (Ai ma ?_);obtain rfl:=mb;refine AF (AG (oQ sb c7.sub) (fv 0 _ rfl)) rfl ?_;have⟨uf,ug,uh,ui,uj,uk,md⟩:=mT c7.at2;refine AQ md.at6 rfl rfl λul me=>AQ me rfl rfl λum mf=>AQ mf rfl rfl λun mg=>AQ mg rfl rfl λuo mh=>AQ mh rfl rfl λuq mi=>AQ mi rfl rfl λur V=>AP (AG (oQ sb V.sub) (fv 0 _ rfl))<|AP (oS (b:=C) (j:=1) V.at15 rfl)<|AA (x:=((none,0,0):Slc)) V rfl<|AA (x:=((none,0,0):Slc)) V rfl<|AA (x:=((none,0,0):Slc)) V rfl<|AA (x:=((none,0,0):Slc)) V rfl<|AA (x:=((none,0,0):Slc)) V rfl<|AA (x:=((none,0,0):Slc)) V rfl ?_;obtain rfl:=iS u;obtain rfl:=m6 _ rfl;obtain rfl:=iS a0;obtain rfl:=fd _ rfl;obtain rfl:=iS hd;exact Ak (Ah (Ak (Ah (AC ⟨w,((((none,0,0):Slc),((none,0,0):Slc),((none,0,0):Slc),((none,0,0):Slc),((none,0,0):Slc),((none,0,0):Slc),()),(16:Int),fs,()),[],[],[],[],[],[],sb,rfl,rfl,(oH oC w),(oH oC w),(oH BL w),(oH (oG .i64) w),(oH (oG .i64) w),(oH oC w),V.tail.tail.tail.tail.tail.tail.tail.tail.tail.tail.tail.tail.tail.tail.tail.tail.tail.tail⟩))))
   obtain⟨mj,us,g0,ut,mk⟩:=c7.at3.open;obtain rfl:A=mj:=by simpa using g0
   clear g0;obtain⟨uu,uv,rfl,uw,ml⟩:=mk.at1.pair;obtain⟨mm,mn⟩:=ml.ro;subst mm;obtain⟨ux,uy,rfl,uz,g1⟩:=mn.pair;obtain⟨g2,mo⟩:=g1.rowCs;subst mo;obtain⟨mp,mq⟩:=g1.at1.ro;subst mp;have g3:St w (cR 3 (oG .i64) g2 s.2.1::cW 156 A [.int .i64 s.1,sv g2,.int .i64 s.2.2]::cR 9 oC e c.1::cR 9 oC f c.2.1::cO 32 Il (lF G) bj::cR 9 oC o c.2.2.2.2.2::cR 3 (oG .i64) m c.2.2.2.2.1::cR 3 (oG .i64) k c.2.2.2.1::cR 156 BL i c.2.2.1::cW 32 B [sv e,sv f,sv i,sv k,sv m,sv o]::cW 165 C [.string d.1,sv M,.string d.2.2.1,.string d.2.2.2]::cR 156 BL z q.2.2.1::Wq1 r1 g_0::F) _:=mq;refine AA g3.at1 rfl<|AU (vs:=[.int .i64 N]) g3 λy4 v0 g4=>?_;have⟨bt,mr,u⟩:=bS u;refine AV (ms:=([N]:nH)) BR g4.tail rfl (pI g4) (.cons (a:=[_]) rfl .nil) rfl mr ?_;intro y5 v1 mu;refine AQ mu.at1 rfl rfl λv2 g5=>AA g5.at9 rfl ?_;have mv:=pO (r:=(oG .i64)) (cs:=[.int .i64 s.1]) (x:=(s.1)) (pD ((pO (r:=(oG .i64)) (cs:=[.int .i64 s.2.2]) (x:=(s.2.2)) g5.at1 rfl).at1)) rfl;have c8:St w (cO 156 Rq1 (lF A) (s.1,bt,s.2.2)::cR 9 oC e c.1::cR 9 oC f c.2.1::cO 32 Il (lF G) bj::cR 9 oC o c.2.2.2.2.2::cR 3 (oG .i64) m c.2.2.2.2.1::cR 3 (oG .i64) k c.2.2.2.1::cR 156 BL i c.2.2.1::cW 32 B [sv e,sv f,sv i,sv k,sv m,sv o]::cW 165 C [.string d.1,sv M,.string d.2.2.1,.string d.2.2.2]::cR 156 BL z q.2.2.1::Wq1 r1 g_0::F) _:=sK (pD mv).at1;have⟨mw,bd,u⟩:=bS u;refine AY (λy H g=>∃ψ:AD,∃g6:Ap,Sub w ψ∧g6=g∧St ψ (cO 156 Rq1 (lF A) g6::cR 9 oC e c.1::cR 9 oC f c.2.1::cO 32 Il (lF G) bj::cR 9 oC o c.2.2.2.2.2::cR 3 (oG .i64) m c.2.2.2.2.1::cR 3 (oG .i64) k c.2.2.2.1::cR 156 BL i c.2.2.1::cW 32 B [sv e,sv f,sv i,sv k,sv m,sv o]::cW 165 C [.string d.1,sv M,.string d.2.2.1,.string d.2.2.2]::cR 156 BL z q.2.2.1::Wq1 r1 g_0::F) H) (g:=mw) ?_ ?_
   ·refine mP bd (by rw[lt] <;>rfl) (λbd=>?_) (λbd=>?_)
    ·refine AA c8.at8 rfl<|gxO c8.at6 bd λc9 bd=>?_;obtain⟨mx,v3,g7,v4,my⟩:=c8.open;obtain rfl:A=mx:=by simpa using g7
     clear g7;obtain⟨v5,v6,rfl,v7,mz⟩:=my.at1.pair;obtain⟨n0,n1⟩:=mz.ro;subst n0;obtain⟨v8,v9,rfl,va,g8⟩:=n1.pair;obtain⟨g9,n2⟩:=g8.rowCs;subst n2;obtain⟨n3,n4⟩:=g8.at1.ro;subst n3;have n5:St w (cR 3 (oG .i64) g9 bt::cW 156 A [.int .i64 (s.1),sv g9,.int .i64 (s.2.2)]::cR 9 oC e c.1::cR 9 oC f c.2.1::cO 32 Il (lF G) bj::cR 9 oC o c.2.2.2.2.2::cR 3 (oG .i64) m c.2.2.2.2.1::cR 3 (oG .i64) k c.2.2.2.1::cR 156 BL i c.2.2.1::cW 32 B [sv e,sv f,sv i,sv k,sv m,sv o]::cW 165 C [.string d.1,sv M,.string d.2.2.1,.string d.2.2.2]::cR 156 BL z q.2.2.1::Wq1 r1 g_0::F) _:=n4;refine AQ n5.at1 rfl rfl λvb n6=>?_;have n7:=pO (r:=(oG .i64)) (cs:=[.int .i64 (s.1)]) (x:=(s.1)) (pD ((pO (r:=(oG .i64)) (cs:=[.int .i64 c9]) (x:=c9) n6.at1 rfl).at1)) rfl;have n8:St w (cO 156 Rq1 (lF A) ((s.1),bt,c9)::cR 9 oC e c.1::cR 9 oC f c.2.1::cO 32 Il (lF G) bj::cR 9 oC o c.2.2.2.2.2::cR 3 (oG .i64) m c.2.2.2.2.1::cR 3 (oG .i64) k c.2.2.2.1::cR 156 BL i c.2.2.1::cW 32 B [sv e,sv f,sv i,sv k,sv m,sv o]::cW 165 C [.string d.1,sv M,.string d.2.2.1,.string d.2.2.2]::cR 156 BL z q.2.2.1::Wq1 r1 g_0::F) _:=sK (pD n7).at1;exact lG rfl ⟨w,((s.1),bt,c9),sb,iS bd,n8.at11.at11.at11.at11.at11.at11.at11.at11.at11.at11.at11.at11⟩
    exact lG rfl ⟨w,(s.1,bt,s.2.2),sb,iS bd,c8.at11.at11.at11.at11.at11.at11.at11.at11.at11.at11.at11.at11⟩
   rintro y6 vc ⟨n9,na,vd,rfl,nb⟩;obtain rfl:=iS u;exact lH rfl rfl ⟨n9,bj,na,sb,m5,rfl,nb.at11.at11.at11.at11.at11.at11.at11.at11.at10.at10.at10.at11⟩
  ·rintro _ e8 ve _ ⟨nc,nd,nf,vf,rfl,rfl,gc⟩ ng nh;subst nh;refine AA gc.at9 rfl<|AW (dF fl ng)<|AJ (lI rfl ⟨_,rfl,_,nc,nd,nf,sb,rfl,rfl,gc.at11.at11.at11.at11.at11.at11.at11.at11.at11.at11.at11.at11⟩)
  rintro y7 vg ⟨_,rfl,_,gd,ch,Q,vh,_,rfl,W⟩;refine AA W.at9 rfl ?_;have⟨ni,O,a0⟩:=bS a0;refine AY (λy H g=>∃ψ:AD,∃gf:Ap,∃gg:As,Sub gd ψ∧pA (gf,gg)=g∧St ψ (cO 156 Rq1 (lF A) gf::cO 32 Il (lF G) gg::cR 9 oC e c.1::cR 9 oC f c.2.1::cR 9 oC o c.2.2.2.2.2::cR 3 (oG .i64) m c.2.2.2.2.1::cR 3 (oG .i64) k c.2.2.2.1::cR 156 BL i c.2.2.1::cW 32 B [sv e,sv f,sv i,sv k,sv m,sv o]::cW 165 C [.string d.1,sv M,.string d.2.2.1,.string d.2.2.2]::cR 156 BL z q.2.2.1::Wq1 r1 g_0::F) H) (g:=ni) ?_ ?_
  ·refine mP O rfl (λO=>?_) (λO=>?_)
   ·refine AA W.at11 rfl<|AA W.at11 rfl<|AA W.at11 rfl<|AA W.at11 rfl<|AA W.at11 rfl<|AA W.at9 rfl ?_;have⟨vi,nj,O⟩:=bS O;refine AK (F5 (g_0:=(g_0.1,g_0.2.1,g_0.2.2.1,g_0.2.2.2.1,g_0.2.2.2.2.1,())) Y.up d0.up bn.up Z.up W nj) ?_;rintro _ vj ⟨R,E,vk,rfl,rfl,nk⟩;refine⟨E,rfl,?_⟩;obtain⟨nl,vl,gi,vm,nm⟩:=nk.at1.open;obtain rfl:A=nl:=by simpa using gi
    clear gi;obtain⟨vn,vo,rfl,vp,nn⟩:=nm.at1.pair;obtain⟨np,nq⟩:=nn.ro;subst np;obtain⟨vq,vr,rfl,vt,gj⟩:=nq.pair;obtain⟨gk,nr⟩:=gj.rowCs;subst nr;obtain⟨ns,nt⟩:=gj.at1.ro;subst ns;have nu:St R (cR 3 (oG .i64) gk Q.2.1::cW 156 A [.int .i64 Q.1,sv gk,.int .i64 Q.2.2]::cO 32 Il (lF G) ch::cR 9 oC e c.1::cR 9 oC f c.2.1::cR 9 oC o c.2.2.2.2.2::cR 3 (oG .i64) m c.2.2.2.2.1::cR 3 (oG .i64) k c.2.2.2.1::cR 156 BL i c.2.2.1::cW 32 B [sv e,sv f,sv i,sv k,sv m,sv o]::cW 165 C [.string d.1,sv M,.string d.2.2.1,.string d.2.2.2]::cR 156 BL z q.2.2.1::Wq1 r1 g_0::F) _:=nt;refine AQ nu.at1 rfl rfl λvu cl=>AA cl rfl<|mP O rfl (λO=>?_) (λO=>?_)
    ·refine AA cl.at10 rfl ?_;have⟨vv,vw,vx,vy,vz,w0,nw⟩:=mT cl.at2;refine AQ nw.at6 rfl rfl λw1 nx=>AQ nx rfl rfl λw2 ny=>AQ ny rfl rfl λw3 nz=>AQ nz rfl rfl λw4 o0=>AQ o0 rfl rfl λw5 o1=>AQ o1 rfl rfl λw6 b7=>AP (oS (b:=C) (j:=2) b7.at16 rfl)<|AA (x:=((none,0,0):Slc)) b7 rfl<|AA (x:=((none,0,0):Slc)) b7 rfl<|AA (x:=((none,0,0):Slc)) b7 rfl<|AA (x:=((none,0,0):Slc)) b7 rfl<|AA (x:=((none,0,0):Slc)) b7 rfl<|AA (x:=((none,0,0):Slc)) b7 rfl ?_;obtain rfl:=iS O;obtain rfl:=iS a0;obtain rfl:=fd _ rfl;obtain rfl:=iS hd;exact ZF (Ak (Ah (AC ⟨R,((((none,0,0):Slc),((none,0,0):Slc),((none,0,0):Slc),((none,0,0):Slc),((none,0,0):Slc),((none,0,0):Slc),()),(16:Int),d.2.2.1,()),[],[],[],[],[],[],sb,rfl,rfl,(oH oC R),(oH oC R),(oH BL R),(oH (oG .i64) R),(oH (oG .i64) R),(oH oC R),b7.tail.tail.tail.tail.tail.tail.tail.tail.tail.tail.tail.tail.tail.tail.tail.tail.tail.tail.tail⟩)))
    have o2:=pO (r:=(oG .i64)) (cs:=[.int .i64 Q.1]) (x:=(Q.1)) (pD ((pO (r:=(oG .i64)) (cs:=[.int .i64 E]) (x:=E) cl.at1 rfl).at1)) rfl;have o3:St R (cO 156 Rq1 (lF A) (Q.1,Q.2.1,E)::cO 32 Il (lF G) ch::cR 9 oC e c.1::cR 9 oC f c.2.1::cR 9 oC o c.2.2.2.2.2::cR 3 (oG .i64) m c.2.2.2.2.1::cR 3 (oG .i64) k c.2.2.2.1::cR 156 BL i c.2.2.1::cW 32 B [sv e,sv f,sv i,sv k,sv m,sv o]::cW 165 C [.string d.1,sv M,.string d.2.2.1,.string d.2.2.2]::cR 156 BL z q.2.2.1::Wq1 r1 g_0::F) _:=sK (pD o2).at1;exact lG rfl ⟨R,(Q.1,Q.2.1,E),ch,sb,iS O,o3.at11.at11.at11.at11.at11.at11.at11.at11.at11.at11.at11.at11⟩
   exact lG rfl ⟨gd,Q,ch,sb,iS O,W.at11.at11.at11.at11.at11.at11.at11.at11.at11.at11.at10.at11⟩
  rintro y8 w7 ⟨o4,a9,gn,w8,rfl,go⟩;refine AA go.at8 rfl ?_;obtain⟨o5,w9,gp,wa,o6⟩:=go.open;obtain rfl:A=o5:=by simpa using gp
  clear gp;obtain⟨wb,wc,rfl,wd,o7⟩:=o6.at1.pair;obtain⟨o8,o9⟩:=o7.ro;subst o8;obtain⟨we,wf,rfl,wg,gr⟩:=o9.pair;obtain⟨bx,oa⟩:=gr.rowCs;subst oa;obtain⟨ob,oc⟩:=gr.at1.ro;subst ob;have cm:St o4 (cR 3 (oG .i64) bx a9.2.1::cW 156 A [.int .i64 a9.1,sv bx,.int .i64 a9.2.2]::cO 32 Il (lF G) gn::cR 9 oC e c.1::cR 9 oC f c.2.1::cR 9 oC o c.2.2.2.2.2::cR 3 (oG .i64) m c.2.2.2.2.1::cR 3 (oG .i64) k c.2.2.2.1::cR 156 BL i c.2.2.1::cW 32 B [sv e,sv f,sv i,sv k,sv m,sv o]::cW 165 C [.string d.1,sv M,.string d.2.2.1,.string d.2.2.2]::cR 156 BL z q.2.2.1::Wq1 r1 g_0::F) _:=oc;refine AA cm.at1 rfl<|AA cm.at1 rfl<|AA cm.at1 rfl<|AU (vs:=[.int .i64 a9.1,sv bx,.int .i64 a9.2.2]) cm λy9 wh od=>?_;have⟨oe,wi,og,gs⟩:=oO (t:=bx) od.at1;have⟨oh,oi,a0⟩:=bS a0;refine AV (ms:=([(a9.1,a9.2.1,a9.2.2)]:List Ap)) V6 gs.tail.at7 rfl (pI gs) (.cons (a:=[_,_,_]) ⟨[_],_,rfl,rfl,⟨[_],_,rfl,⟨bx,rfl,og⟩,rfl⟩⟩ .nil) rfl oi ?_;intro z0 wj oj;refine AQ oj.at8 rfl rfl λwk ok=>?_;obtain rfl:=iS a0;exact lH rfl rfl ⟨oe,gn,(c.1,c.2.1,oh,c.2.2.2.1,c.2.2.2.2.1,c.2.2.2.2.2),sb,lc,rfl,(((((((Jm ok.at4.at5.at3.at8.at8.at8.at6.at6.at6.at6.at6.at6.at6).at1.tail).at2.tail).at3).at3).at2).at3)⟩
 ·rintro _ y3 wl _ ⟨ol,om,on,wm,rfl,rfl,gv⟩ oo op;subst op;refine AA gv.at3 rfl<|AW (dF bz oo)<|AJ (lI rfl ⟨_,rfl,_,ol,om,on,sb,rfl,rfl,gv.at3.at3.at3.at3⟩)
 rintro z97 wn ⟨_,rfl,_,wo,wp,bl,wq,_,rfl,oq⟩;have⟨gw,h0,h1,h2,h3,h4,d9⟩:=mT oq.at1;refine AA d9.at6 rfl<|AA d9.at9 rfl ?_;have⟨wr,ot,hd⟩:=bS hd;refine AK (Bv d9.at4 ot) ?_;rintro _ ws ⟨bf,f1,wt,rfl,rfl,X⟩;refine⟨f1,rfl,mP hd rfl (λhd=>?_) (λhd=>?_)⟩
 ·refine AA X.at9 rfl ?_;have⟨wu,wv,ww,wx,wy,wz,ov⟩:=mT X.at7;refine AQ ov.at6 rfl rfl λx0 ow=>AQ ow rfl rfl λx1 ox=>AQ ox rfl rfl λx2 oy=>AQ oy rfl rfl λx3 oz=>AQ oz rfl rfl λx4 p0=>AQ p0 rfl rfl λx5 b8=>AP (oS (b:=r1) (j:=3) b8.at15 rfl)<|AA (x:=((none,0,0):Slc)) b8 rfl<|AA (x:=((none,0,0):Slc)) b8 rfl<|AA (x:=((none,0,0):Slc)) b8 rfl<|AA (x:=((none,0,0):Slc)) b8 rfl<|AA (x:=((none,0,0):Slc)) b8 rfl<|AA (x:=((none,0,0):Slc)) b8 rfl ?_;exact AC ⟨bf,((((none,0,0):Slc),((none,0,0):Slc),((none,0,0):Slc),((none,0,0):Slc),((none,0,0):Slc),((none,0,0):Slc),()),(16:Int),g_0.2.2.2.1,()),[],[],[],[],[],[],sb,rfl,iS hd,(oH oC bf),(oH oC bf),(oH BL bf),(oH (oG .i64) bf),(oH (oG .i64) bf),(oH oC bf),b8.tail.tail.tail.tail.tail.tail.tail.tail.tail.tail.tail.tail.tail.tail.tail.tail⟩
 refine AA X.at6 rfl<|AA X.at6 rfl<|AA X.at6 rfl<|AA X.at6 rfl<|AA X.at6 rfl<|AA X.at6 rfl ?_;have⟨x6,x7,x8,x9,xa,xb,p2⟩:=mT X.at7;refine AQ p2.at6 rfl rfl λxc p3=>AQ p3 rfl rfl λxd p4=>AQ p4 rfl rfl λxe p5=>AQ p5 rfl rfl λxf p6=>AQ p6 rfl rfl λxg p7=>AQ p7 rfl rfl λxh bg=>AA bg rfl<|AA bg rfl<|AA bg rfl<|AA bg rfl<|AA bg rfl<|AA bg rfl ?_;have⟨xi,xj,p8,p9⟩:=oO (t:=gw) bg.at12;have⟨xk,xl,pa,pb⟩:=oO (t:=h0) p9.at7;have⟨xm,xn,pc,pd⟩:=oO (t:=h1) pb.at10;have⟨xo,xp,pe,pf⟩:=oO (t:=h2) pd.at9;have⟨xq,xr,pg,ph⟩:=oO (t:=h3) pf.at8;have⟨pi,xs,pj,pk⟩:=oO (t:=h4) ph.at7;exact AC ⟨pi,((gw,h0,h1,h2,h3,h4,()),(0:Int),mL,()),bl.1,bl.2.1,bl.2.2.1,bl.2.2.2.1,bl.2.2.2.2.1,bl.2.2.2.2.2,sb,rfl,iS hd,p8.up,pa.up,pc.up,pe.up,pg.up,pj,pk.tail.tail.tail.tail.tail.tail.tail.tail.tail.tail⟩
noncomputable def CX(s_0:PO):Option (List nI×List nI×List Ap×nH×nH×List nI):=(CC (s_0.1,s_0.2.1,s_0.2.2.1,s_0.2.2.2.1,s_0.2.2.2.2.1,s_0.2.2.2.2.2.1,s_0.2.2.2.2.2.2)).bind λb=>(ET (b.1,b.2.1,b.2.2.1,b.2.2.2.1,b.2.2.2.2)).bind λa=>some (a.1,a.2.1,a.2.2.1,a.2.2.2.1,a.2.2.2.2.1,a.2.2.2.2.2.1)
theorem HM{s_0:Int×Int×Slc×Slc×Slc×Slc×Slc×Unit}{d:nH}{e:List nH}{f:nH}{g:nH}{i:nH}(p:oA (oG .u8) φ s_0.2.2.1 d)(q:oA (tD (oG .u8)) φ s_0.2.2.2.1 e)(s:oA (oG .u8) φ s_0.2.2.2.2.1 f)(t:oA (oG .u8) φ s_0.2.2.2.2.2.1 g)(u:oA (oG .u8) φ s_0.2.2.2.2.2.2.1 i)(C:St φ F h){r:(List nI×List nI×List Ap×nH×nH×List nI)}(hd:CX (s_0.1,s_0.2.1,d,e,f,g,i)=some r):
 nX hC 22 [.agg #[.int .u8 s_0.1,.int .u8 s_0.2.1,sv s_0.2.2.1,sv s_0.2.2.2.1,sv s_0.2.2.2.2.1,sv s_0.2.2.2.2.2.1,sv s_0.2.2.2.2.2.2.1]] h (An λv D=>∃ψ:AD,∃y:Pl6,∃j:List nI,∃k:List nI,∃l:List Ap,∃m:nH,∃n:nH,∃o:List nI,Sub φ ψ∧v=((.one (.agg [.slice,.slice,.slice,.slice,.slice,.slice])):Sh).val y∧(j,k,l,m,n,o)=r∧oA oC ψ y.1 j∧oA oC ψ y.2.1 k∧oA BL ψ y.2.2.1 l∧oA (oG .i64) ψ y.2.2.2.1 m∧oA (oG .i64) ψ y.2.2.2.2.1 n∧oA oC ψ y.2.2.2.2.2.1 o∧St ψ F D):=by refine AT mixed func22 (HJ ..)<|AU (vs:=[.int .u8 s_0.1,.int .u8 s_0.2.1,sv s_0.2.2.1,sv s_0.2.2.2.1,sv s_0.2.2.2.2.1,sv s_0.2.2.2.2.2.1,sv s_0.2.2.2.2.2.2.1]) C λr1 bj w=>AU (vs:=[.slice none 0 0,.slice none 0 0,.slice none 0 0,.slice none 0 0,.slice none 0 0,.slice none 0 0]) w λr2 bl a=>AA a.at1 rfl<|AA a.at1 rfl<|AA a.at1 rfl<|AA a.at1 rfl<|AA a.at1 rfl<|AA a.at1 rfl<|AA a.at1 rfl ?_;have⟨bn,x,hd⟩:=bS hd;refine AK (GU (s_0:=(s_0.1,s_0.2.1,s_0.2.2.1,s_0.2.2.2.1,s_0.2.2.2.2.1,s_0.2.2.2.2.2.1,s_0.2.2.2.2.2.2.1,())) p q s t u a x) ?_;rintro _ bp ⟨bq,B,bs,bt,bx,bz,c0,rfl,rfl,z,a0,E,G,H⟩;refine⟨B,rfl,?_⟩;have⟨c1,I,hd⟩:=bS hd;refine AK (Mu (g_0:=(B.1,B.2.1,B.2.2.1,B.2.2.2.1,B.2.2.2.2.1,())) z a0 E G H I) ?_;rintro _ c2 ⟨J,A,K,L,M,N,O,al,c3,rfl,rfl,ap,P,Q,R,S,T,U⟩;refine⟨A,rfl,AU (vs:=[.slice none 0 0,.slice none 0 0,.slice none 0 0,.slice none 0 0,.slice none 0 0,.slice none 0 0]) U λV c4 W=>AQ W rfl rfl λc5 X=>AQ X rfl rfl λc6 Y=>AQ Y rfl rfl λc7 Z=>AQ Z rfl rfl λc8 b9=>AQ b9 rfl rfl λc9 ba=>AQ ba rfl rfl λch b=>AA b rfl<|AA b rfl<|AA b rfl<|AA b rfl<|AA b rfl<|AA b rfl<|AQ b.at1 rfl rfl λcl bb=>AQ bb rfl rfl λcm bd=>AQ bd rfl rfl λcp bf=>AQ bf rfl rfl λcs bg=>AQ bg rfl rfl λcw bi=>AQ bi rfl rfl λcx c=>AA c rfl<|AA c rfl<|AA c rfl<|AA c rfl<|AA c rfl<|AA c rfl ?_⟩;exact AC ⟨J,(A.1.1,A.1.2.1,A.1.2.2.1,A.1.2.2.2.1,A.1.2.2.2.2.1,A.1.2.2.2.2.2.1,()),K,L,M,N,O,al,sb,rfl,iS hd,ap,P,Q,R,S,T,c.tail.tail.tail⟩
end
end Go.Proofs.YtfnppeejaimnbaaGreatDoor
namespace Go.Eng
open Go
section
variable {α σ β:Type}
theorem CD(l:List α)(k:Nat):idx l (k:Int)=l[k]? :=by unfold idx;rw[mZ nJ,oP]
theorem MU{l:List α}{i:Int}(a:0≤i)(b:i.toNat<l.length):idx l i=some l[i.toNat]:=by unfold idx;rw[mZ a,nY b]
theorem GV{l:List α}{k:Nat}(h:k<l.length):idx l (k:Int)=some l[k]:=by rw[CD,nY h]
theorem GW{l m:List α}(h:l.length+m.length≤1099512676352):app l m=some (l++m):=by unfold app;rw[mZ h]
theorem Tj{l:List α}{a b:Int}(c:0≤a)(d:a≤b)(e:b≤(l.length:Int)):cut l a b=some ((l.take b.toNat).drop a.toNat):=by unfold cut;rw[mZ ⟨c,d,e⟩]
theorem IW{l:List α}{i:Int}{x:α}(a:0≤i)(b:i< (l.length:Int)):DQ l i x=some (l.set i.toNat x):=by unfold DQ;rw[mZ ⟨a,b⟩]
theorem F6{p:Prop}[Decidable p](h:p)(k:Option α):need p k=k:=by unfold need;rw[mZ h]
theorem Nz{f:Int→σ→Option σ}(I:Int→σ→Prop):∀(n:Nat) (i:Int) (s:σ),I i s→(∀j s,i≤j→j<i+n→I j s→ ∃s',f j s=some s'∧I (j+1) s')→ ∃s',Ng f n i s=some s'∧I (i+n) s':=by
 intro n
 induction n with
 |zero=>intro i s a _;exact⟨s,rfl,by simpa using a⟩
 |succ n d=>
  intro i s a c;obtain⟨s',e,g⟩:=c i s (uF _) nJ a;obtain⟨b,h,k⟩:=d (i+1) s' g λj s m l=>c j s nJ nJ;refine⟨b,by simp only[Ng];rw[e];exact h,?_⟩;rw[show i+(n+1:Nat)=i+1+n by omega];exact k
theorem CM{f:Int→σ→Option σ}{n:Nat}(I:Nat→σ→Prop)(l:n≤9223372036854775807){s:σ}(c:I 0 s)(d:∀k s,k<n→I k s→ ∃s',f (k:Int) s=some s'∧I (k+1) s'):∃s',forS 0 (n:Int) s f=some s'∧I n s':=by
 unfold forS;rw[mZ ⟨nJ,nJ⟩];obtain⟨s',b,a⟩:=Nz (f:=f) (λi s=>I i.toNat s) ((n:Int) - 0).toNat 0 s (by simpa using c) λj s m g h=>by
  obtain⟨s',b,a⟩:=d j.toNat s nJ h;refine⟨s',by rw[←b,show(j.toNat:Int)=j by omega],by rw[show(j+1).toNat=j.toNat+1 by omega];exact a⟩
 refine⟨s',b,?_⟩;have e:((0:Int)+(((n:Int) - 0).toNat:Nat)).toNat=n:=nJ
 rw[e]at a;exact a
theorem X7{f:Int→σ→Option (AX σ β)}(I:Int→σ→Prop)(B:β→Prop):∀(n:Nat) (i:Int) (s:σ),I i s→(∀j s,i≤j→j<i+n→I j s→(∃s',f j s=some (.next s')∧I (j+1) s')∨ ∃b,f j s=some (.done b)∧B b)→
 (∃s',Ka f n i s=some (.next s')∧I (i+n) s')∨ ∃b,Ka f n i s=some (.done b)∧B b:=by
 intro n
 induction n with
 |zero=>intro i s c _;exact .inl ⟨s,rfl,by simpa using c⟩
 |succ n l=>
  intro i s c k;rcases k i s (uF _) nJ c with⟨s',a,d⟩|⟨b,a,d⟩
  ·rcases l (i+1) s' d λj s o m=>k j s nJ nJ with⟨e,g,h⟩|⟨b,g,h⟩
   ·left
    refine⟨e,by simp only[Ka];rw[a];exact g,?_⟩;rw[show i+(n+1:Nat)=i+1+n by omega];exact h
   ·exact .inr ⟨b,by simp only[Ka];rw[a];exact g,h⟩
  ·exact .inr ⟨b,by simp only[Ka];rw[a];rfl,d⟩
theorem OY{f:Int→σ→Option (AX σ β)}{n:Nat}(I:Nat→σ→Prop)(B:β→Prop)(o:n≤9223372036854775807){s:σ}(d:I 0 s)
 (g:∀k s,k<n→I k s→(∃s',f (k:Int) s=some (.next s')∧I (k+1) s')∨ ∃b,f (k:Int) s=some (.done b)∧B b):
 (∃s',C6 0 (n:Int) s f=some (.next s')∧I n s')∨ ∃b,C6 0 (n:Int) s f=some (.done b)∧B b:=by
 unfold C6;rw[mZ ⟨nJ,nJ⟩];rcases X7 (λi s=>I i.toNat s) B ((n:Int) - 0).toNat 0 s (by simpa using d) (λj s p l m=>by
  have e:(j.toNat:Int)=j:=nJ
  rcases g j.toNat s nJ m with⟨s',c,a⟩|⟨b,c,a⟩
  ·exact .inl ⟨s',by rw[←c,e],by rw[show(j+1).toNat=j.toNat+1 by omega];exact a⟩
  ·exact .inr ⟨b,by rw[←c,e],a⟩) with⟨s',c,a⟩|h
 ·left
  refine⟨s',c,?_⟩;have e:((0:Int)+(((n:Int) - 0).toNat:Nat)).toNat=n:=nJ
  rw[e]at a;exact a
 ·exact .inr h
theorem ZQ{f:Int→σ→Option (AX σ β)}{n:Nat}(I:Nat→σ→Prop)(a:n≤9223372036854775807){s:σ}(b:I 0 s)
 (c:∀k s,k<n→I k s→ ∃s',f (k:Int) s=some (.next s')∧I (k+1) s'):∃s',C6 0 (n:Int) s f=some (.next s')∧I n s':=by
 rcases OY I (λ_=>False) a b (λk s d e=>.inl (c k s d e)) with h | ⟨_,_,h⟩
 ·exact h
 ·exact h.elim
theorem ZR{f:σ→Option (AX σ β)}(I:σ→Prop)(μ:σ→Nat)(B:β→Prop)(d:∀s,I s→(∃s',f s=some (.next s')∧I s'∧μ s'<μ s)∨ ∃b,f s=some (.done b)∧B b):∀ {s:σ},I s→ ∃b,loop s f=some b∧B b:=by
 intro s
 generalize h:μ s=m
 induction m using Nat.strongRecOn generalizing s with
 |ind m e=>
  intro g;rw[TV];rcases d s g with⟨s',a,c,i⟩|⟨b,a,c⟩
  ·rw[a];exact e (μ s') nJ rfl c
  ·rw[a];exact⟨b,rfl,c⟩
end
def Ok{α:Type}(o:Option α)(P:α→Prop):Prop:= ∃x,o=some x∧P x
section
variable {α β γ σ:Type}{P:γ→Prop}{k:α→Option γ}
theorem Ok.eq{o:Option α}{x:α}(h:Ok o (· =x)):o=some x:=by obtain⟨y,a,b⟩:=h;rw[a];exact nB some b
theorem Ok.of{o:Option α}{x:α}{Q:α→Prop}(h:o=some x)(a:Q x):Ok o Q:=⟨x,h,a⟩
theorem Ok.mono{o:Option α}{Q R:α→Prop}(h:Ok o Q)(a:∀x,Q x→R x):Ok o R:=by obtain⟨x,b,c⟩:=h;exact⟨x,b,a x c⟩
theorem AB{x:γ}(h:P x):Ok (some x) P:=⟨x,rfl,h⟩
theorem AM{o:Option α}{Q:α→Prop}(h:Ok o Q)(a:∀x,Q x→Ok (k x) P):Ok (o.bind k) P:=by obtain⟨x,b,c⟩:=h;rw[b];exact a x c
theorem AO{o:Option α}{x:α}(h:o=some x)(a:Ok (k x) P):Ok (o.bind k) P:=by rw[h];exact a
theorem Bu{p:Prop}{d:Decidable p}{o:Option γ}(h:p)(a:Ok o P):Ok (@need γ p d o) P:=by
 have: @need γ p d o=o:=by unfold need;exact mZ h
 rw[this];exact a
theorem Ay{c:Bool}{x y:Option γ}(h:c=true)(a:Ok x P):Ok (cond c x y) P:=by subst h;exact a
theorem AZ{c:Bool}{x y:Option γ}(h:c=false)(a:Ok y P):Ok (cond c x y) P:=by subst h;exact a
theorem AR{c:Bool}{x y:Option γ}(a:c=true→Ok x P)(b:c=false→Ok y P):Ok (cond c x y) P:=by
 cases c with
 |true=>exact a rfl
 |false=>exact b rfl
theorem Cx{l:List α}{i:Int}{x:α}(a:0≤i)(h:l[i.toNat]? =some x)(b:Ok (k x) P):Ok ((idx l i).bind k) P:=by unfold idx;rw[mZ a,h];exact b
theorem AS{l:List α}{i:Nat}{x:α}(h:l[i]? =some x)(a:Ok (k x) P):Ok ((idx l (i:Int)).bind k) P:=by rw[CD,h];exact a
theorem Az{l m:List α}{k:List α→Option γ}(h:l.length+m.length≤1099512676352)(a:Ok (k (l++m)) P):Ok ((app l m).bind k) P:=by rw[GW h];exact a
theorem Ex{l:List α}{i:Int}{x:α}{k:List α→Option γ}(a:0≤i)(b:i< (l.length:Int))(c:Ok (k (l.set i.toNat x)) P):Ok ((DQ l i x).bind k) P:=by rw[IW a b];exact c
theorem BK{f:Int→σ→Option σ}{n:Nat}{s:σ}{k:σ→Option γ}(I:Nat→σ→Prop)(a:n≤9223372036854775807)(b:I 0 s)(c:∀j s,j<n→I j s→Ok (f (j:Int) s) (I (j+1)))(d:∀s',I n s'→Ok (k s') P):
 Ok ((forS 0 (n:Int) s f).bind k) P:=by obtain⟨s',e,g⟩:=CM I a b c;rw[e];exact d s' g
theorem F7{f:Int→σ→Option (AX σ β)}{n:Nat}{s:σ}{k:AX σ β→Option γ}(I:Nat→σ→Prop)(c:n≤9223372036854775807)(d:I 0 s)(g:∀j s,j<n→I j s→Ok (f (j:Int) s) (λe=>∃s',e= .next s'∧I (j+1) s'))(h:∀s',I n s'→Ok (k (.next s')) P):
 Ok ((C6 0 (n:Int) s f).bind k) P:=by
 obtain⟨s',a,b⟩:=ZQ I c d (λj s i l=>by
  obtain⟨e,a,s',rfl,b⟩:=g j s i l;exact⟨s',a,b⟩)
 rw[a];exact h s' b
theorem Gs{f:Int→σ→Option (AX σ β)}{n:Nat}{s:σ}{k:AX σ β→Option γ}(I:Nat→σ→Prop)(B:β→Prop)(d:n≤9223372036854775807)(g:I 0 s)(h:∀j s,j<n→I j s→Ok (f (j:Int) s) (λe=>(∃s',e= .next s'∧I (j+1) s')∨ ∃b,e= .done b∧B b))
 (i:∀s',I n s'→Ok (k (.next s')) P) (l:∀b,B b→Ok (k (.done b)) P):
 Ok ((C6 0 (n:Int) s f).bind k) P:=by
 rcases OY I B d g (λj s m o=>by
  have⟨e,c,a⟩:=h j s m o;rcases a with⟨s',rfl,a⟩|⟨b,rfl,a⟩
  ·exact .inl ⟨s',c,a⟩
  ·exact .inr ⟨b,c,a⟩) with⟨s',c,a⟩|⟨b,c,a⟩
 ·rw[c];exact i s' a
 ·rw[c];exact l b a
theorem Bz{f:σ→Option (AX σ β)}{s:σ}{k:β→Option γ}(I:σ→Prop)(μ:σ→Nat)(B:β→Prop)(d:I s)(g:∀s,I s→Ok (f s) (λe=>(∃s',e= .next s'∧I s'∧μ s'<μ s)∨ ∃b,e= .done b∧B b))(h:∀b,B b→Ok (k b) P):
 Ok ((loop s f).bind k) P:=by
 obtain⟨b,c,a⟩:=ZR I μ B (λs i=>by
  have⟨e,c,a⟩:=g s i;rcases a with⟨s',rfl,a⟩|⟨b,rfl,a⟩
  ·exact .inl ⟨s',c,a⟩
  ·exact .inr ⟨b,c,a⟩) d
 rw[c];exact h b a
theorem Gg{s:σ}{Q:σ→Prop}(h:Q s):Ok (some (pA s:AX σ β)) (λe=>∃s',e= .next s'∧Q s'):=⟨_,rfl,s,rfl,h⟩
theorem Bd{s:σ}{Q:σ→Prop}{B:β→Prop}(h:Q s):Ok (some (pA s:AX σ β)) (λe=>(∃s',e= .next s'∧Q s')∨ ∃b,e= .done b∧B b):=⟨_,rfl,.inl ⟨s,rfl,h⟩⟩
theorem BB{b:β}{Q:σ→Prop}{B:β→Prop}(h:B b):Ok (some (oZ b:AX σ β)) (λe=>(∃s',e= .next s'∧Q s')∨ ∃b,e= .done b∧B b):=⟨_,rfl,.inr ⟨b,rfl,h⟩⟩
end
theorem J0{α β γ:Type}{P:γ→Prop}{f:Int→Unit→Option (AX Unit β)}{k:AX Unit β→Option γ}(l:List α)(q:Nat→α→Bool)(d:Nat→α→β)(g:l.length≤9223372036854775807)
 (m:∀(j:Nat) x,l[j]? =some x→f (j:Int) ()=some (if q j x then .done (d j x) else .next ()))
 (n:(∀(j:Nat) x,l[j]? =some x→q j x=false)→Ok (k (.next ())) P) (o:∀(j:Nat) x,l[j]? =some x→q j x=true→(∀(i:Nat) y,i<j→l[i]? =some y→q i y=false)→Ok (k (.done (d j x))) P):
 Ok ((C6 (0:Int) (l.length:Int) () f).bind k) P:=by
 refine Gs (λi _=>∀(j:Nat) y,j<i→l[j]? =some y→q j y=false) (λb=>∃(j:Nat) (x:α),l[j]? =some x∧q j x=true∧(∀(i:Nat) y,i<j→l[i]? =some y→q i y=false)∧b=d j x) g (λj y h=>nJ) (λi _ p e=>?_) (λ_ h=>n λj x a=>h j x (rQ.1 a).1 a) (λb ⟨j,x,r,s,t,u⟩=>by rw[u];exact o j x r s t);have a:=nY p;rw[m i _ a];cases hq:q i l[i]with
 |true=>exact⟨_,rfl,.inr ⟨_,rfl,i,_,a,hq,e,rfl⟩⟩
 |false=>
  refine⟨_,rfl,.inl ⟨(),rfl,λj y v c=>?_⟩⟩;rcases pW.1 v with h | rfl
  ·exact e j y h c
  ·rw[a]at c;cases c;exact hq
end Go.Eng
namespace Go.Proofs.YtfnppeejaimnbaaGreatDoor
open Go Go.Eng
section
variable {s:nI}{i:Nat}
theorem QF(b:nI):b.toList=b.data.toList:=by
 have e:b.size=b.data.toList.length:=by rw[Array.length_toList];rfl
 have d:∀(n i:Nat) (r:List UInt8),b.size - i=n→ByteArray.toList.loop b i r=r.reverse++b.data.toList.drop i:=by
  intro n
  induction n with
  |zero=>
   intro i r h;rw[ByteArray.toList.loop.eq_1,nA nJ,List.drop_eq_nil_of_le nJ,List.append_nil]
  |succ n f=>
   intro i r h;have g:i<b.size:=nJ
   rw[ByteArray.toList.loop.eq_1,mZ g,f (i+1) _ nJ];have c:i<b.data.toList.length:=nJ
   rw[List.drop_eq_getElem_cons c,List.reverse_cons,pR]
   have:b.get! i=b.data.toList[i]:=by
    cases b with
    |mk a=>
     show a[i]! =_;rw[getElem!_pos a i (by simpa using c)];rw[Array.getElem_toList]
   rw[this];rfl
 unfold mE;rw[d _ 0 [] rfl];rfl
theorem Ei(a b:nI):(a.toList==b.toList)=decide (a=b):=by
 rw[QF,QF];by_cases h:a=b
 ·subst h;simp
 ·rw[mV h];refine beq_eq_false_iff_ne.2 λe=>h ?_;cases a;cases b;simp only[ByteArray.mk.injEq];exact Array.toList_inj.1 e
theorem Hp{l:List nI}(b:l.length≤9223372036854775807):Ok (BN l s) λk=>(k= -1∧s∉l)∨ ∃j:Nat,k=j∧l[j]? =some s:=by
 unfold BN;refine J0 l (λ_ x=>decide (x=s)) (λk _=>k) b (λk x a=>?_) (λh=>?_) λj x a c _=>?_
 ·rw[CD,a,oT,Ei];cases decide (x=s) <;>rfl
 ·refine AB (.inl ⟨rfl,λd=>?_⟩);obtain⟨j,e⟩:=qQ d
  have:=h j s e
  simp at this
 ·refine AB (.inr ⟨j,rfl,?_⟩);rw[a,mX c]
def nm(c i:Nat):nI:=⟨#[rR (c+i)]⟩
theorem N0{c d j:Nat}(a:c+i<256)(b:d+j<256)(h:nm c i=nm d j):c+i=d+j:=by
 unfold nm at h;simp only[ByteArray.mk.injEq,Array.mk.injEq,List.cons.injEq,and_true]at h
 have:=nB oX h
 simp at this;omega
theorem fZ(h:i<5):hM {data:=#[97,98,99,100,101]} i (i+1)=nm 97 i:=by
 match i,h with
 | 0,_ | 1,_ | 2,_ | 3,_ | 4,_=>decide
theorem fb(h:i<5):hM {data:=#[112,113,114,115,116]} i (i+1)=nm 112 i:=by
 match i,h with
 | 0,_ | 1,_ | 2,_ | 3,_ | 4,_=>decide
theorem fc(h:i<4):hM {data:=#[83,84,85,86]} i (i+1)=nm 83 i:=by
 match i,h with
 | 0,_ | 1,_ | 2,_ | 3,_=>decide
inductive Nm:nI→Prop
 |tok {i:Nat} :i<5→Nm (nm 97 i)
 |lev {i:Nat} :i<5→Nm (nm 112 i)
 |var {i:Nat} :i<4→Nm (nm 83 i)
theorem XE{c:Nat}(h:(65≤c+i∧c+i≤90)∨(97≤c+i∧c+i≤122)):Ba (nm c i)=some true:=by
 generalize e:c+i=n at h
 have:nm c i=⟨#[rR n]⟩:=by unfold nm;rw[e]
 rw[this];have all:∀m:Fin 123,((65≤m.1∧m.1≤90)∨(97≤m.1∧m.1≤122))→(DH ((oX (rR m.1):Nat):Int))=some true:=by
  have:∀m:Fin 123,((65≤m.1∧m.1≤90)∨(97≤m.1∧m.1≤122))→(match DH ((oX (rR m.1):Nat):Int) with | some true=>true | _=>false)=true:=by
   decide+kernel
  intro m a
  have:=this m a
  split at this
  ·assumption
  ·cases this
 have b:=all ⟨n,nJ⟩ h;refine Ok.eq ?_;unfold Ba FA;have d:nZ {data:=#[rR n]} =1:=rfl;rw[d];refine AM (Q:=λx=>x=true) (Ay rfl (AM (Q:=λx=>x=true) ?_ λ_ h=>AB h)) λ_ h=>AB h;refine F7 (λ_ _=>True) nJ trivial (λj s f _=>?_) λs _=>?_
 ·obtain rfl:j=0:=nJ
  refine AM (Q:=λx=>x=false) (Bu nJ (AO b (AZ rfl (AB rfl)))) λ_ h=>?_;subst h;exact Gg trivial
 ·rw[Ei,mV (λh=>by simp at h)];exact AB rfl
theorem Nm.name(h:Nm s):Ba s=some true:=by
 cases h with
 |tok h | lev h | var h=>exact XE nJ
theorem Nm.ne(h:Nm s):s≠⟨#[]⟩:=by
 cases h with
 |tok h | lev h | var h=>intro e;unfold nm at e;simp at e
theorem Nm.size(h:Nm s):s.size=1:=by
 cases h with
 |tok h | lev h | var h=>rfl
theorem V7:(mE mL ==mE mL)=true:=by rw[Ei];rfl
theorem OZ:DI mL =some true:=by rfl
theorem Tl(h:Nm s):CL (s,mL,false)=some true:=by unfold CL;dsimp only;have e:=h.size;rw[V7,Ei,mV h.ne,e];rfl
theorem XF{l:List nI}(d:l.length≤9223372036854775807)(h:∀x∈l,Nm x)(e:l.Nodup):B5 l=some true:=by refine Ok.eq ?_;unfold B5;refine F7 (λ_ _=>True) d trivial (λk s b _=>?_) λ_ _=>AB rfl;have a:=nY b;refine AS a (AO (h _ (oU b)).name ?_);refine AZ rfl<|F7 (λ_ _=>True) nJ trivial (λj s f _=>?_) λ_ _=>Gg trivial;have c:=nY (show j<l.length by omega);refine AS c (AS a ?_);rw[Ei,mV (List.pairwise_iff_getElem.1 (List.nodup_iff_pairwise_ne.1 e) j k nJ b f)];exact Gg trivial
end
section
variable {k:Nat}{L:List Fz}
theorem wr{x:Int}(h: -1000000≤x∧x≤1000000):bD .i64 x=x:=w64 nJ nJ
theorem tm{x n:Int}(h:0≤x):bO x n=x % n:=rJ h
theorem ZS{i:Int}(a:0≤i)(b:i<5):hM {data:=#[112,113,114,115,116]} (eE i) (eE (i+1))=nm 112 i.toNat:=by rw[show eE (i+1)=i.toNat+1 by omega,fb nJ]
theorem ZT{i:Int}(a:0≤i)(b:i<5):hM {data:=#[97,98,99,100,101]} (eE i) (eE (i+1))=nm 97 i.toNat:=by rw[show eE (i+1)=i.toNat+1 by omega,fZ nJ]
theorem V8{i:Int}(a:0≤i)(b:i<4):hM {data:=#[83,84,85,86]} (eE i) (eE (i+1))=nm 83 i.toNat:=by rw[show eE (i+1)=i.toNat+1 by omega,fc nJ]
def GX(L:List Fz):List nI:=L.flatMap (·.2)
structure Lv (nl nk:Nat) (L:List Fz):Prop where
 len:L.length=nl
 each:∀(j:Nat) x,L[j]? =some x→1≤x.1∧x.1≤3∧nm 112 j∈x.2
 names:∀x∈GX L,(∃i,i<nl∧x=nm 112 i)∨ ∃i,i<nk∧x=nm 97 i
 once:(GX L).Nodup
 room:(GX L).length≤nl+nk
def Tk(n:Nat)(l:List Hk):Prop:=l.length=n∧ ∀j,j<n→l[j]? =some (nm 97 j,nm 97 j,mL,false)
structure Ru1 (nt nv nl:Nat) (r:Dy):Prop where
 left:∃i,i<nv∧r.1=nm 83 i
 few:r.2.1.length≤8
 right:∀x∈r.2.1,(∃i,i<nt∧x=nm 97 i)∨ ∃i,i<nv∧x=nm 83 i
 prec:r.2.2.1= mL ∨ ∃i,i<nl∧r.2.2.1=nm 112 i
 act:r.2.2.2= mL
theorem Lv.snoc{a:Int}(H:Lv k 0 L)(n:1≤a∧a≤3)(o:k<5):Lv (k+1) 0 (L++ [(a,[nm 112 k])]):=by
 have e:GX (L++ [(a,[nm 112 k])])=GX L++ [nm 112 k]:=by unfold GX;rw[List.flatMap_append];rfl
 refine⟨by simp[H.len],λj x b=>?_,λx f=>?_,?_,?_⟩
 ·rcases pM j L.length with g | g
  ·rw[pK g]at b;exact H.each j x b
  ·rw[pS g]at b
   have:j - L.length=0:=by
    rcases Nat.eq_zero_or_pos (j - L.length) with q | q
    ·exact q
    ·rw[pJ nN]at b;cases b
   rw[this]at b;simp at b;subst b
   have:j=k:=by have:=H.len;omega
   subst this;exact⟨n.1,n.2,nP⟩
 ·rw[e]at f;rcases qY.1 f with h | h
  ·rcases H.names x h with⟨i,l,c⟩|⟨i,l,c⟩
   ·exact .inl ⟨i,nJ,c⟩
   ·omega
  ·exact .inl ⟨k,nJ,by simpa using h⟩
 ·rw[e];refine List.nodup_append.2 ⟨H.once,nP,λx f y m d=>?_⟩;have m:y=nm 112 k:=by simpa using m
  subst m;rcases H.names x f with⟨i,l,c⟩|⟨i,l,c⟩
  ·rw[c]at d
   have:=N0 nJ nJ d
   omega
  ·omega
 ·rw[e,pE]
  have:=H.room
  simp;omega
theorem ZU{q:Nat}{a:Int}{b:List nI}{y:nI}(h:L[q]? =some (a,b)):(GX (L.set q (a,b++ [y]))).Perm (y::GX L):=by
 induction L generalizing q with
 |nil=>simp at h
 |cons x L c=>
  cases q with
  |zero=>
   simp at h;subst h;show(b++ [y] ++GX L).Perm (y::(b++GX L));rw[pR];exact uA
  |succ q=>
   have:=c (q:=q) (by simpa using h)
   show(x.2++GX (L.set q (a,b++ [y]))).Perm (y::(x.2++GX L));exact(this.append_left x.2).trans uA
theorem Lv.put{f:Nat}{q:Nat}{a:Int}{l:List nI}(H:Lv f k L)(r:k<5)(s:f≤5)(h:L[q]? =some (a,l)):Lv f (k+1) (L.set q (a,l++ [nm 97 k])):=by
 have g:=ZU (y:=nm 97 k) h;refine⟨by simp[H.len],λj x c=>?_,λx n=>?_,?_,?_⟩
 ·by_cases m:j=q
  ·subst m;rw[List.getElem?_set_self (rQ.1 h).1]at c;cases c;have⟨d,b,o⟩:=H.each j _ h;exact⟨d,b,sE _ o⟩
  ·rw[List.getElem?_set_ne (λe=>m e.symm)]at c;exact H.each j x c
 ·rcases rX.1 (g.mem_iff.1 n) with rfl | h
  ·exact .inr ⟨k,nJ,rfl⟩
  ·rcases H.names x h with h | ⟨i,d,b⟩
   ·exact .inl h
   ·exact .inr ⟨i,nJ,b⟩
 ·rw[g.nodup_iff];refine List.nodup_cons.2 ⟨λp=>?_,H.once⟩;rcases H.names _ p with⟨i,d,b⟩|⟨i,d,b⟩
  ·have:=N0 nJ nJ b
   omega
  ·have:=N0 nJ nJ b
   omega
 ·rw[g.length_eq,pP]
  have:=H.room
  omega
theorem Lv.up{a:Nat}(H:Lv a k L):Lv a (k+1) L:=⟨H.len,H.each,λx b=>by
 rcases H.names x b with h | ⟨i,d,c⟩
 ·exact .inl h
 ·exact .inr ⟨i,nJ,c⟩,H.once,by have:=H.room;omega⟩
theorem Tk.snoc{l:List Hk}(H:Tk k l):Tk (k+1) (l++ [(nm 97 k,nm 97 k,mL,false)]):=by
 refine⟨by simp[H.1],λj a=>?_⟩;rcases pM j k with g | g
 ·rw[pK (by rw[H.1];exact g)];exact H.2 j g
 ·have:j=k:=nJ
  subst this;rw[pS (by rw[H.1];omega),H.1];simp
structure Sg (nt nv nl:Nat) (g:GF):Prop where
 nt1:1≤nt
 nt5:nt≤5
 nv1:1≤nv
 nv4:nv≤4
 nl5:nl≤5
 toks:Tk nt g.1
 skips:g.2.1= []
 levs:Lv nl nt g.2.2.1
 start:g.2.2.2.1=nm 83 0
 rules:∀r∈g.2.2.2.2,Ru1 nt nv nl r
 all:∀v,v<nv→ ∃r∈g.2.2.2.2,r.1=nm 83 v
 room:g.2.2.2.2.length≤24
structure SmG (s:PO):Prop where
 t0:0≤s.1∧s.1<256
 v0:0≤s.2.1∧s.2.1<256
 lefts:s.2.2.1.length≤9223372036854775807∧ ∀x∈s.2.2.1,0≤x∧x<256
 rights:s.2.2.2.1.length≤9223372036854775807∧ ∀l∈s.2.2.2.1,l.length≤9223372036854775807∧ ∀x∈l,0≤x∧x<256
 precs:s.2.2.2.2.1.length≤9223372036854775807∧ ∀x∈s.2.2.2.2.1,0≤x∧x<256
 assocs:s.2.2.2.2.2.1.length≤9223372036854775807∧ ∀x∈s.2.2.2.2.2.1,0≤x∧x<256
 levels:s.2.2.2.2.2.2.length≤9223372036854775807∧ ∀x∈s.2.2.2.2.2.2,0≤x∧x<256
structure SmF (n m:Nat) (s:PO):Prop where
 lefts:s.2.2.1.length≤n
 assocs:s.2.2.2.2.2.1.length≤5
 rights:∀l∈s.2.2.2.1,l.length≤m
theorem SmF.up{s:PO}(F:SmF 12 5 s):SmF 20 8 s:=⟨by have:=F.lefts;omega,F.assocs,λl a=>by have:=F.rights l a;omega⟩
theorem fe{s:PO}(G:SmG s)(n m:Nat):Ok (Ch s (n:Int) (m:Int)) λb=>b=true→SmF n m s:=by
 unfold Ch;refine AM (Q:=λc=>c=false→s.2.2.1.length≤n∧s.2.2.2.2.2.1.length≤5) (AR (λh=>AB nP) λh=>AB λa=>?_) λc e=>?_
 ·have h:=mY h;have a:=mY a;omega
 refine AR (λ_=>AB nP) λh=>?_;have⟨f,g⟩:=e h;refine J0 s.2.2.2.1 (λ_ l=>decide ((l.length:Int) >(m:Int))) (λ_ _=>false) (by have:=G.rights.1;omega) (λj x d=>?_) (λh=>AB λ_=>⟨f,g,λl i=>?_⟩) λj x d o _=>AB nP
 ·rw[CD,d,oT];cases decide ((x.length:Int) >(m:Int)) <;>rfl
 ·obtain⟨j,k⟩:=qQ i
  have:=mY (h j l k)
  omega
theorem V9{s:PO}(G:SmG s)(F:SmF 20 8 s):Ok (CC s) (Sg (s.1.toNat % 5+1) (s.2.1.toNat % 4+1) s.2.2.2.2.2.1.length):=by
 obtain⟨O,P,f,g,n,c,d⟩:=s;obtain⟨g1,g2,g3,g4,g5,g6,g7⟩:=G;obtain⟨f1,f2,f3⟩:=F;dsimp only at *;unfold CC;dsimp only;have et:bD .i64 ((bD .i64 (bO O (5:Int)))+(1:Int))=((O.toNat % 5+1:Nat):Int):=by
  rw[tm g1.1,wr (show -1000000≤O % 5∧O % 5≤1000000 by omega),wr nJ];omega
 have ev:bD .i64 ((bD .i64 (bO P (4:Int)))+(1:Int))=((P.toNat % 4+1:Nat):Int):=by
  rw[tm g2.1,wr (show -1000000≤P % 4∧P % 4≤1000000 by omega),wr nJ];omega
 rw[et,ev]
 generalize a4:O.toNat % 5+1=nt
 generalize a5:P.toNat % 4+1=nv
 have s5:(nZ {data:=#[112,113,114,115,116]} :Nat)=5:=rfl;have a0:(nZ {data:=#[97,98,99,100,101]} :Nat)=5:=rfl;have s4:(nZ {data:=#[83,84,85,86]} :Nat)=4:=rfl;rw[s5,a0,s4];refine Bu nQ (Bu nQ ?_);refine BK (λk (z:GF)=>z.1= [] ∧z.2.1= [] ∧Lv k 0 z.2.2.1∧z.2.2.2.1=nm 83 0∧z.2.2.2.2= []) nJ ⟨rfl,rfl,⟨rfl,λj x h=>by simp at h,λx h=>by simp[GX]at h,by simp[GX],by simp[GX]⟩,rfl,rfl⟩ (λk z D h=>?_) λz m=>?_
 ·obtain⟨z1,z2,t,z4,z5⟩:=z;obtain⟨rfl,rfl,h,rfl,rfl⟩:=h;have o:=nY D;have B:=g6.2 _ (oU D);refine AS o (Bu nQ (Bu ?_ ?_))
  ·rw[wr nJ];omega
  have hl:=h.len;dsimp only at hl ⊢;refine Az nN (AB ⟨rfl,rfl,?_,rfl,rfl⟩);rw[tm B.1,wr (show -1000000≤c[k] % 3∧c[k] % 3≤1000000 by omega),wr (show -1000000≤c[k] % 3+1∧c[k] % 3+1≤1000000 by omega),wr (show -1000000≤(k:Int)+1∧(k:Int)+1≤1000000 by omega),ZS nJ nJ];exact h.snoc nJ nJ
 obtain⟨z1,z2,t,z4,z5⟩:=z;obtain⟨rfl,rfl,m,rfl,rfl⟩:=m;dsimp only at m;refine BK (λk (z:GF)=>Tk k z.1∧z.2.1= [] ∧Lv c.length k z.2.2.1∧z.2.2.2.1=nm 83 0∧z.2.2.2.2= []) nJ ⟨⟨rfl,λj h=>nJ⟩,rfl,m,rfl,rfl⟩ (λk z D h=>?_) λz m=>?_
 ·obtain⟨z1,z2,t,z4,z5⟩:=z;obtain⟨S,rfl,y,rfl,rfl⟩:=h;dsimp only at S y ⊢;have hl:=y.len;have a6:=S.1;refine Bu (by rw[wr nJ];omega) ?_;rw[wr (show -1000000≤(k:Int)+1∧(k:Int)+1≤1000000 by omega),ZT nJ nJ,oP];refine Az nN<|AM (Q:=λ(z:GF)=>Tk (k+1) z.1∧z.2.1= [] ∧Lv c.length (k+1) z.2.2.1∧z.2.2.2.1=nm 83 0∧z.2.2.2.2= []) (AR (λl=>?_) λ_=>AB ⟨S.snoc,rfl,y.up,rfl,rfl⟩) λ_ h=>AB h;have l:=mX l;have o:=nY (show k<d.length by omega);have B:=g7.2 _ (oU (show k<d.length by omega));refine AS o (Bu (by rw[wr nJ];omega) ?_);have hm:0≤d[k] % ((t.length:Int)+1)∧d[k] % ((t.length:Int)+1) < (t.length:Int)+1:=⟨qZ _ nJ,qD _ nJ⟩;rw[wr (show -1000000≤d[k] ∧d[k] ≤1000000 by omega),wr (show -1000000≤(t.length:Int)+1∧(t.length:Int)+1≤1000000 by omega),tm B.1]
  generalize d[k] % ((t.length:Int)+1)=q at hm
  refine AM (Q:=λ(z:GF)=>Tk (k+1) z.1∧z.2.1= [] ∧Lv c.length (k+1) z.2.2.1∧z.2.2.2.1=nm 83 0∧z.2.2.2.2= []) (AR (λhq=>?_) λ_=>AB ⟨S.snoc,rfl,y.up,rfl,rfl⟩) λ_ h=>AB h;have hq:=mX hq;rw[wr (show -1000000≤q - 1∧q - 1≤1000000 by omega)];have T:(q - 1).toNat<t.length:=nJ
  have J:=nY T;have a1:t[(q - 1).toNat].2.length≤(GX t).length:=(List.sublist_flatten_of_mem (List.mem_map_of_mem (oU T))).length_le;have M:=y.room;refine Cx nJ J (Az (by simp only[pY];omega) (Az (by simp only[pY,pE,pP];omega) (Cx nJ J (Ex nJ nJ (AB ⟨S.snoc,rfl,?_,rfl,rfl⟩)))));exact y.put nJ nJ J
 obtain⟨z1,z2,t,z4,z5⟩:=z;obtain⟨hT,rfl,y,rfl,rfl⟩:=m;dsimp only at hT y;have hl:=y.len;refine BK (λk (z:GF)=>z.1=z1∧z.2.1= [] ∧z.2.2.1=t∧z.2.2.2.1=nm 83 0∧z.2.2.2.2.length=k∧ ∀r∈z.2.2.2.2,Ru1 nt nv c.length r) nJ ⟨rfl,rfl,rfl,rfl,rfl,nP⟩ (λk z D h=>?_) λz m=>?_
 ·obtain⟨y1,y2,E,y4,y5⟩:=z;obtain⟨rfl,rfl,rfl,rfl,p,M⟩:=h;dsimp only at p M hl ⊢;have o:=nY D;have B:=g3.2 _ (oU D);have hm:0≤f[k] % (nv:Int)∧f[k] % (nv:Int) < (nv:Int):=⟨qZ _ nJ,qD _ nJ⟩;refine AS o (Bu nJ (AS o (Bu nJ ?_)));rw[wr (show -1000000≤f[k] ∧f[k] ≤1000000 by omega),tm B.1]
  generalize f[k] % (nv:Int)=q at hm
  rw[wr (show -1000000≤q+1∧q+1≤1000000 by omega)];refine Bu nJ ?_;rw[V8 nJ nJ];refine AM (Q:=λ(x:Dy)=>x.2.2.1= mL ∧Ru1 nt nv c.length x) (AR (λl=>?_) λ_=>AB ⟨rfl,⟨q.toNat,nJ,rfl⟩,nP,nP,.inl rfl,rfl⟩) λx K=>?_
  ·have l:=mX l;have hR:=nY (show k<g.length by omega);have U:=oU (show k<g.length by omega);have a2:=f3 _ U;have V:=(g4.2 _ U).2
   generalize g[k] =R at hR a2 V
   refine Bz (λ(z:Int×Dy)=>0≤z.1∧z.1≤(R.length:Int)∧(z.2.2.1.length:Int)=z.1∧z.2.2.2.1= mL ∧Ru1 nt nv c.length z.2) (λz=>(R.length:Nat) - z.1.toNat) (λx=>x.2.2.1= mL ∧Ru1 nt nv c.length x) ⟨uF _,nO,rfl,rfl,⟨q.toNat,nJ,rfl⟩,nP,nP,.inl rfl,rfl⟩ (λz m=>?_) λx o=>AB o;obtain⟨i,z⟩:=z;obtain⟨h0,W,H,A,N⟩:=m;dsimp only at h0 W H A N ⊢;refine AS hR (AR (λl=>?_) λl=>BB ⟨A,N⟩);have l:=mX l;have X:i.toNat<R.length:=nJ
   have J:=nY X;have Y:=V _ (oU X);refine AS hR (Cx h0 J ?_)
   generalize R[i.toNat] =e at Y
   rw[wr (show -1000000≤e∧e≤1000000 by omega),wr (show -1000000≤(nt:Int)+(nv:Int)∧(nt:Int)+(nv:Int) ≤1000000 by omega),tm Y.1];have C:0≤e % ((nt:Int)+(nv:Int))∧e % ((nt:Int)+(nv:Int)) < (nt:Int)+(nv:Int):=⟨qZ _ nJ,qD _ nJ⟩
   generalize e % ((nt:Int)+(nv:Int))=w at C
   rw[tm C.1,wr (show -1000000≤w % 5+1∧w % 5+1≤1000000 by omega)];refine Bu nJ (Bu nQ (Bu nQ (Bu nJ ?_)));refine AM (Q:=λx=>(∃i,i<nt∧x=nm 97 i)∨ ∃i,i<nv∧x=nm 83 i) (AR (λI=>?_) λI=>AB ?_) λx o=>?_
   ·have I:=mX I;rw[wr (show -1000000≤w - (nt:Int)∧w - (nt:Int) ≤1000000 by omega),wr (show -1000000≤w - (nt:Int)+1∧w - (nt:Int)+1≤1000000 by omega)];refine Bu nJ (AB ?_);rw[V8 nJ nJ];exact .inr ⟨_,nJ,rfl⟩
   ·have I:=mY I;rw[ZT nJ nJ];exact .inl ⟨_,nJ,rfl⟩
   ·refine Az nN (Bd ⟨⟨?_,?_,?_,A,⟨N.left,?_,?_,N.prec,N.act⟩⟩,?_⟩)
    ·rw[wr nJ];omega
    ·rw[wr nJ];omega
    ·rw[wr nJ,pE];simp;omega
    ·rw[pE];simp;omega
    ·intro x' K;rcases qY.1 K with h | h
     ·exact N.right _ h
     ·have:x'=x:=by simpa using h
      subst this;exact o
    ·rw[wr nJ];omega
  ·obtain⟨hp,u⟩:=K;obtain⟨x1,x2,x3,x4⟩:=x;dsimp only at hp ⊢;subst hp;refine AM (Q:=Ru1 nt nv c.length) (AR (λl=>?_) λ_=>AB u) λx o=>?_
   ·have l:=mX l;have hP:=nY (show k<n.length by omega);have Z:=g5.2 _ (oU (show k<n.length by omega));refine AS hP ?_
    generalize n[k] =e at Z
    rw[wr (show -1000000≤e∧e≤1000000 by omega),wr (show -1000000≤(E.length:Int)+1∧(E.length:Int)+1≤1000000 by omega),tm Z.1];have C:0≤e % ((E.length:Int)+1)∧e % ((E.length:Int)+1) < (E.length:Int)+1:=⟨qZ _ nJ,qD _ nJ⟩
    generalize e % ((E.length:Int)+1)=w at C
    refine Bu nJ<|AM (Q:=Ru1 nt nv c.length) (AR (λI=>?_) λ_=>AB u) λx o=>AB o;have I:=mX I;rw[wr (show -1000000≤w - 1∧w - 1≤1000000 by omega)];refine Bu nJ (AB ⟨u.left,u.few,u.right,.inr ⟨(w - 1).toNat,nJ,?_⟩,u.act⟩)
    have:=ZS (i:=w - 1) nJ nJ
    rw[show w - 1+1=w by omega]at this;exact this
   ·refine Az nN (AB ⟨rfl,rfl,rfl,rfl,by simp[p],λr L=>?_⟩);rcases qY.1 L with h | h
    ·exact M _ h
    ·have:r=x:=by simpa using h
     subst this;exact o
 obtain⟨y1,y2,E,y4,y5⟩:=z;obtain⟨rfl,rfl,rfl,rfl,p,M⟩:=m;dsimp only at p M;refine BK (λk (z:GF)=>z.1=y1∧z.2.1= [] ∧z.2.2.1=E∧z.2.2.2.1=nm 83 0∧z.2.2.2.2.length≤f.length+k∧(∀r∈z.2.2.2.2,Ru1 nt nv c.length r)∧ ∀v,v<k→ ∃r∈z.2.2.2.2,r.1=nm 83 v) nJ ⟨rfl,rfl,rfl,rfl,nO,M,λv hv=>nJ⟩ (λk z D h=>?_) λz m=>?_
 ·obtain⟨x1,x2,x3,x4,x5⟩:=z;obtain⟨rfl,rfl,rfl,rfl,W,H,A⟩:=h;dsimp only at W H A ⊢;refine Bu (by rw[wr nJ];omega) ?_;rw[wr (show -1000000≤(k:Int)+1∧(k:Int)+1≤1000000 by omega),V8 nJ nJ,oP];refine Bz (λ(z:Int×Bool)=>0≤z.1∧z.1≤(x5.length:Int)∧(z.2=true→ ∃r∈x5,r.1=nm 83 k)) (λz=>x5.length - z.1.toNat) (λb=>b=true→ ∃r∈x5,r.1=nm 83 k) ⟨nQ,nO,nP⟩ (λz m=>?_) λb B=>?_
  ·obtain⟨i,b⟩:=z;obtain⟨j1,j2,j3⟩:=m;dsimp only at j1 j2 j3 ⊢;refine AR (λl=>?_) λl=>BB j3;have l:=mX l;have X:i.toNat<x5.length:=nJ
   have J:=nY X;refine AM (Q:=λb=>b=true→ ∃r∈x5,r.1=nm 83 k) (AR (λB=>AB λ_=>j3 B) λ_=>Cx j1 J (AB λhe=>?_)) λb' a3=>?_
   ·rw[Ei]at he;exact⟨_,oU X,mX he⟩
   ·refine Bd ⟨⟨?_,?_,a3⟩,?_⟩
    ·rw[wr nJ];omega
    ·rw[wr nJ];omega
    ·rw[wr nJ];omega
  ·refine AM (Q:=λ(z:GF)=>z.1=x1∧z.2.1= [] ∧z.2.2.1=x3∧z.2.2.2.1=nm 83 0∧z.2.2.2.2.length≤f.length+(k+1)∧(∀r∈z.2.2.2.2,Ru1 nt nv c.length r)∧ ∀v,v<k+1→ ∃r∈z.2.2.2.2,r.1=nm 83 v) (AR (λl=>?_) λl=>AB ⟨rfl,rfl,rfl,rfl,nO,H,λv hv=>?_⟩) λz m=>AB m
   ·refine Az nN (AB ⟨rfl,rfl,rfl,rfl,by dsimp only;rw[pE];simp;omega,λr L=>?_,λv hv=>?_⟩)
    ·rcases qY.1 L with h | h
     ·exact H _ h
     ·obtain rfl:=sO.1 h;exact⟨⟨k,D,rfl⟩,nP,nP,.inl rfl,rfl⟩
    ·rcases pW.1 hv with h | rfl
     ·have⟨r,a,b⟩:=A v h;exact⟨r,sE _ a,b⟩
     ·exact⟨_,List.mem_append_right _ (sO.2 rfl),rfl⟩
   ·rcases pW.1 hv with h | rfl
    ·exact A v h
    ·exact B (by simpa using l)
 obtain⟨x1,x2,x3,x4,x5⟩:=z;obtain⟨rfl,rfl,rfl,rfl,W,H,A⟩:=m;dsimp only at W H A;exact AB ⟨nJ,nJ,nJ,nJ,nJ,hT,rfl,y,rfl,H,A,nO⟩
end
end Go.Proofs.YtfnppeejaimnbaaGreatDoor
namespace Go.Proofs.YtfnppeejaimnbaaGreatDoor
open Go Go.Shelf Go.Proofs
def BJ:Ren:=⟨λx=>bif oB x 125 then 124 else bif oB x 128 then 153 else bif oB x 129 then 154 else bif oB x 189 then 87 else bif oB x 215 then 155 else bif oB x 216 then 162 else bif oB x 257 then 127 else bif oB x 294 then 156 else bif oB x 295 then 157 else bif oB x 296 then 158 else bif oB x 297 then 159 else bif oB x 298 then 160 else bif oB x 299 then 161 else bif oB x 300 then 163 else bif oB x 301 then 164 else bif oB x 328 then 183 else bif oB x 329 then 179 else bif oB x 330 then 180 else bif oB x 331 then 184 else bif oB x 332 then 185 else bif oB x 343 then 192 else 0,λx=>bif oB x 0 then 0 else bif oB x 3 then 3 else bif oB x 4 then 4 else bif oB x 5 then 5 else bif oB x 9 then 9 else bif oB x 28 then 30 else bif oB x 46 then 218 else bif oB x 51 then 248 else bif oB x 53 then 223 else bif oB x 131 then 107 else bif oB x 182 then 241 else bif oB x 183 then 242 else bif oB x 218 then 265 else bif oB x 222 then 269 else bif oB x 228 then 278 else bif oB x 229 then 279 else 0,λ_=>0⟩
theorem Oa:Lays.n189 hC BJ where
 mixed:=by kernel_rfl
 f125:=func124.trans (congrArg some (show f124=Body.n125 BJ by kernel_rfl))
 f128:=func153.trans (congrArg some (show f153=Body.n128 BJ by kernel_rfl))
 f129:=func154.trans (congrArg some (show f154=Body.n129 BJ by kernel_rfl))
 f189:=func87.trans (congrArg some (show f87=Body.n189 BJ by kernel_rfl))
 f215:=func155.trans (congrArg some (show f155=Body.n215 BJ by kernel_rfl))
 f216:=func162.trans (congrArg some (show f162=Body.n216 BJ by kernel_rfl))
 f257:=func127.trans (congrArg some (show f127=Body.n257 BJ by kernel_rfl))
 f294:=func156.trans (congrArg some (show f156=Body.n294 BJ by kernel_rfl))
 f295:=func157.trans (congrArg some (show f157=Body.n295 BJ by kernel_rfl))
 f296:=func158.trans (congrArg some (show f158=Body.n296 BJ by kernel_rfl))
 f297:=func159.trans (congrArg some (show f159=Body.n297 BJ by kernel_rfl))
 f298:=func160.trans (congrArg some (show f160=Body.n298 BJ by kernel_rfl))
 f299:=func161.trans (congrArg some (show f161=Body.n299 BJ by kernel_rfl))
 f300:=func163.trans (congrArg some (show f163=Body.n300 BJ by kernel_rfl))
 f301:=func164.trans (congrArg some (show f164=Body.n301 BJ by kernel_rfl))
 f328:=func183.trans (congrArg some (show f183=Body.n328 BJ by kernel_rfl))
 f329:=func179.trans (congrArg some (show f179=Body.n329 BJ by kernel_rfl))
 f330:=func180.trans (congrArg some (show f180=Body.n330 BJ by kernel_rfl))
 f331:=func184.trans (congrArg some (show f184=Body.n331 BJ by kernel_rfl))
 f332:=func185.trans (congrArg some (show f185=Body.n332 BJ by kernel_rfl))
 f343:=func192.trans (congrArg some (show f192=Body.n343 BJ by kernel_rfl))
 t0:=qN
 a0:=sF
 z0:=sB
 v0:=rA
 t3:=pU
 a3:=qR
 z3:=qH
 v3:=pZ
 t4:=pV
 a4:=rS
 z4:=rF
 v4:=qB
 t5:=uB
 a5:=isAgg5
 z5:=sizeOf5
 v5:=zeroValue5
 t9:=uC
 a9:=isAgg9
 z9:=sizeOf9
 v9:=zeroValue9
 t28:=pC
 a28:=tN
 z28:=sL
 v28:=rY
 t46:=sP
 a46:=isAgg218
 z46:=sizeOf218
 v46:=tO
 t51:=sQ
 a51:=isAgg248
 z51:=sizeOf248
 v51:=tP
 t53:=sR
 a53:=isAgg223
 z53:=sizeOf223
 v53:=tQ
 t131:=sS
 a131:=isAgg107
 z131:=sizeOf107
 v131:=tR
 t182:=sT
 a182:=isAgg241
 z182:=sizeOf241
 v182:=tS
 t183:=sU
 a183:=isAgg242
 z183:=sizeOf242
 v183:=tT
 t218:=sV
 a218:=isAgg265
 z218:=sizeOf265
 v218:=tU
 t222:=sW
 a222:=isAgg269
 z222:=sizeOf269
 v222:=tV
 t228:=sX
 a228:=isAgg278
 z228:=sizeOf278
 v228:=tW
 t229:=sY
 a229:=isAgg279
 z229:=sizeOf279
 v229:=tX
def EM:Ren:=⟨λx=>bif oB x 6 then 84 else bif oB x 14 then 123 else bif oB x 15 then 124 else bif oB x 20 then 145 else bif oB x 21 then 146 else bif oB x 22 then 147 else bif oB x 23 then 148 else bif oB x 24 then 149 else bif oB x 25 then 150 else bif oB x 26 then 151 else bif oB x 27 then 152 else bif oB x 28 then 153 else bif oB x 29 then 154 else bif oB x 46 then 178 else bif oB x 47 then 179 else bif oB x 48 then 180 else bif oB x 49 then 181 else bif oB x 50 then 182 else bif oB x 57 then 191 else 0,λx=>bif oB x 0 then 0 else bif oB x 3 then 3 else bif oB x 4 then 4 else bif oB x 5 then 5 else bif oB x 9 then 9 else bif oB x 22 then 106 else bif oB x 24 then 116 else bif oB x 25 then 181 else bif oB x 39 then 218 else bif oB x 45 then 241 else bif oB x 46 then 242 else bif oB x 50 then 107 else bif oB x 53 then 248 else bif oB x 55 then 223 else bif oB x 66 then 265 else bif oB x 70 then 269 else bif oB x 76 then 278 else bif oB x 77 then 279 else 0,λ_=>0⟩
theorem Lo:SlLaysF0.n6 hC EM where
 mixed:=by kernel_rfl
 f6:=⟨ "slices.SortFunc[[]tronage/api.Item,tronage/api.Item]",by decide,Tryz.func84.trans (congrArg some (by kernel_rfl))⟩
 f14:=⟨ "slices.pdqsortCmpFunc[tronage/api.Item]",by decide,Tryz.func123.trans (congrArg some (by kernel_rfl))⟩
 f15:=Tryz.func124.trans (congrArg some (show Tryz.f124=SlBodyF.n15 EM by kernel_rfl))
 f20:=⟨ "slices.insertionSortCmpFunc[tronage/api.Item]",by decide,Tryz.func145.trans (congrArg some (by kernel_rfl))⟩
 f21:=⟨ "slices.heapSortCmpFunc[tronage/api.Item]",by decide,Tryz.func146.trans (congrArg some (by kernel_rfl))⟩
 f22:=⟨ "slices.breakPatternsCmpFunc[tronage/api.Item]",by decide,Tryz.func147.trans (congrArg some (by kernel_rfl))⟩
 f23:=⟨ "slices.choosePivotCmpFunc[tronage/api.Item]",by decide,Tryz.func148.trans (congrArg some (by kernel_rfl))⟩
 f24:=⟨ "slices.reverseRangeCmpFunc[tronage/api.Item]",by decide,Tryz.func149.trans (congrArg some (by kernel_rfl))⟩
 f25:=⟨ "slices.partialInsertionSortCmpFunc[tronage/api.Item]",by decide,Tryz.func150.trans (congrArg some (by kernel_rfl))⟩
 f26:=⟨ "slices.partitionEqualCmpFunc[tronage/api.Item]",by decide,Tryz.func151.trans (congrArg some (by kernel_rfl))⟩
 f27:=⟨ "slices.partitionCmpFunc[tronage/api.Item]",by decide,Tryz.func152.trans (congrArg some (by kernel_rfl))⟩
 f28:=Tryz.func153.trans (congrArg some (show Tryz.f153=SlBodyF.n28 EM by kernel_rfl))
 f29:=Tryz.func154.trans (congrArg some (show Tryz.f154=SlBodyF.n29 EM by kernel_rfl))
 f46:=⟨ "slices.siftDownCmpFunc[tronage/api.Item]",by decide,Tryz.func178.trans (congrArg some (by kernel_rfl))⟩
 f47:=Tryz.func179.trans (congrArg some (show Tryz.f179=SlBodyF.n47 EM by kernel_rfl))
 f48:=Tryz.func180.trans (congrArg some (show Tryz.f180=SlBodyF.n48 EM by kernel_rfl))
 f49:=⟨ "slices.medianAdjacentCmpFunc[tronage/api.Item]",by decide,Tryz.func181.trans (congrArg some (by kernel_rfl))⟩
 f50:=⟨ "slices.medianCmpFunc[tronage/api.Item]",by decide,Tryz.func182.trans (congrArg some (by kernel_rfl))⟩
 f57:=⟨ "slices.order2CmpFunc[tronage/api.Item]",by decide,Tryz.func191.trans (congrArg some (by kernel_rfl))⟩
 t0:=qN
 a0:=sF
 z0:=sB
 v0:=rA
 t3:=pU
 a3:=qR
 z3:=qH
 v3:=pZ
 t4:=pV
 a4:=rS
 z4:=rF
 v4:=qB
 t5:=uB
 a5:=Tryz.isAgg5
 z5:=Tryz.sizeOf5
 v5:=Tryz.zeroValue5
 t9:=uC
 a9:=Tryz.isAgg9
 z9:=Tryz.sizeOf9
 v9:=Tryz.zeroValue9
 t22:=Tryz.underlying106
 a22:=Tryz.isAgg106
 z22:=Tryz.sizeOf106
 v22:=Tryz.zeroValue106
 t25:=Tryz.underlying181
 a25:=Tryz.isAgg181
 z25:=Tryz.sizeOf181
 v25:=Tryz.zeroValue181
 t39:=sP
 a39:=Tryz.isAgg218
 z39:=Tryz.sizeOf218
 v39:=tO
 t45:=sT
 a45:=Tryz.isAgg241
 z45:=Tryz.sizeOf241
 v45:=tS
 t46:=sU
 a46:=Tryz.isAgg242
 z46:=Tryz.sizeOf242
 v46:=tT
 t50:=sS
 a50:=Tryz.isAgg107
 z50:=Tryz.sizeOf107
 v50:=tR
 t53:=sQ
 a53:=Tryz.isAgg248
 z53:=Tryz.sizeOf248
 v53:=tP
 t55:=sR
 a55:=Tryz.isAgg223
 z55:=Tryz.sizeOf223
 v55:=tQ
 t66:=sV
 a66:=Tryz.isAgg265
 z66:=Tryz.sizeOf265
 v66:=tU
 t70:=sW
 a70:=Tryz.isAgg269
 z70:=Tryz.sizeOf269
 v70:=tV
 t76:=sX
 a76:=Tryz.isAgg278
 z76:=Tryz.sizeOf278
 v76:=tW
 t77:=sY
 a77:=Tryz.isAgg279
 z77:=Tryz.sizeOf279
 v77:=tX
def QG:Ren:=⟨λx=>bif oB x 20 then 88 else 0,λx=>bif oB x 0 then 0 else bif oB x 3 then 3 else bif oB x 4 then 4 else bif oB x 22 then 30 else 0,λ_=>0⟩
theorem Ob:Lays2.n20 hC QG where
 mixed:=by kernel_rfl
 f20:=func88.trans (congrArg some (show f88=Body2.n20 QG by kernel_rfl))
 t0:=qN
 a0:=sF
 z0:=sB
 v0:=rA
 t3:=pU
 a3:=qR
 z3:=qH
 v3:=pZ
 t4:=pV
 a4:=rS
 z4:=rF
 v4:=qB
 t22:=pC
 a22:=tN
 z22:=sL
 v22:=rY
 i3:=by kernel_rfl
def Lp:Ren:=⟨λx=>bif oB x 122 then 126 else bif oB x 215 then 155 else 0,λx=>bif oB x 3 then 3 else bif oB x 4 then 4 else 0,λ_=>0⟩
theorem Oc:Lays.n122 hC Lp where
 mixed:=by kernel_rfl
 f122:=func126.trans (congrArg some (show f126=Body.n122 Lp by kernel_rfl))
 f215:=func155.trans (congrArg some (show f155=Body.n215 Lp by kernel_rfl))
 t3:=pU
 a3:=qR
 z3:=qH
 v3:=pZ
 t4:=pV
 a4:=rS
 z4:=rF
 v4:=qB
end Go.Proofs.YtfnppeejaimnbaaGreatDoor
namespace Go.Proofs.YtfnppeejaimnbaaGreatDoor
open Go Go.Eng Go.RowKit Go.Shelf Go.Sort
section
variable {α:Type}{t:Slc}
theorem F8{k:IntKind}{φ:AD}(l:nH):(oG k).All φ (l.map (sG k).val) l:=by
 induction l with
 |nil=>exact .nil
 |cons x l b=>exact Ro.All.cons (a:=[(sG k).val x]) rfl b
def ins{α:Type}(le:α→α→Bool)(x:α):List α→List α
 | [] =>[x]
 |y::l=>if le x y then x::y::l else y::ins le x l
def Sf{α:Type}(le:α→α→Bool):List α→List α
 | [] =>[]
 |x::l=>ins le x (Sf le l)
theorem Un(le:α→α→Bool)(x:α)(l:List α):(ins le x l).Perm (x::l):=by
 induction l with
 |nil=>exact .refl _
 |cons y l a=>
  unfold ins;split
  ·exact .refl _
  ·exact(a.cons y).trans (.swap x y l)
theorem Dh(le:α→α→Bool)(l:List α):(Sf le l).Perm l:=by
 induction l with
 |nil=>exact .refl _
 |cons x l a=>exact(Un le x _).trans (a.cons x)
theorem ff{le:α→α→Bool}(f:∀a b c,le a b=true→le b c=true→le a c=true)(i:∀a b,(le a b || le b a)=true)(x:α){l:List α}(h:l.Pairwise λa b=>le a b=true):(ins le x l).Pairwise λa b=>le a b=true:=by
 induction l with
 |nil=>exact List.pairwise_singleton _ _
 |cons y l j=>
  unfold ins;rw[qG]at h;split
  ·rename_i d
   refine qG.2 ⟨λz e=>?_,qG.2 h⟩;rcases rX.1 e with rfl | e
   ·exact d
   ·exact f _ _ _ d (h.1 z e)
  ·rename_i d
   refine qG.2 ⟨λz e=>?_,j h.2⟩;rcases rX.1 ((Un le x l).mem_iff.1 e) with rfl | e
   ·have:=i z y
    rw[Bool.or_eq_true]at this;rcases this with g | g
    ·exact nC g d
    ·exact g
   ·exact h.1 z e
theorem Q7{le:α→α→Bool}(d:∀a b c,le a b=true→le b c=true→le a c=true)(e:∀a b,(le a b || le b a)=true)(l:List α):(Sf le l).Pairwise λa b=>le a b=true:=by
 induction l with
 |nil=>exact .nil
 |cons x l f=>exact ff d e x f
theorem Uo{le:α→α→Bool}(d:∀a b c,le a b=true→le b c=true→le a c=true)(e:∀a b,(le a b || le b a)=true)(f:∀a b,le a b=true→le b a=true→a=b)(l:List α):Sf le l=l.mergeSort le:=
 List.Perm.eq_of_pairwise (λa b _ _ g h=>f a b g h) (Q7 d e l) (List.pairwise_mergeSort d e l) ((Dh le l).trans (List.mergeSort_perm l le).symm)
def Lq(l:nH):nH:=Sf (λx y=>decide (x≤y)) l
theorem ZV(l:nH):Lq l=l.mergeSort λx y=>decide (x≤y):=
 Uo (λa b c d e=>by simp only[nD]at *;omega) (λa b=>by simp only[Bool.or_eq_true,nD];omega) (λa b d e=>by simp only[nD]at *;omega) l
theorem Tm{k:IntKind}{a b:nH}(h:a.map (pL k)=b.map (pL k)):a=b:=
 (List.map_inj_right (f:=pL k) λx y c=>by cases c;rfl).1 h
def XG(l:nH):Option nH:=if l.length<4611686018427387904 then some (Lq l) else none
def Od(l:nH):Option nH:=if l.length<4611686018427387904 then some (Lib.compact l) else none
theorem St.rowTake{φ:AD}{h:AH}{Γ:List Chk}{ty:uM}{r:Ro α}{l:List α}(H:St φ (⟨pQ ty r,[.slice t.1 t.2.1 t.2.2],l⟩::Γ) h){k:Nat}(E:k≤l.length):
 St φ (⟨pQ ty r,[.slice t.1 k t.2.2],l.take k⟩::Γ) h:=by
 obtain⟨F,⟨p,n,c,vs,e,q,s,f,u,a,w⟩,x,H⟩:=H;have q:l.length=n:=q;simp only[List.cons.injEq,Value.slice.injEq,and_true]at e;obtain⟨y,G,z⟩:=e;refine⟨F,⟨p,k,c,vs.take (k *r.sz),by rw[y,z],by rw[uD];omega,s,f,?_,a.take k,w⟩,x,H⟩;rcases u with⟨g,A,j,m⟩|⟨b,off,arr,g,o,B,I,C,D⟩
 ·exact .inl ⟨g,nJ,j,by rw[m];exact List.take_nil⟩
 ·refine .inr ⟨b,off,arr,g,o,?_,nJ,C,λi v d=>?_⟩
  ·rw[uD,B];exact Nat.min_eq_left (sH _ nJ)
  ·rw[List.getElem?_take]at d;split at d
   ·exact D i v d
   ·cases d
theorem St.rowCap{φ:AD}{h:AH}{Γ:List Chk}{ty:uM}{r:Ro α}{l:List α}(H:St φ (⟨pQ ty r,[.slice t.1 t.2.1 t.2.2],l⟩::Γ) h):l.length≤t.2.2:=by obtain⟨F,⟨p,n,c,vs,e,a,q,f,g,d,s⟩,u,H⟩:=H;have a:l.length=n:=a;simp only[List.cons.injEq,Value.slice.injEq,and_true]at e;obtain⟨v,w,x⟩:=e;rcases g with⟨i,j,k,m⟩|⟨b,off,arr,i,o,y,z,A,B⟩ <;>omega
theorem St.rowHoldsF{φ:AD}{w:uO}{Γ:List Chk}{ty:uM}{r:Ro α}{l:List α}(H:St φ (⟨pQ ty r,[.slice t.1 t.2.1 t.2.2],l⟩::Γ) w.heap):
 (l= [] ∧t.2.1=0)∨ ∃(b off:Nat) (vs:List uL),t.1=some ⟨b,off,none⟩∧r.All φ vs l∧t.2.1=l.length∧b<w.heap.size∧(∀d,w.heap[b]? =some (.cells d ty (0,0))→off+vs.length≤d.size)∧Sort.Holds id w b off vs.toArray:=by
 obtain⟨F,⟨p,n,c,vs,e,h,i,s,u,f,C⟩,D,H⟩:=H;have h:l.length=n:=h;simp only[List.cons.injEq,Value.slice.injEq,and_true]at e;obtain⟨v,E,G⟩:=e;rcases u with⟨k,x,y,z⟩|⟨b,off,d,k,a,I,A,J,B⟩
 ·exact .inl ⟨qS nJ,nJ⟩
 ·right
  refine⟨b,off,vs,by rw[v,k],f,nJ,BH a,λm o=>?_,λj q=>?_⟩
  ·rw[a]at o;cases o
   have:=sH r.sz A
   omega
  have g:j<vs.length:=by simpa using q
  have i:=B j vs[j] (nY g);refine⟨?_,?_⟩
  ·unfold World.cell?;dsimp only;rw[a];dsimp only;rw[getElem!_pos _ j q];simpa using i
  ·unfold World.frozen?;dsimp only;rw[a];simp
theorem St.rowSortedF{φ:AD}{w:uO}{Γ:List Chk}{ty:uM}{r:Ro α}{l m:List α}(H:St φ (⟨pQ ty r,[.slice t.1 t.2.1 t.2.2],l⟩::Γ) w.heap)
 {b off:Nat} (s:t.1=some ⟨b,off,none⟩) (ms:List uL) (f:r.All φ ms m) (y:m.length=l.length) (h:∀a,w.heap[b]? =some (.cells a ty (0,0))→off+ms.length≤a.size) (k:Nat) (os:Array Obj):
 St φ (⟨pQ ty r,[.slice t.1 t.2.1 t.2.2],m⟩::Γ) (grow (putRow id (Sort.ahead w k) b off ms.toArray) os).heap:=by
 have d:(grow (putRow id (Sort.ahead w k) b off ms.toArray) os).heap=w.heap.modify b (onCells (putCells id off ms.toArray)) ++os:=rfl;rw[d];refine H.rowPut f y (λB u x a c=>?_) λj z o=>?_
 ·rw[s]at x;cases x;have p:=BH c;refine⟨putCells id off ms.toArray a,?_,by simp[putCells],λi v n=>?_⟩
  ·rw[rK (by simpa using p),sC,mZ rfl,c];rfl
  ·have q:i<ms.length:=by
    rcases pM i ms.length with g | g
    ·exact g
    ·rw[pJ g]at n;cases n
   have C:=h a c;unfold putCells;rw[Array.getElem?_mapIdx,oR nJ];have A:off≤off+i∧off+i<off+ms.toArray.size:=by simp;exact q
   simp only[Option.map_some];rw[mZ A,Nat.add_sub_cancel_left,getElem!_pos _ i (by simpa using q)];rw[nY q]at n;cases n;simp
 ·rw[rK (by simpa using z),sC,nA λe=>o b off s e.symm]
section
variable {φ:AD}{h:AH}{F:List Chk}
theorem X8{l r:nH}(c:St φ (cR 3 (oG .i64) t l::F) h)(hd:XG l=some r):
 nX hC 87 [.slice t.1 t.2.1 t.2.2] h (An λv i=>∃ψ:AD,∃y:Unit,∃g:nH,Sub φ ψ∧v=mG.val y∧g=r∧St ψ (cR 3 (oG .i64) t g::F) i):=by
 unfold XG at hd;split at hd
 ·rename_i j
  cases hd;intro w m;subst m;rcases c.rowHolds rfl (pL .i64) (λvs n=>⟨l,Ds n⟩) with⟨o,d⟩|⟨b,off,bs,ht,hall,d,hlen,hlt,hfit,hH⟩
  ·subst o;rw[d];have a:=Any.slices_Sort_int_none Oa t.1 t.2.2 w;refine(show Calls hC 87 #[.slice t.1 0 t.2.2] w _ from a).mono ?_;rintro e p ⟨rfl,rfl⟩;exact⟨CB.refl _,_,rfl,φ,(),_,qT _,rfl,rfl,by rw[show Lq [] = [] from rfl];exact c⟩
  ·have f:bs=l:=Tm (Ds hall);subst f;rw[ht,d];have a:=Any.slices_Sort_int Oa b off t.2.2 bs w hH hlt j;rw[←ZV]at a;refine(show Calls hC 87 #[.slice (some ⟨b,off,none⟩) bs.length t.2.2] w _ from a).mono ?_;rintro e p ⟨rfl,k,os,rfl⟩;refine⟨⟨rfl,rfl,rfl,by rw[Go.Sort.size_grow,Go.Sort.size_putRow];exact Nat.le_add_right _ _⟩,_,rfl,φ,(),_,qT _,rfl,rfl,?_⟩;exact c.rowSorted ht (pL .i64) (Lq bs) (F8 _) (Dh _ _).length_eq (Dh _ _).length_eq hfit k os
 ·cases hd
theorem Q8(l:nH):(Lib.compact l).length≤l.length:=by unfold Lib.compact Lib.compactUpTo;rw[List.length_map];refine Nat.le_trans (List.length_filter_le _ _) ?_;simp
theorem Up{l r:nH}(c:St φ (cR 3 (oG .i64) t l::F) h)(hd:Od l=some r):
 nX hC 88 [.slice t.1 t.2.1 t.2.2] h (An λv o=>∃ψ:AD,∃y:Slc,∃m:nH,Sub φ ψ∧v=lS.val y∧m=r∧St ψ (cR 3 (oG .i64) y m::F) o):=by
 unfold Od at hd;split at hd
 ·rename_i z
  cases hd;intro w p;subst p;have d:=St.rowCap c;rcases c.rowHolds rfl (pL .i64) (λvs q=>⟨l,Ds q⟩) with⟨s,f⟩|⟨b,off,bs,ht,hall,f,hlen,hlt,hfit,hH⟩
  ·subst s;rw[f];have g:=Any.slices_Compact_int_empty Ob t.1 t.2.2 w;refine(show Calls hC 88 #[.slice t.1 0 t.2.2] w _ from g).mono ?_;rintro e u ⟨rfl,rfl⟩;rw[show t=(t.1,t.2.1,t.2.2) from rfl,f]at c;exact⟨CB.refl _,_,rfl,φ,(t.1,0,t.2.2),_,qT _,rfl,rfl,c⟩
  ·have i:bs=l:=Tm (Ds hall);subst i;rw[ht,f];have g:=Any.slices_Compact_int Ob b off t.2.2 bs w hH nJ d;refine(show Calls hC 88 #[.slice (some ⟨b,off,none⟩) bs.length t.2.2] w _ from g).mono ?_;rintro e u ⟨rfl,k,rfl⟩;have j:=Q8 bs;have a:(Lib.compact bs++qJ (bs.length - (Lib.compact bs).length) 0).length=bs.length:=nN
   have x:=c.rowSorted ht (pL .i64) (Lib.compact bs++qJ (bs.length - (Lib.compact bs).length) 0) (F8 _) a a hfit k #[];have n:=St.rowTake x (k:=(Lib.compact bs).length) (by rw[a];exact j);rw[List.take_left,grow_empty]at n;refine⟨⟨rfl,rfl,rfl,by rw[Go.Sort.size_putRow];exact pT _⟩,_,rfl,φ,(t.1,(Lib.compact bs).length,t.2.2),_,qT _,by rw[ht];rfl,rfl,n⟩
 ·cases hd
end
end
end Go.Proofs.YtfnppeejaimnbaaGreatDoor
namespace Go.Proofs.YtfnppeejaimnbaaGreatDoor
open Go Go.Shelf Go.Proofs
def SJ:Ren:=⟨λx=>bif oB x 6 then 186 else bif oB x 10 then 168 else 0,λx=>bif oB x 0 then 0 else bif oB x 3 then 3 else bif oB x 4 then 4 else bif oB x 22 then 30 else bif oB x 23 then 3 else bif oB x 25 then 76 else 0,λ_=>0⟩
theorem Q9:SlLaysH.n10 hC SJ where
 mixed:=by kernel_rfl
 f6:=⟨ "slices.IndexFunc[[]int,int]",by decide,Tryz.func186.trans (congrArg some (by kernel_rfl))⟩
 f10:=⟨ "slices.DeleteFunc[[]int,int]",by decide,Tryz.func168.trans (congrArg some (by kernel_rfl))⟩
 t0:=qN
 a0:=sF
 z0:=sB
 v0:=rA
 t3:=pU
 a3:=qR
 z3:=qH
 v3:=pZ
 t4:=pV
 a4:=rS
 z4:=rF
 v4:=qB
 t22:=pC
 a22:=tN
 z22:=sL
 v22:=rY
 a23:=qR
 z23:=qH
 t25:=Tryz.underlying76
 a25:=Tryz.isAgg76
 z25:=Tryz.sizeOf76
 v25:=Tryz.zeroValue76
end Go.Proofs.YtfnppeejaimnbaaGreatDoor
namespace Go.Proofs.YtfnppeejaimnbaaGreatDoor.Dg
open Go Go.Eng
def Lr(n x:Int):Bool:=decide (x<0) || decide (n≤x)
def DO(ll:List nH)(x n:Int):nH:=if x≥ (ll.length:Int) then[] else(ll[x.toNat]?.getD []).filter λy=> !Lr n y
section
variable {A:Type}(ll:List nH) (n:Int) (ledA:A→Int→Int→Option A) (partA:A→nH→Option A)
abbrev EG(A:Type):=nH×nH×A
noncomputable def toD(rec:EG A→Int→Option (EG A))(x to:Int)(st:EG A):Option (EG A):=(idx st.1 to).bind λe=>(cond (e==0) (rec st to) (some st)).bind λst=>(idx st.1 x).bind λp=>(idx st.1 to).bind λq=>(DQ st.1 x (if q<p then q else p)).bind λlow=>(ledA st.2.2 x to).bind λa=>some (low,st.2.1,a)
noncomputable def ZW(x:Int)(b:Nat)(st:EG A):Option (EG A):=(idx st.1 x).bind λe=>cond (e !=(b:Int)) (some st)<|need (1≤b∧b - 1≤st.2.1.length∧st.2.1.length≤1073741824)<|(forS 0 ((st.2.1.drop (b - 1)).length:Int) st.1 λi low=>(idx (st.2.1.drop (b - 1)) i).bind λy=>DQ low y 9223372036854775807).bind λlow=>(partA st.2.2 (st.2.1.drop (b - 1))).bind λa=>some (low,st.2.1.take (b - 1),a)
noncomputable def RA(rec:EG A→Int→Option (EG A))(st:EG A)(x:Int):Option (EG A):=(app st.2.1 [x]).bind λstk=>(DQ st.1 x (stk.length:Int)).bind λlow=>need (∀l∈ll,l.length≤1073741824)<|(forS 0 ((DO ll x n).length:Int) ((low,stk,st.2.2):EG A) λi st=>(idx (DO ll x n) i).bind λto=>toD ledA rec x to st).bind λst=>ZW partA x stk.length st
noncomputable def Ls:Nat→EG A→Int→Option (EG A)|0=>λ_ _=>none | k+1=>RA ll n ledA partA (Ls k)
end
noncomputable def Si{A:Type}(ll:List nH)(n:Int)(ledA:A→Int→Int→Option A)(partA:A→nH→Option A)(fuel:Nat)(a:A):Option (EG A):=need (0≤n∧n≤1073741824)<|forS 0 n ((qJ n.toNat 0,[],a):EG A) λi st=>(idx st.1 i).bind λe=>cond (e==0) (Ls ll n ledA partA fuel st i) (some st)
section
variable {k:IntKind}{t:Slc}
def cloneD(l:nH):Option nH:=if l.length≤1073741824 then some l else none
theorem Gt{l r:nH}(h:cloneD l=some r):l.length≤1073741824∧r=l:=by
 unfold cloneD at h;split at h
 ·rename_i g;exact⟨g,(Option.some.inj h).symm⟩
 ·cases h
theorem ZX:Fy hC 30 30 3 1:=⟨pC,.inl pC,⟨t3,nU,rfl,⟨_,rfl,rfl⟩,nQ,nQ⟩,nQ⟩
theorem iL:Fy hC 224 224 223 1:=⟨rL,.inl rL,⟨t223,nU,rfl,⟨_,rfl,rfl⟩,nQ,nQ⟩,nQ⟩
theorem F8{φ:AD}(l:nH):(oG k).All φ (l.map (sG k).val) l:=by
 induction l with
 |nil=>exact .nil
 |cons x l b=>exact Ro.All.cons (a:=[(sG k).val x]) rfl b
section
variable {φ:AD}{h:AH}{F:List Chk}
theorem Oe{l:nH}(c:St φ F h)(e:l.length=t.2.1)(f:∀b,St φ F b→Cg b t.1 (l.map (sG .i64).val))(g:t.1=none→l= [])(i:l.length≤1073741824):
 nX hC 35 [.slice t.1 t.2.1 t.2.2] h (An λv b=>∃y:Slc,v=lS.val y∧St φ (⟨pQ 3 (oG .i64),[.slice y.1 y.2.1 y.2.2],l⟩::F) b):=by
 refine A9 mixed func35 ?_;rw[Ip];unfold F4;cases hp:t.1 with
 |none=>
  rw[g hp];exact AC ⟨(none,0,0),rfl,c.nil _ _⟩
 |some a=>
  rw[sZ];refine AU (vs:=[]) c λr j d=>?_;have k:=rI (r:=oG .i64) (l:=[]) (n:=0) d .nil rfl nQ;refine AV (ms:=l) (l':=l) ZX k rfl (by rw[←hp];exact f j d.tail) (F8 l) e (by unfold app;rw[mZ (by have:=i;simp;omega)];rfl) λy o m=>AC ⟨y,rfl,m⟩
theorem Tn{l:nH}(c:St φ F h)(e:l.length=t.2.1)(f:∀b,St φ F b→Cg b t.1 (l.map (sG .u64).val))(g:t.1=none→l= [])(i:l.length≤1073741824):
 nX hC 138 [.slice t.1 t.2.1 t.2.2] h (An λv b=>∃y:Slc,v=lS.val y∧St φ (⟨pQ 223 (oG .u64),[.slice y.1 y.2.1 y.2.2],l⟩::F) b):=by
 refine A9 mixed func138 ?_;rw[GT];unfold EE;cases hp:t.1 with
 |none=>
  rw[g hp];exact AC ⟨(none,0,0),rfl,c.nil _ _⟩
 |some a=>
  rw[sZ];refine AU (vs:=[]) c λr j d=>?_;have k:=rI (r:=oG .u64) (l:=[]) (n:=0) d .nil rfl nQ;refine AV (ms:=l) (l':=l) iL k rfl (by rw[←hp];exact f j d.tail) (F8 l) e (by unfold app;rw[mZ (by have:=i;simp;omega)];rfl) λy o m=>AC ⟨y,rfl,m⟩
theorem fg{l:nH}(H:oA (oG k) φ t l):t.1=none→l= []:=H.2.2.2.1
theorem ZY{l:nH}(H:oA (oG k) φ t l){a:AH}(s:St φ F a):Cg a t.1 (l.map (sG k).val):=by have⟨vs,c,b⟩:=H.heap s.sub;rw[Ds c]at b;exact b
theorem cg{ty:uM}{l:nH}(H:St φ (⟨pQ ty (oG k),[.slice t.1 t.2.1 t.2.2],l⟩::F) h):t.1=none→l= []:=by
 intro c;obtain⟨vs,d,f⟩:=H.all;cases l with
 |nil=>rfl
 |cons x l=>
  have e:=Ds d;obtain⟨a,b,_⟩:=f 0 ((sG k).val x) (by rw[e];rfl);rw[c]at b;cases b
theorem PZ{ty:uM}{l:nH}{a:AH}(s:St φ (⟨pQ ty (oG k),[.slice t.1 t.2.1 t.2.2],l⟩::F) a):Cg a t.1 (l.map (sG k).val):=by obtain⟨vs,c,b⟩:=s.all;rw[Ds c]at b;exact b
theorem clone46_ro{l:nH}(k:oA (oG .i64) φ t l)(c:St φ F h){r:nH}(hd:cloneD l=some r):nX hC 35 [.slice t.1 t.2.1 t.2.2] h
 (An λv a=>∃ψ:AD,∃y:Slc,∃b:nH,Sub φ ψ∧v=lS.val y∧b=r∧St ψ (⟨pQ 3 (oG .i64),[.slice y.1 y.2.1 y.2.2],b⟩::F) a):=by obtain⟨d,rfl⟩:=Gt hd;refine(Oe c k.length.symm (λa s=>ZY k s) (fg k) d).mono λe a ⟨v,f,y,g,i⟩=>⟨v,f,φ,y,_,qT _,g,rfl,i⟩
theorem clone53_own{l:nH}(a:St φ (⟨pQ 223 (oG .u64),[.slice t.1 t.2.1 t.2.2],l⟩::F) h){r:nH}(hd:cloneD l=some r):nX hC 138 [.slice t.1 t.2.1 t.2.2] h
 (An λv b=>∃ψ:AD,∃y:Slc,∃c:nH,Sub φ ψ∧v=lS.val y∧c=r∧St ψ (⟨pQ 223 (oG .u64),[.slice y.1 y.2.1 y.2.2],c⟩::⟨pQ 223 (oG .u64),[.slice t.1 t.2.1 t.2.2],l⟩::F) b):=by obtain⟨d,rfl⟩:=Gt hd;refine(Tn a a.rowLen.symm (λb s=>PZ s) (cg a) d).mono λe b ⟨v,f,y,g,i⟩=>⟨v,f,φ,y,_,qT _,g,rfl,i⟩
end
end
end Go.Proofs.YtfnppeejaimnbaaGreatDoor.Dg
namespace Go.Proofs.YtfnppeejaimnbaaGreatDoor
open Go Go.Eng
section
variable {s_0:nG}
section
variable {φ:AD}{h:AH}{F:List Chk}
theorem X9:Sc hC 224 223 (.int .u64 (0:Int)):=⟨rL,⟨t223,nU,rfl,⟨_,rfl,rfl⟩,nQ⟩⟩
noncomputable def D7(s_0:nH)(v_1:Int):Option Int:=
 (C6 (σ:=Unit) (β:=Int) 0 (s_0.length:Int) () λa e=>
  (idx s_0 a).bind λc=>
  cond (v_1==c)
  (some (oZ a))
  (some (pA ()))).bind λb=>match b with
 |.next f=>
  some (-1:Int)
 |.done d=>some d
theorem Ir{s_0:Slc}{b:nH}{v_1:Int}(d:oA (oG .i64) φ s_0 b)(A:St φ F h){r:Int}(hd:D7 b v_1=some r):
 nX hC 139 [sv s_0,lN v_1] h (An (mN φ r F)):=by
 refine AT mixed func139 (Iq ..) ?_;have e:s_0.2.1=oK b:=d.length;have⟨u,i,hd⟩:=bS hd;refine BQ i (λj y B g=>∃ψ:AD,Sub φ ψ∧y.1=j∧()=g∧St ψ F B) rfl ⟨φ,sb,rfl,rfl,A⟩ ?_ ?_ ?_
 ·rintro _ v w _ _ ⟨f,x,rfl,rfl,c⟩ a z k l m;refine Ad (dT e k)<|gx d a c λa0 a=>mP a rfl (λa=>?_) (λa=>?_)
  ·obtain rfl:=iS a;obtain rfl:=m _ rfl;obtain rfl:=iS hd;exact Ak (Ah (AC ⟨f,v.1,sb,rfl,rfl,c⟩))
  obtain rfl:=iS a;exact lH rfl rfl ⟨f,sb,l,rfl,c⟩
 ·rintro _ v C _ ⟨n,D,rfl,rfl,o⟩ p q;subst q;refine AW (dF e p)<|AJ (lI rfl ⟨_,rfl,_,n,sb,rfl,rfl,o⟩)
 rintro E G ⟨_,rfl,_,s,H,_,rfl,t⟩;exact AC ⟨s,(-1:Int),sb,rfl,iS hd,t⟩
noncomputable def CY(s_0:nH)(v_1:Int):Option Bool:=(D7 s_0 v_1).bind λt1=>some (decide (t1≥ 0))
theorem HN{s_0:Slc}{a:nH}{v_1:Int}(b:oA (oG .i64) φ s_0 a)(j:St φ F h){r:Bool}(hd:CY a v_1=some r):
 nX hC 108 [sv s_0,lN v_1] h (An (mM φ r F)):=by refine AT mixed func108 (HL ..) ?_;have⟨f,c,hd⟩:=bS hd;refine AK (Ir b j c) ?_;rintro _ g ⟨d,t1,i,rfl,rfl,e⟩;exact⟨t1,rfl,AC ⟨d,(decide (t1≥ (0:Int))),sb,rfl,iS hd,e⟩⟩
noncomputable def EH(s_0:DN)(a:Int):Option Bool:=(cond (decide (a≥ 0)) (some (decide (a< s_0.1))) (some false)).bind λb=>some b
theorem IX{a:DN}{e:Int}(n:St φ (cO 226 E7 s_0 a::F) h){r:Bool}(hd:EH a e=some r):
 nX hC 130 [lP s_0,lN e] h (An (mM φ r (cO 226 E7 s_0 a::F))):=by
 refine AT mixed func130 (OW ..) ?_;have⟨d,b,hd⟩:=bS hd;refine AY (λy o g=>∃ψ:AD,Sub φ ψ∧y.1=g∧St ψ (cO 226 E7 s_0 a::F) o) (g:=d) ?_ ?_
 ·refine mP b rfl (λb=>?_) (λb=>?_)
  ·obtain⟨j,k,rfl,c⟩:=OQ n;refine AI _ rfl<|AA c.at1 rfl ?_;exact lG rfl ⟨φ,sb,iS b,(Jp (x0:=(a.1)) c.at1.at1)⟩
  exact lG rfl ⟨φ,sb,iS b,n⟩
 rintro p l ⟨f,m,rfl,i⟩;exact AC ⟨f,p.1,sb,rfl,iS hd,i⟩
noncomputable def Ey(s_0:DN)(a:Int):Option Bool:=((EH s_0 a).bind λt2=>cond t2 (need ((64:Int)≠0)<|(idx s_0.2 (bD .i64 (pG a 64))).bind λb=>need ((64:Int)≠0)<|need (0≤(bO a 64))<|some ((bD .u64 (pF (oM (oE .u64) (rG b (2 ^ (min (eE (bO a 64)) (oE .u64)))) &&& (oM (oE .u64) 1)):Nat))==1)) (some false)).bind λc=>some c
theorem N1{b:DN}{j:Int}(v:St φ (cO 226 E7 s_0 b::F) h){r:Bool}(hd:Ey b j=some r):
 nX hC 131 [lP s_0,lN j] h (An (mM φ r (cO 226 E7 s_0 b::F))):=by
 refine AT mixed func131 (Nw ..) ?_;have⟨f,a,hd⟩:=bS hd;refine AY (λy A g=>∃ψ:AD,Sub φ ψ∧y.1=g∧St ψ (cO 226 E7 s_0 b::F) A) (g:=f) ?_ ?_
 ·have⟨n,i,a⟩:=bS a;refine AK (IX v i) ?_;rintro _ o ⟨d,t2,p,rfl,rfl,e⟩;refine⟨t2,rfl,mP a rfl (λa=>?_) (λa=>?_)⟩
  ·obtain⟨q,s,rfl,c⟩:=OQ e;refine AI _ rfl<|AA c.at1 rfl<|DM a id λt a=>gxO c a λk a=>DM a id λu a=>DM a id λw a=>?_;exact lG rfl ⟨d,sb,iS a,(Jp (x0:=(b.1)) c.at1.at1)⟩
  exact lG rfl ⟨d,sb,iS a,e⟩
 rintro B x ⟨l,z,rfl,m⟩;exact AC ⟨l,B.1,sb,rfl,iS hd,m⟩
noncomputable def Aw(s_0:DN)(a:Int):Option (Bool×DN):=((EH s_0 a).bind λt2=>cond (!t2) (some true) ((Ey s_0 a).bind λt3=>some t3)).bind λd=>cond d (some (false,s_0)) (need ((64:Int)≠0)<|(idx s_0.2 (bD .i64 (pG a 64))).bind λb=>need ((64:Int)≠0)<|need (0≤(bO a 64))<|(DQ s_0.2 (bD .i64 (pG a 64)) (bD .u64 (pF (oM (oE .u64) b ||| (oM (oE .u64) (bD .u64 (1 *2 ^ (min (eE (bO a 64)) (oE .u64)))))):Nat))).bind λc=>some (true,(s_0.1,c)))
theorem Cd{b:DN}{s:Int}(A:St φ (cO 226 E7 s_0 b::F) h){r:(Bool×DN)}(hd:Aw b s=some r):
 nX hC 91 [lP s_0,lN s] h (An λv B=>∃ψ:AD,∃y:Bool,∃d:DN,Sub φ ψ∧v=lU.val y∧(y,d)=r∧St ψ (cO 226 E7 s_0 d::F) B):=by
 refine AT mixed func91 (Nu ..) ?_;have⟨l,a,hd⟩:=bS hd;refine AY (λy C g=>∃ψ:AD,Sub φ ψ∧y.1=g∧St ψ (cO 226 E7 s_0 b::F) C) (g:=l) ?_ ?_
 ·have⟨x,m,a⟩:=bS a;refine AK (IX A m) ?_;rintro _ z ⟨n,t2,a0,rfl,rfl,e⟩;refine⟨t2,rfl,mP a rfl (λa=>?_) (λa=>?_)⟩
  ·exact lG rfl ⟨n,sb,iS a,e⟩
  have⟨D,o,a⟩:=bS a;refine AK (N1 e o) ?_;rintro _ E ⟨p,t3,G,rfl,rfl,q⟩;exact⟨t3,rfl,lG rfl ⟨p,sb,iS a,q⟩⟩
 rintro H I ⟨f,J,rfl,i⟩;refine mP hd rfl (λhd=>?_) (λhd=>?_)
 ·exact AC ⟨f,false,b,sb,rfl,iS hd,i⟩
 obtain⟨K,L,rfl,c⟩:=OQ i;refine AI _ rfl<|AA c.at1 rfl<|DM hd id λM hd=>gxO c hd λN hd=>DM hd id λO hd=>DM hd id λal hd=>?_;have⟨t,j,hd⟩:=bS hd;have⟨ap,k,u⟩:=c.there j;refine AI _ k (Ai u (FH c j rfl k ?_));intro P w;exact AC ⟨f,true,(b.1,t),sb,rfl,iS hd,(Jp (x0:=(b.1)) w.at1.at1)⟩
noncomputable def CN(a:Int):Option DN:=need ((64:Int)≠0)<|(EC (bD .i64 (pG (bD .i64 ((bD .i64 ((if(if 1000 <a then 1000 else a) >0 then(if 1000 <a then 1000 else a) else 0)+64)) - 1)) 64)) 0).bind λt1=>some ((if(if 1000 <a then 1000 else a) >0 then(if 1000 <a then 1000 else a) else 0),t1)
theorem Ej{k:Int}(l:St φ F h){r:DN}(hd:CN k=some r):
 nX hC 96 [lN k] h (An λv m=>∃ψ:AD,∃y:nG,∃a:DN,Sub φ ψ∧v=lR.val y∧a=r∧St ψ (cO 226 E7 y a::F) m):=by refine AT mixed func96 (Q4 ..)<|DM hd id λg hd=>?_;have⟨b,c,hd⟩:=bS hd;refine FW (r:=(oG .u64)) (x:=(0:Int)) X9 l rfl rfl c ?_;intro t1 i d;refine AU (vs:=[.int .i64 (if(if(1000:Int) <k then(1000:Int) else k) >(0:Int) then(if(1000:Int) <k then(1000:Int) else k) else(0:Int)),sv t1]) d λn j e=>?_;have f:=Jp (x0:=(if(if(1000:Int) <k then(1000:Int) else k) >(0:Int) then(if(1000:Int) <k then(1000:Int) else k) else(0:Int))) e.at1.at1.at1;exact AC ⟨φ,(lF n),((if(if(1000:Int) <k then(1000:Int) else k) >(0:Int) then(if(1000:Int) <k then(1000:Int) else k) else(0:Int)),b),sb,rfl,iS hd,f⟩
noncomputable def DY(c:Int)(a:nH):Option DN:=(CN c).bind λt1=>(forS (σ:=DN) 0 (a.length:Int) t1 λb e=>(idx a b).bind λd=>(Aw e d).bind λt6=>some t6.2).bind λf=>some f
theorem FL{B:Int}{A:Slc}{b:nH}(c:oA (oG .i64) φ A b)(C:St φ F h){r:DN}(hd:DY B b=some r):
 nX hC 99 [lN B,sv A] h (An λv D=>∃ψ:AD,∃y:nG,∃d:DN,Sub φ ψ∧v=lR.val y∧d=r∧St ψ (cO 226 E7 y d::F) D):=by
 refine AT mixed func99 (SI ..) ?_;have e:A.2.1=oK b:=c.length;have⟨L,k,hd⟩:=bS hd;refine AK (Ej C k) ?_;rintro _ M ⟨f,t1,l,N,rfl,rfl,m⟩;refine⟨t1,rfl,?_⟩;have⟨O,n,hd⟩:=bS hd;refine BD n (λo y E g=>∃ψ:AD,∃i:DN,Sub f ψ∧y.1=o∧i=g∧St ψ (cO 226 E7 t1 i::F) E) rfl ⟨f,l,sb,rfl,rfl,m⟩ ?_ ?_ ?_
 ·rintro _ G P _ _ ⟨Q,al,ap,rfl,rfl,j⟩ a ax p q;refine Ad (dT e p)<|gx c a j λR a=>?_;have⟨S,s,a⟩:=bS a;refine AK (Cd j s) ?_;rintro _ T ⟨t,t6,u,U,rfl,rfl,w⟩;refine⟨t6,rfl,?_⟩;obtain rfl:=iS a;exact lH rfl rfl ⟨t,u,sb,q,rfl,w⟩
 ·rintro _ G V ⟨x,z,W,rfl,rfl,a0⟩ H;refine AW (dF e H)<|AJ (lI rfl ⟨_,x,z,sb,rfl,rfl,a0⟩)
 rintro X Y ⟨_,I,J,Z,_,rfl,K⟩;exact AC ⟨I,t1,J,sb,rfl,iS hd,K⟩
noncomputable def DZ(s_0:DN):Option DN:=(Dg.cloneD s_0.2).bind λt5=>some (s_0.1,t5)
theorem Mv{a:DN}(g:St φ (cO 226 E7 s_0 a::F) h){r:DN}(hd:DZ a=some r):
 nX hC 105 [lP s_0] h (An λv t=>∃ψ:AD,∃y:nG,∃d:DN,Sub φ ψ∧v=lR.val y∧d=r∧St ψ (cO 226 E7 y d::cO 226 E7 s_0 a::F) t):=by refine AT mixed func105 (Mq ..) ?_;obtain⟨f,n,rfl,c⟩:=OQ g;refine AI _ rfl<|AA c.at1 rfl<|AI _ rfl<|AA c.at1 rfl ?_;have⟨o,i,hd⟩:=bS hd;refine AK (Dg.clone53_own c i) ?_;rintro _ p ⟨k,t5,l,q,rfl,rfl,e⟩;refine⟨t5,rfl,AP (oS (b:=f) (j:=0) e.at2 rfl)<|AU (vs:=[.int .i64 a.1,sv t5]) e λu s m=>?_⟩;exact AC ⟨k,(lF u),(a.1,l),sb,rfl,iS hd,((Jp (x0:=(a.1)) ((Jp (x0:=(a.1)) m.at1.at1.at1).at1).at2.at1).at1)⟩
end
end
end Go.Proofs.YtfnppeejaimnbaaGreatDoor
namespace Go.Proofs.YtfnppeejaimnbaaGreatDoor.Dg
open Go Go.Eng
section
variable {w:Nat}
theorem fh{n:Nat}(h:n<18446744073709551616):bD .u64 (n:Int)=(n:Int):=by
 unfold bD;simp only[oE,rM]
 have:(n:Int) % 18446744073709551616=(n:Int):=nJ
 simp;omega
theorem YA{n:Int}(a: -9223372036854775808≤n)(b:n≤9223372036854775807):bD .i64 n=n:=by unfold bD;simp only[oE,rM];simp;omega
theorem MV(a:w<18446744073709551616):(oM (oE .u64) (w:Int)).toNat=w:=by
 rw[BitVec.toNat_ofInt];have e:((2 ^ oE .u64:Nat):Int)=18446744073709551616:=nQ
 rw[e];omega
theorem ZZ{k:Nat}(a:k<64):bD .u64 ((1:Int) *2 ^ (min k (oE .u64)))=((2 ^ k:Nat):Int):=by
 have b:min k (oE .u64)=k:=by simp only[oE];omega
 have c:(1:Int) *2 ^ k=((2 ^ k:Nat):Int):=nP
 rw[b,c];exact fh (by
  have:2 ^ k<2 ^ 64:=sI nQ a
  simpa using this)
theorem Uq{k:Nat}(a:k<64):(2:Nat) ^ k<18446744073709551616:=by
 have:2 ^ k<2 ^ 64:=sI nQ a
 simpa using this
theorem eh{a b:Nat}(c:a<18446744073709551616)(d:b<18446744073709551616):a ||| b<18446744073709551616:=by
 have:=Nat.or_lt_two_pow (n:=64) (x:=a) (y:=b) (by simpa using c) (by simpa using d)
 simpa using this
theorem fi{a b:Nat}(c:a<18446744073709551616):a &&& b<18446744073709551616:=tA Nat.and_le_left c
theorem ci{v:Nat}(a:w<18446744073709551616)(b:v<18446744073709551616):
 bD .u64 (pF (oM (oE .u64) (w:Int) ||| (oM (oE .u64) (v:Int))):Nat)=((w ||| v:Nat):Int):=by rw[BitVec.toNat_or,MV a,MV b];exact fh (eh a b)
theorem RB{v:Nat}(a:w<18446744073709551616)(b:v<18446744073709551616):
 bD .u64 (pF (oM (oE .u64) (w:Int) &&& (oM (oE .u64) (v:Int))):Nat)=((w &&& v:Nat):Int):=by rw[BitVec.toNat_and,MV a,MV b];exact fh (fi a)
theorem Ur{j:Nat}(a:w<18446744073709551616)(b:64≤j):w.testBit j=false:=Nat.testBit_lt_two_pow (Nat.lt_of_lt_of_le a (by
 have:2 ^ 64≤2 ^ j:=Nat.pow_le_pow_right nQ b
 simpa using this))
theorem Za{k:Nat}(a:w<18446744073709551616)(f:k<64):
 ((bD .u64 (pF (oM (oE .u64) (rG (w:Int) (2 ^ (min k (oE .u64)))) &&& (oM (oE .u64) (1:Int))):Nat))==(1:Int))=w.testBit k:=by
 have b:min k (oE .u64)=k:=by simp only[oE];omega
 have c:rG (w:Int) (2 ^ k)=((w / 2 ^ k:Nat):Int):=by
  rw[rN _ (Int.pow_nonneg nQ)];simp
 have d:(1:Int)=((1:Nat):Int):=rfl;rw[b,c,d,RB (tA (Nat.div_le_self _ _) a) nQ];have e:w / 2 ^ k &&& 1=(w / 2 ^ k) % 2:=Nat.and_one_is_mod _;rw[e,Nat.testBit_eq_decide_div_mod_eq];by_cases h:w / 2 ^ k % 2=1
 ·rw[h];rfl
 ·have:w / 2 ^ k % 2=0:=nJ
  rw[this];rfl
end
section
variable {k:Nat}
abbrev Ae:=Int×nH
def Kt(a:nH)(i:Nat):Bool:=((a[i / 64]?).getD 0).toNat.testBit (i % 64)
def mem(s:Ae)(i:Int):Bool:=decide (0≤i) && Kt s.2 i.toNat
structure OkS (s:Ae):Prop where
 lo:0≤s.1
 hi:s.1≤1000
 len:s.2.length=(s.1.toNat+63) / 64
 word:∀x∈s.2,0≤x∧x<18446744073709551616
 top:∀i:Nat,s.1≤(i:Int)→Kt s.2 i=false
def okB(s:Ae):Bool:=decide (0≤s.1) && decide (s.1≤1000) && decide (s.2.length=(s.1.toNat+63) / 64) && s.2.all (λx=>decide (0≤x) && decide (x<18446744073709551616)) && (qO (64 *s.2.length - s.1.toNat)).all λk=> !Kt s.2 (s.1.toNat+k)
theorem cj(s:Ae):okB s=true↔OkS s:=by
 unfold okB;simp only[Bool.and_eq_true,nD,List.all_eq_true,Bool.not_eq_true',rO];constructor
 ·rintro⟨⟨⟨⟨a,b⟩,c⟩,d⟩,e⟩;refine⟨a,b,c,d,λi f=>?_⟩;by_cases g:i<64 *s.2.length
  ·have:=e (i - s.1.toNat) nJ
   rwa [show s.1.toNat+(i - s.1.toNat)=i by omega]at this
  ·unfold Kt;rw[pJ nJ];simp
 ·rintro⟨a,b,c,d,e⟩;exact⟨⟨⟨⟨a,b⟩,c⟩,d⟩,λk _=>e _ nJ⟩
instance (s:Ae):Decidable (OkS s):=decidable_of_iff _ (cj s)
theorem OkS.at{s:Ae}(H:OkS s)(a:(k:Int) <s.1):∃w:Nat,∃h:k / 64<s.2.length,s.2[k / 64] =(w:Int)∧w<18446744073709551616∧Kt s.2 k=w.testBit (k % 64):=by
 have b:=H.len;have h:k / 64<s.2.length:=nJ
 have c:=H.word _ (oU h);refine⟨s.2[k / 64].toNat,h,nJ,nJ,?_⟩;unfold Kt;rw[nY h];rfl
theorem XH{s:Ae}(H:OkS s){i:Int}(h:i<0∨s.1≤i):mem s i=false:=by
 unfold mem;rcases h with h | h
 ·rw[mV nJ];rfl
 ·rw[H.top i.toNat nJ,Bool.and_false]
theorem Pa{s:Ae}(H:OkS s){i:Int}(h:mem s i=true):0≤i∧i<s.1:=by
 by_cases a:i<0∨s.1≤i
 ·rw[XH H a]at h;cases h
 ·omega
theorem Of(s:Ae)(k:Nat):mem s (k:Int)=Kt s.2 k:=by unfold mem;rw[mW nJ,oP,qP]
theorem Zb(k:Nat)(a:k<1000):bD .i64 (pG (k:Int) 64)=((k / 64:Nat):Int):=by rw[rP nJ,YA nJ nJ];omega
theorem Zc(k:Nat):bO (k:Int) 64=((k % 64:Nat):Int):=by rw[rJ nJ];omega
theorem ei(s:Ae)(i:Int):EH s i=some (decide (0≤i∧i<s.1)):=by
 unfold EH;by_cases h:0≤i
 ·rw[mW (show i≥0 from h),cond_true,oT];by_cases a:i<s.1
  ·rw[mW a,mW ⟨h,a⟩]
  ·rw[mV a,mV λg=>a g.2]
 ·rw[mV (show ¬i≥0 from h),cond_false,oT,mV λg=>h g.1]
theorem fj{s:Ae}(H:OkS s)(i:Int):Ey s i=some (mem s i):=by
 unfold Ey;rw[ei,oT];by_cases h:0≤i∧i<s.1
 ·obtain⟨k,rfl⟩:∃k:Nat,i=(k:Int):=⟨i.toNat,nJ⟩;have⟨w,a,b,c,d⟩:=H.at h.2
  have:=H.hi
  rw[mW h,cond_true,Zb k nJ,Zc,GV a,F6 nQ];simp only[oT];rw[F6 nQ,F6 nJ,b,oP,Za c (Nat.mod_lt _ nQ),Of,d];rfl
 ·rw[mV h,XH H nJ];rfl
theorem XI{a:nH}(b:k / 64<a.length)(v:Nat)(j:Nat):Kt (a.set (k / 64) (v:Int)) j=if j / 64=k / 64 then v.testBit (j % 64) else Kt a j:=by
 unfold Kt;rw[List.getElem?_set];by_cases h:j / 64=k / 64
 ·rw[mZ h.symm,mZ b,mZ h];rfl
 ·rw[nA λe=>h e.symm,nA h]
theorem Us{j:Nat}(h:j / 64=k / 64):(decide (k % 64=j % 64))=decide (j=k):=by
 by_cases e:j=k
 ·subst e;simp
 ·rw[mV e,mV nJ]
theorem OkS.set{s:Ae}(H:OkS s){v:Nat}(c:(k:Int) <s.1)(f:v<18446744073709551616)(d:∀j:Nat,s.1≤(j:Int)→j / 64=k / 64→v.testBit (j % 64)=false):OkS (s.1,s.2.set (k / 64) (v:Int)):=by
 have⟨w,h,_⟩:=H.at c;refine⟨H.lo,H.hi,?_,?_,?_⟩
 ·show(s.2.set _ _).length=_;rw[List.length_set];exact H.len
 ·intro x a;rcases List.mem_or_eq_of_mem_set a with a | a
  ·exact H.word x a
  ·subst a;omega
 ·intro j b;show Kt (s.2.set _ _) j=false;rw[XI h];by_cases e:j / 64=k / 64
  ·rw[mZ e];exact d j b e
  ·rw[nA e];exact H.top j b
theorem add_ok{s:Ae}(H:OkS s)(i:Int):∃s',Aw s i=some (decide (0≤i∧i<s.1) && !mem s i,s')∧OkS s'∧s'.1=s.1∧ ∀j,mem s' j=(mem s j || decide (j=i∧0≤i∧i<s.1)):=by
 unfold Aw;rw[ei,fj H];simp only[oT];by_cases h:0≤i∧i<s.1
 ·rw[mW h];simp only[Bool.not_true,cond_false,oT,qP];cases hm:mem s i with
  |true=>
   refine⟨s,rfl,H,rfl,λj=>?_⟩;by_cases b:j=i
   ·subst b;rw[hm];rfl
   ·rw[mV λg=>b g.1,pX]
  |false=>
   obtain⟨k,rfl⟩:∃k:Nat,i=(k:Int):=⟨i.toNat,nJ⟩;have⟨w,c,d,l,o⟩:=H.at h.2
   have:=H.hi
   have a:k % 64<64:=Nat.mod_lt _ nQ;have f:=eh l (Uq a);refine⟨(s.1,s.2.set (k / 64) ((w ||| 2 ^ (k % 64):Nat):Int)),?_,H.set h.2 f ?_,rfl,λj=>?_⟩
   ·rw[cond_false,Zb k nJ,Zc,GV c,F6 nQ];simp only[oT];rw[F6 nQ,F6 nJ,d,oP,ZZ a,ci l (Uq a),IW nJ nJ,oP];rfl
   ·intro j b e;have m:=H.top j b
    have:Kt s.2 j=w.testBit (j % 64):=by
     unfold Kt;rw[e,nY c,d];rfl
    rw[this]at m;rw[Nat.testBit_or,m,rD,Us e,mV nJ];rfl
   ·by_cases b:0≤j
    ·obtain⟨j,rfl⟩:∃q:Nat,j=(q:Int):=⟨j.toNat,nJ⟩;rw[Of,Of];show Kt (s.2.set _ _) j=_;rw[XI c];have n:decide (((j:Nat):Int)=(k:Int)∧(0:Int) ≤(k:Int)∧(k:Int) <s.1)=decide (j=k):=by
      by_cases e:j=k
      ·rw[mW e,mW ⟨nJ,h.1,h.2⟩]
      ·rw[mV e,mV nJ]
     rw[n];by_cases e:j / 64=k / 64
     ·rw[mZ e,Nat.testBit_or,rD,Us e];unfold Kt;rw[e,nY c,d];rfl
     ·rw[nA e,mV (by intro g;subst g;exact e rfl),pX]
    ·unfold mem;rw[mV b,mV nJ];rfl
 ·rw[mV h];refine⟨s,rfl,H,rfl,λj=>?_⟩;rw[mV λg=>h g.2,pX]
theorem Ut(n j:Nat):Kt (qJ n 0) j=false:=by
 unfold Kt;rw[List.getElem?_replicate]
 split<;>simp
def Mw(n:Int):Int:=if n<0 then 0 else if 1000<n then 1000 else n
theorem new_ok(n:Int):∃s,CN n=some s∧OkS s∧s.1=Mw n∧ ∀j,mem s j=false:=by
 have b:(if(if(1000:Int) <n then(1000:Int) else n) >(0:Int) then(if(1000:Int) <n then(1000:Int) else n) else(0:Int))=Mw n:=by
  unfold Mw
  split<;>split<;>(try split) <;>omega
 have a:0≤Mw n∧Mw n≤1000:=by
  unfold Mw;split
  ·omega
  ·split<;>omega
 unfold CN;rw[b];obtain⟨k,c⟩:∃k:Nat,Mw n=(k:Int):=⟨(Mw n).toNat,nJ⟩;rw[c]at a ⊢;have d:bD .i64 ((k:Int)+64)=((k+64:Nat):Int):=by rw[YA nJ nJ];omega
 have e:bD .i64 (((k+64:Nat):Int) - 1)=((k+63:Nat):Int):=by rw[YA nJ nJ];omega
 have f:bD .i64 (pG ((k+63:Nat):Int) 64)=(((k+63) / 64:Nat):Int):=by
  rw[rP nJ,YA nJ nJ];omega
 rw[d,e,f,F6 nQ];have g:EC (((k+63) / 64:Nat):Int) (0:Int)=some (qJ ((k+63) / 64) 0):=by
  unfold EC;rw[mZ ⟨nJ,nJ⟩,oP]
 rw[g];refine⟨_,rfl,⟨a.1,a.2,?_,?_,?_⟩,rfl,?_⟩
 ·simp
 ·intro x h
  have:=List.eq_of_mem_replicate h
  subst this;decide
 ·intro i _;exact Ut _ _
 ·intro j;unfold mem;rw[Ut,Bool.and_false]
theorem of_ok(n:Int)(l:nH)(q:l.length≤9223372036854775807):∃s,DY n l=some s∧OkS s∧s.1=Mw n∧ ∀j,mem s j=(decide (0≤j∧j<Mw n) && l.contains j):=by
 have⟨r,t,u,v,w⟩:=new_ok n;unfold DY;rw[t];simp only[oT];have⟨s,d,e,x,m⟩:=CM (σ:=Ae) (n:=l.length) (λk s=>OkS s∧s.1=Mw n∧ ∀j,mem s j=(decide (0≤j∧j<Mw n) && (l.take k).contains j)) q (s:=r) (f:=λc y=>
  (idx l c).bind λh=>
  (Aw y h).bind λt8=>
  some t8.2) ⟨u,v,λj=>by rw[w];simp⟩ (λk s o ⟨z,p,A⟩=>by
   obtain⟨s',B,C,D,E⟩:=add_ok z l[k];refine⟨s',?_,C,D.trans p,λj=>?_⟩
   ·rw[GV o,oT,B];rfl
   ·rw[E,A,p,tY,nY o];simp only[Option.toList_some,List.contains_append,List.contains_cons,List.contains_nil,pX];by_cases i:j=l[k]
    ·rw[←i];simp;intro a b _;exact⟨a,b⟩
    ·have d:(j==l[k])=false:=by simpa using i
     have e:decide (j=l[k] ∧0≤l[k] ∧l[k] <Mw n)=false:=mV λg=>i g.1;rw[d,e,pX,pX])
 rw[List.take_length]at m;refine⟨s,?_,e,x,m⟩;rw[d];rfl
end
theorem Zd:∀w:Nat,w≠0→ ∃k m,w=2 ^ k *(2 *m+1):=by
 intro w
 induction w using Nat.strongRecOn with
 |ind w a=>
  intro b;by_cases h:w % 2=1
  ·exact⟨0,w / 2,by rw[Nat.pow_zero,Nat.one_mul];omega⟩
  ·obtain⟨k,m,e⟩:=a (w / 2) nJ nJ;refine⟨k+1,m,?_⟩;rw[tZ,Nat.mul_comm (2 ^ k) 2,Nat.mul_assoc,←e];omega
def Gu(w:Nat):List Nat:=(qO 64).filter w.testBit
theorem RC:Gu 0= []:=by unfold Gu;rw[qL];intro a _;simp
theorem Pb{w j:Nat}:j∈Gu w↔j<64∧w.testBit j=true:=by unfold Gu;rw[List.mem_filter,rO]
theorem XJ{w:Nat}(q:w≠0)(i:w<18446744073709551616):∃k,k<64∧w.testBit k=true∧(∀j,j<k→w.testBit j=false)∧(∀j,(w &&& (w - 1)).testBit j=(w.testBit j && !decide (j=k)))∧w &&& (18446744073709551616 - w)=2 ^ k:=by
 have⟨k,m,e⟩:=Zd w q;have b:∀j,w.testBit j=(decide (k≤j) && (2 *m+1).testBit (j - k)):=λj=>by rw[e,Nat.testBit_two_pow_mul]
 have n:w.testBit k=true:=by
  rw[b,Nat.sub_self,mW (pT k),qP,Nat.testBit_zero];simp
 have l:k<64:=by
  rcases pM k 64 with h | h
  ·exact h
  ·rw[Ur i h]at n;cases n
 have c:∀j,j<k→w.testBit j=false:=λj o=>by rw[b,mV nJ,Bool.false_and]
 have p:0<2 ^ k:=Nat.two_pow_pos k;have g:w - 1=2 ^ (k+1) *m+(2 ^ k - 1):=by
  rw[e,Nat.mul_add,Nat.mul_one,tZ,←Nat.mul_assoc];omega
 have d:∀j,(w - 1).testBit j=if j<k then true else if j=k then false else w.testBit j:=λj=>by
  rw[g,Nat.testBit_two_pow_mul_add _ (by rw[tZ];omega),Nat.testBit_two_pow_sub_one];by_cases a:j<k
  ·rw[mZ nJ,mZ a,mW a]
  ·by_cases f:j=k
   ·rw[mZ nJ,nA a,mZ f,mV a]
   ·rw[nA nJ,nA a,nA f,b,mW nJ,qP,show j - k=(j - (k+1))+1 by omega,Nat.testBit_succ];rw[show(2 *m+1) / 2=m by omega]
 refine⟨k,l,n,c,λj=>?_,?_⟩
 ·rw[Nat.testBit_and,d];by_cases a:j<k
  ·rw[mZ a,c j a];rfl
  ·rw[nA a];by_cases f:j=k
   ·subst f;simp
   ·rw[nA f,mV f,Bool.and_self,Bool.not_false,Bool.and_true]
 ·apply Nat.eq_of_testBit_eq;intro j;rw[Nat.testBit_and,rD];have r:18446744073709551616 - w=2 ^ 64 - ((w - 1)+1):=nJ
  rw[r,Nat.testBit_two_pow_sub_succ nJ,d];by_cases o:j<64
  ·rw[mW o,qP];by_cases a:j<k
   ·rw[mZ a,c j a,mV nJ];rfl
   ·rw[nA a];by_cases f:j=k
    ·rw[mZ f,f,n];simp
    ·rw[nA f,mV (λh=>f h.symm)];cases w.testBit j<;>rfl
  ·rw[Ur i nJ,Bool.false_and];exact(mV nJ).symm
theorem N2{w k:Nat}(m:k<64)(c:w.testBit k=true)(d:∀j,j<k→w.testBit j=false){v:Nat}(b:∀j,v.testBit j=(w.testBit j && !decide (j=k))):Gu w=k::Gu v:=by
 unfold Gu;have e:qO 64=qO k++k::qU (k+1) (63 - k):=by
  rw[sJ,sJ];have h:qU 0 64=qU 0 k++qU (0+1 *k) (64 - k):=by
   rw[List.range'_append,show k+(64 - k)=64 by omega]
  rw[h,show 64 - k=(63 - k)+1 by omega,List.range'_succ];simp
 have f:(qO k).filter w.testBit= []:=by
  rw[qL];intro j a;rw[d j (rO.1 a)];exact tB
 have g:(qO k).filter v.testBit= []:=by
  rw[qL];intro j a;rw[b,d j (rO.1 a)];exact tB
 have i:(qU (k+1) (63 - k)).filter w.testBit=(qU (k+1) (63 - k)).filter v.testBit:=by
  refine List.filter_congr λj a=>?_;rw[List.mem_range'_1]at a;rw[b,mV nJ,Bool.not_false,Bool.and_true]
 have l:v.testBit k=false:=by rw[b,c];simp
 rw[e,tC,tC,f,g,qC,qC,uE,uE,c,l,i];rfl
def Glob(φ:AD):Prop:= ∃t f,φ 0=some (.cells (Lib.deBruijn64tab.map λ(z:Nat)=>pL .u8 (z:Int)).toArray t f)
theorem Glob.mono{φ ψ:AD}(H:Glob φ)(a:Sub φ ψ):Glob ψ:=by obtain⟨t,f,h⟩:=H;exact⟨t,f,a _ _ h⟩
def tzN(w:Nat):Nat:=(Gu w).headD 64
def tzD(x:Int):Option Int:=if 0≤x∧x<18446744073709551616 then some (tzN x.toNat:Nat) else none
theorem Ze{w:Nat}(a:w≠0)(h:w<18446744073709551616):bD .u64 (0 - (w:Int))=((18446744073709551616 - w:Nat):Int):=by
 unfold bD;simp only[oE,rM]
 have:(0 - (w:Int)) % 18446744073709551616=((18446744073709551616 - w:Nat):Int):=nJ
 simp;omega
theorem Zf(n:Nat):bD .u64 (n:Int)=((n % 18446744073709551616:Nat):Int):=by unfold bD;simp only[oE,rM];simp
theorem Zg{w k:Nat}(a:w≠0)(h:w<18446744073709551616)(b:w &&& (18446744073709551616 - w)=2 ^ k):
 rG (bD .u64 ((bD .u64 (pF (oM (oE .u64) (w:Int) &&& (oM (oE .u64) (bD .u64 (0 - (w:Int))))):Nat)) *(285870213051353865:Int))) (2 ^ (min (eE (58:Int)) (oE .u64)))=((2 ^ k *285870213051353865 % 18446744073709551616 / 288230376151711744:Nat):Int):=by
 rw[Ze a h,RB h nJ,b];have c:((2 ^ k:Nat):Int) *(285870213051353865:Int)=((2 ^ k *285870213051353865:Nat):Int):=by
  rw[Int.natCast_mul]
  have:((285870213051353865:Nat):Int)=285870213051353865:=rfl
  rw[this]
 rw[c,Zf];have d:(2:Int) ^ (min (eE (58:Int)) (oE .u64))=((288230376151711744:Nat):Int):=nQ
 rw[d,rN _ nJ]
 generalize 2 ^ k *285870213051353865 % 18446744073709551616=q
 omega
theorem Zh{l:List Nat}{i k:Nat}(h:i<l.length)(a:l.getD i 0=k):l[i]? =some k:=by rw[List.getD_eq_getElem?_getD,nY h]at a;rw[nY h];exact nB some a
theorem WA:Lib.deBruijn64tab.length=64:=nQ
theorem Zi{l:List Nat}{φ:AD}{t:uM}{f:Nat×Nat}(a:φ 0=some (.cells (l.map λ(z:Nat)=>pL .u8 (z:Int)).toArray t f)){i k:Nat}(h:l[i]? =some k):Ef φ (tE ⟨0,0,none⟩ (eE (i:Int) *1))=some (.int .u8 (k:Int)):=by rw[EN,oP,Nat.mul_one,Nat.zero_add];unfold Ef;rw[a];simp[h]
theorem fk{φ:AD}{h:AH}{F:List Chk}{x:Int}(j:Glob φ)(c:St φ F h){r:Int}(hd:tzD x=some r):nX hC 166 [.int .u64 x] h
 (An (mN φ r F)):=by
 unfold tzD at hd;split at hd
 ·rename_i u
  cases hd;obtain⟨w,rfl⟩:∃w:Nat,x=(w:Int):=⟨x.toNat,nJ⟩;rw[oP];refine A9 mixed func166 ?_;rw[Gm];unfold ER;refine fS (λd=>?_) (λd=>?_)
  ·have b:w=0:=by
    have:(w:Int)=0:=by simpa using d
    omega
   subst b;unfold tzN;rw[RC];exact AC ⟨φ,64,qT _,rfl,rfl,c⟩
  ·have b:w≠0:=by
    intro e;subst e;cases d
   obtain⟨k,g,l,m,n,o⟩:=XJ b nJ;have p:tzN w=k:=by
    unfold tzN;rw[N2 g l m n];rfl
   have⟨d1,d2⟩:=Lib.deBruijn64_at k g;rw[Zg b nJ o,p]
   generalize 2 ^ k *285870213051353865 % 18446744073709551616 / 288230376151711744=i at d1 d2
   refine Ai nQ (Ai ⟨nJ,nJ⟩ ?_);obtain⟨t,f,q⟩:=j;have s:i<Lib.deBruijn64tab.length:=by rw[WA];exact d1
   have a:=Zi q (Zh s d2);refine AF (AG c.sub a) rfl ?_;rw[YA nJ nJ];exact AC ⟨φ,(k:Int),qT _,rfl,rfl,c⟩
 ·cases hd
end Go.Proofs.YtfnppeejaimnbaaGreatDoor.Dg
namespace Go.Eng
open Go Go.RowKit
def HC(P:uN)(h:AH):Nat→uM→List uL→Prop
 | 0,_,_=>False
 |n+1,t,cs=>match P.underlying t with
  |some .bool=>∃b,cs= [.bool b]
  |some (.int k)=>∃x,cs= [.int k x] ∧(Lit.int k x).wf=true
  |some .string=>∃s,cs= [.string s] ∧s.size≤maxLen
  |some (.slice e)=>∃p len cap,cs= [.slice p len cap] ∧len≤cap∧cap≤maxLen∧(p=none→len=0∧cap=0)∧
   ∀i,i<len→ ∃c,c.length=P.cellsOf e∧(∀j v,c[j]? =some v→ ∃a,p=some a∧Bb h (a.add (i *P.cellsOf e+j))=some v)∧HC P h n e c
  |some (.struct fs)=>cs.length=P.cellsOf t∧ ∀f∈fs.toList,HC P h n f.type ((cs.drop f.offset).take (P.cellsOf f.type))
  |_=>True
theorem SK{α β:Type}{f:α→Option β}:∀ {l:List α}{r:List β},l.mapM f=some r→ ∀a∈l,∃b,f a=some b:=by
 intro l
 induction l with
 |nil=>intro r _ a c;cases c
 |cons x l d=>
  intro r h a c;rw[List.mapM_cons]at h;cases hx:f x with
  |none=>simp[hx]at h
  |some b=>
   cases hl:l.mapM f with
   |none=>simp[hx,hl]at h
   |some e=>
    rcases rX.1 c with rfl | c
    ·exact⟨b,hx⟩
    ·exact d hl a c
theorem SL{H:Type}{p:uM×uL→H}{P:uN}{w:uO}{d:Nat}{c:Nat→Bool}{held:Bool}:∀(fuel:Nat) (t:uM) (cs:List uL) (x:DataW H×List MemPlace),
 DataW.trod p P w d c held fuel t cs=some x→HC P w.heap fuel t cs:=by
 intro fuel
 induction fuel with
 |zero=>intro t cs x h;simp[DataW.trod]at h
 |succ n s=>
  intro t cs x h;have z:=h;rw[DataW.trod_step]at h;unfold DataW.trodStep at h;unfold HC
  split<;>rename_i hd<;>try trivial
  ·rw[hd]at h;split at h<;>first | cases h | skip
   all_goals rename_i k;first | cases k | skip
   all_goals first | exact⟨_,rfl⟩|skip
  ·rw[hd]at h;split at h<;>first | cases h | skip
   all_goals rename_i k;first | cases k | skip
   split at h
   ·rename_i A;obtain⟨rfl,B⟩:=A;exact⟨_,rfl,B⟩
   ·cases h
  ·rw[hd]at h;split at h<;>first | cases h | skip
   all_goals rename_i k;first | cases k | skip
   split at h
   ·rename_i C;exact⟨_,rfl,C⟩
   ·cases h
  ·rename_i e
   rcases DataW.trod_slice hd z with⟨rfl,_⟩|⟨a,len,cap,elems,rest,m,hm,rfl,_,_,hl,hc,b,hel,_⟩
   ·exact⟨none,0,0,rfl,pT _,Nat.zero_le _,λ_=>⟨rfl,rfl⟩,λi u=>nJ⟩
   ·cases hm;refine⟨some a,len,cap,rfl,hl,hc,(λh=>by cases h),λi u=>?_⟩;have o:=hel i u;rw[nY nJ,Option.bind_eq_some_iff]at o;obtain⟨l,D,E⟩:=o;obtain⟨_,F,G⟩:=World.cells?_some D;refine⟨l,F,λj v q=>⟨a,rfl,?_⟩,s _ _ _ E⟩;have r:j<P.cellsOf e:=by
     rcases pM j l.length with g | g
     ·omega
     ·rw[pJ g]at q;cases q
    have:=G j r
    rw[q,Aj]at this;exact this
  ·rename_i K
   rw[hd]at h;dsimp only at h;by_cases b:cs.length=P.cellsOf t
   ·rw[mZ b,Option.map_eq_some_iff]at h;obtain⟨L,o,_⟩:=h;refine⟨b,λf I=>?_⟩;have⟨y,J⟩:=SK o f I;exact s _ _ _ J
   ·rw[nA b]at h;cases h
theorem reads_of_Trod{H:Type}{c:uM×uL→H}{P:uN}{w:uO}{b:Nat}{a:Nat→Bool}{held:Bool}{t:uM}{v:uL}{d:DataW H}{ps:List MemPlace}
 (h:DataW.Trod c P w b a held t v d ps):∃n,HC P w.heap n t v.cells.toList:=by obtain⟨fuel,e⟩:=h;exact⟨fuel,SL fuel t _ _ e⟩
def Zj(h:AH)(v:uL)(a:AH):Prop:=v= .bool true∧Kf [] h a
theorem law_walk{P:uN}{f:FuncId}{args:Array uL}{w:uO}(H:nX P f args.toList w.heap (An (Zj w.heap))):
 Calls P f args w λe h=>e= .returned (.bool true)∧Below w.heap.size w h:=by
 have:=H w rfl
 rw[Array.toArray_toList]at this;refine this.mono λe h a=>?_;obtain⟨b,a⟩:=a;cases e with
 |returned v=>
  obtain⟨j,d,rfl,i⟩:=a;cases d;exact⟨rfl,b.os,b.tape,b.output,i.1,λk g=>i.2 k g nP⟩
 |panicked c=>obtain⟨j,d,_⟩:=a;cases d
 |outgrown=>exact a.elim
section
variable {P:uN}{h:AH}
theorem Pc{n:Nat}{t:uM}{k:IntKind}{cs:List uL}(a:P.underlying t=some (.int k))(H:HC P h n t cs):∃x,cs= [.int k x] ∧(Lit.int k x).wf=true:=by
 cases n with
 |zero=>exact H.elim
 |succ n=>unfold HC at H;rw[a]at H;exact H
theorem Uu{n:Nat}{t e:uM}{cs:List uL}(c:P.underlying t=some (.slice e))(H:HC P h n t cs):
 ∃m p len cap,cs= [.slice p len cap] ∧len≤cap∧cap≤maxLen∧(p=none→len=0∧cap=0)∧
  ∀i,i<len→ ∃b,b.length=P.cellsOf e∧(∀j v,b[j]? =some v→ ∃a,p=some a∧Bb h (a.add (i *P.cellsOf e+j))=some v)∧HC P h m e b:=by
 cases n with
 |zero=>exact H.elim
 |succ n=>
  unfold HC at H;rw[c]at H;obtain⟨p,len,cap,d,f⟩:=H;exact⟨n,p,len,cap,d,f⟩
theorem Uv{α:Type}{p:Nat→α→Prop}:∀(n:Nat),(∀i,i<n→ ∃x,p i x)→ ∃l:List α,l.length=n∧ ∀i x,l[i]? =some x→p i x:=by
 intro n
 induction n with
 |zero=>intro _;exact⟨[],rfl,λi x b=>by simp at b⟩
 |succ n d=>
  intro H;obtain⟨l,c,e⟩:=d λi f=>H i nJ;obtain⟨x,b⟩:=H n nJ;refine⟨l++ [x],by simp[c],λi y a=>?_⟩;rcases Nat.lt_trichotomy i l.length with g | g | g
  ·rw[pK g]at a;exact e i y a
  ·subst g;simp at a;subst a;rw[c];exact b
  ·rw[pJ nN]at a;cases a
end
end Go.Eng
namespace Go.Eng
open Go
def ReadsTo{α:Type}(P:uN)(h:AH)(t:uM)(r:Ro α)(G:α→Prop):Prop:= ∀n cs,HC P h n t cs→ ∃x,r.is (Bo h) cs x∧G x
theorem QH{P:uN}{h:AH}{t:uM}{k:IntKind}(a:P.underlying t=some (.int k)):ReadsTo P h t (oG k) λx=>(Lit.int k x).wf=true:=λn cs H=>by
 obtain⟨x,rfl,b⟩:=Pc a H;exact⟨x,rfl,b⟩
theorem Is{α:Type}{P:uN}{h:AH}{t e:uM}{r:Ro α}{G:α→Prop}(D:P.underlying t=some (.slice e))(E:P.cellsOf e=r.sz)(F:ReadsTo P h e r G):
 ReadsTo P h t (tD r) λl=>l.length≤maxLen∧ ∀x∈l,G x:=λn cs H=>by
 obtain⟨m,p,len,cap,rfl,I,J,K,L⟩:=Uu D H;obtain⟨l,M,A⟩:=Uv (p:=λi (x:List uL×α)=>r.is (Bo h) x.1 x.2∧G x.2∧ ∀j v,x.1[j]? =some v→ ∃a,p=some a∧Bb h (a.add (i *r.sz+j))=some v) len (λi q=>by
  obtain⟨d,V,N,O⟩:=L i q;have⟨x,s,Q⟩:=F m d O;exact⟨(d,x),s,Q,λj v b=>by have:=N j v b;rw[E]at this;exact this⟩)
 have u:∀k,k≤len→ ∃vs,r.All (Bo h) vs ((l.take k).map (·.2))∧vs.length=k *r.sz∧Cv (Bo h) p vs:=λk=>by
  induction k with
  |zero=>intro _;exact⟨[],.nil,nP,λi v b=>by simp at b⟩
  |succ k R=>
   intro W;obtain⟨vs,o,B,w⟩:=R nJ;have f:k<l.length:=nJ
   have⟨C,X,S⟩:=A k l[k] (nY f);refine⟨vs++l[k].1,?_,by rw[pE,B,r.len C,Nat.add_mul,Nat.one_mul],λi v b=>?_⟩
   ·rw[tY,nY f,rC];exact o.append (.one C)
   ·rcases pM i vs.length with g | g
    ·rw[pK g]at b;exact w i v b
    ·rw[pS g]at b;have⟨a,T,c⟩:=S _ v b;refine⟨a,T,?_⟩;rw[Nd,show i=k *r.sz+(i - vs.length) by omega];exact c
 have⟨vs,o,B,w⟩:=u len (pT _);rw[List.take_of_length_le nJ]at o;refine⟨l.map (·.2),⟨(p,len,cap),rfl,by simp[M],I,J,λz=>?_,vs,o,w⟩,nN,λx s=>?_⟩
 ·have:=(K z).1
  have:l= []:=qS nJ
  rw[this];rfl
 ·obtain⟨y,U,rfl⟩:=List.mem_map.1 s;obtain⟨i,q⟩:=qQ U;exact(A i y q).2.1
theorem St.start(h:AH):St (Bo h) [] h:=qT _
theorem Zk{P:uN}{f:FuncId}{args:List uL}{h:AH}
 (H:nX P f args h (An λv a=>∃ψ:AD,∃y:Bool,Sub (Bo h) ψ∧v=((.one (.atom .bool)):Sh).val y∧y=true∧St ψ [] a)):nX P f args h (An (Zj h)):=by
 refine H.mono λe a k=>?_;obtain⟨v,l,ψ,y,m,c,n,o⟩:=k;subst n;refine⟨v,l,c,?_⟩;have b:=m.trans o.sub;refine⟨?_,λi j _=>?_⟩
 ·rcases pM a.size h.size with g | g
  ·have d:Bo h a.size=some h[a.size]:=oR g
   have:=BH (b _ _ d)
   omega
  ·exact g
 ·have d:Bo h i=some h[i]:=oR j;have p:a[i]? =some h[i]:=b _ _ d;rw[p,oR j]
end Go.Eng
namespace Go.Proofs.YtfnppeejaimnbaaGreatDoor.Dg
open Go Go.Eng Go.RowKit Go.Shelf
section
variable {L:List Nat}{A B:uO}
attribute [local go_sem] Oper.semAt_some
def KpL(L:List Nat)(W a:uO):Prop:= ∀b∈L,∀o,W.heap[b]? =some o→a.heap[b]? =some o
theorem KpL.refl(L:List Nat)(W:uO):KpL L W W:=λ_ _ _ h=>h
theorem KpL.trans{C:uO}(h:KpL L A B)(k:KpL L B C):KpL L A C:=λb a o c=>k b a o (h b a o c)
theorem KpL.cell{b off:Nat}(h:KpL L A B)(c:b∈L){v:uL}(a:A.cell? ⟨b,off,none⟩=some v):B.cell? ⟨b,off,none⟩=some v:=by
 unfold World.cell? at a ⊢;dsimp only at a ⊢;cases ho:A.heap[b]? with
 |none=>rw[ho]at a;cases a
 |some o=>rw[h b c o ho];rw[ho]at a;exact a
theorem KpL.glob(h:KpL L A B)(a:0∈L)(b:Glob (Bo A.heap)):Glob (Bo B.heap):=by obtain⟨t,f,c⟩:=b;exact⟨t,f,h 0 a _ c⟩
theorem KpL.grown(h:A.grownBy B none):KpL L A B:=λb _ o a=>by
 have c:b<A.heap.size:=by
  rcases pM b A.heap.size with g | g
  ·exact g
  ·rw[Array.getElem?_eq_none g]at a;cases a
 obtain⟨_,_,_,_,d⟩:=h;rw[d b c nP];exact a
def EU(a:List Nat)(k:Nat):nH:=((qO k).map λ(i:Nat)=>(Gu (a[i]?.getD 0)).map λ(j:Nat)=>((i:Int) *64+(j:Int))).flatten
theorem RD(a:List Nat):EU a 0= []:=rfl
theorem Hq(a:List Nat)(k:Nat):EU a (k+1)=EU a k++(Gu (a[k]?.getD 0)).map λ(j:Nat)=>((k:Int) *64+(j:Int)):=by unfold EU;rw[List.range_succ,rC,List.flatten_append];simp
theorem iM(m:Nat){W:uO}{u:Nat}(o:Glob (Bo W.heap))(w:u<18446744073709551616):CallsIn Fence.wide m hC 166 #[.int .u64 (u:Int)] W λe a=>e= .returned (.int .i64 ((tzN u:Nat):Int))∧W.grownBy a none:=by
 refine callsIn_wide.2 ?_;have h:=fk (x:=(u:Int)) o (St.start W.heap) (r:=((tzN u:Nat):Int)) (by unfold tzD;rw[mZ nJ,oP]) W rfl;refine h.mono λe a ⟨b,d⟩=>?_;cases e with
 |returned v=>
  obtain⟨p,f,ψ,y,j,q,s,l⟩:=d;cases f;refine⟨by rw[q,s];rfl,b.os,b.tape,b.output,?_,?_⟩
  ·rcases pM a.heap.size W.heap.size with g | g
   ·have i:Bo W.heap a.heap.size=some W.heap[a.heap.size]:=oR g
    have:=BH ((j.trans l.sub) _ _ i)
    omega
   ·exact g
  ·intro k n _;have i:Bo W.heap k=some W.heap[k]:=oR n;have t:a.heap[k]? =some W.heap[k]:=(j.trans l.sub) _ _ i;rw[t,oR n]
 |panicked c=>obtain⟨p,f,_⟩:=d;cases f
 |outgrown=>exact d.elim
theorem Zl{a b:Nat}(c:a<18446744073709551616)(d:b<18446744073709551616):bits BinOp.and IntKind.u64 (a:Int) (b:Int)=((a &&& b:Nat):Int):=RB c d
theorem Zm(a:List Nat){k m:Nat}(h:k≤m):∃r,EU a m=EU a k++r:=by
 induction h with
 |refl=>exact⟨[],nP⟩
 |step _ b=>
  obtain⟨r,e⟩:=b;exact⟨r++_,by rw[Nat.succ_eq_add_one,Hq,e,pR]⟩
set_option maxRecDepth 100000 in
theorem Zn(n:Nat)(hn:3≤n)(l A s off cap:Nat)(a:List Nat)(H:∀w∈a,w<18446744073709551616)(T:a.length≤1000)(J U:nH→uO→Prop)(W:uO)(gk:Glob (Bo W.heap))(hJ:AbidesFrom W.heap.size J)
 (hY:∀c x t,J c t→c.length< (EU a a.length).length→YieldAt Fence.wide (n - 1) hC l #[.int .i64 x] t λe y=>
  (e= .returned (.bool true)∧J (c++ [x]) y∧KpL [A,s,0] t y)∨(e= .returned (.bool false)∧U (c++ [x]) y))
 (a0:W.cell? ⟨A,0,none⟩=some (.slice (some ⟨s,off,none⟩) a.length cap)) (hc:∀j,j<a.length→W.cell? ⟨s,off+j,none⟩=some (.int .u64 ((a[j]?.getD 0:Nat):Int))) (h0:J [] W):
 CallsIn Fence.wide n hC 165 #[.func (.yield l) #[] #[],.pointer (lF A)] W λe y=>(∃v,e= .returned v)∧
  ((∃V,V=EU a a.length∧J V y)∨(∃c,c<+:EU a a.length∧U c y)):=by
 refine callsIn_of_wp func165 rfl trivial ?_ rfl;simp only[ntmps165,rT,pP,pY,Nat.reduceAdd,Nat.reduceSub,qV,qX,rU,rE,qC,rZ]
 gi_wp2
 gi_loopw [7] (λi wr=>∃k:Nat,k≤a.length∧i= .int .i64 k∧J (EU a k) wr∧KpL [A,s,0] W wr)
  (λi _=>a.length - (intOf i).toNat)
 case atStart=>exact⟨0,Nat.zero_le _,rfl,h0,KpL.refl _ _⟩
 case round=>
  obtain⟨k,hk,rfl,B,f⟩:=hrel;by_cases g:k<a.length
  ·have I:wr.cell? ⟨s,off+k,none⟩=some (.int .u64 ((a[k]?.getD 0:Nat):Int)):=f.cell nP (hc k g);obtain⟨x0,C⟩:∃x0,a[k]?.getD 0=x0:=⟨_,rfl⟩;have K:x0<18446744073709551616:=by
    rw[←C,nY g];exact H _ (oU g)
   have b:=Hq a k;rw[C]at I b;obtain⟨rest,d⟩:=Zm a (k:=k+1) (m:=a.length) nJ
   gi_wp2
   gi_loopw [4] (λx D=>∃(u:Nat) (p:List Nat),x= .int .u64 (u:Int)∧u<18446744073709551616∧Gu x0=p++Gu u∧J (EU a k++p.map λ(j:Nat)=>((k:Int) *64+(j:Int))) D∧KpL [A,s,0] wr D)
    (λx _=>(intOf x).toNat)
   case atStart=>exact⟨_,[],rfl,K,rfl,by simpa using B,KpL.refl _ _⟩
   case round=>
    obtain⟨u,p,rfl,L,G,E,h⟩:=hrel;by_cases F:u=0
    ·subst F
     gi_wp2
     exact⟨⟨k+1,nJ,rfl,by rw[b,G,RC,List.append_nil];exact E,f.trans h⟩,by simp only[intOf];omega⟩
    ·have⟨z,X,Y,Z,z4,z5⟩:=XJ F L;have hz:tzN u=z:=by
      unfold tzN;rw[N2 X Y Z z4];rfl
     have o:=N2 X Y Z z4;have M:=(f.trans h).glob nP gk
     gi_wp2
     refine⟨trivial,λ_=>nJ,(iM _ M L).mono ?_⟩;rintro e t ⟨rfl,hg⟩;have N:=hJ _ _ t none E hg (λr e=>by cases e);rw[hz];have q:(EU a k++p.map λ(j:Nat)=>((k:Int) *64+(j:Int))).length< (EU a a.length).length:=by
      rw[d,b,G,o];simp only[pE,List.length_map,pP];omega
     have⟨fn,tmps,assign,body,hy,hR⟩:=hY _ ((k:Int) *64+(z:Int)) t N q
     gi_wp2
     refine⟨λ_=>nJ,hR.mono ?_⟩;rintro e W3 (⟨rfl,O,P⟩|⟨rfl,Q⟩)
     ·gi_wp2
      have R:(u:Int) - 1=((u - 1:Nat):Int):=nJ
      have a1:u &&& (u - 1) ≤u - 1:=Nat.and_le_right;have S:J (EU a k++(p++ [z]).map λ(j:Nat)=>((k:Int) *64+(j:Int))) W3:=by
       rw[rC,←pR];exact O
      rw[R,Zl L nJ];exact⟨⟨_,p++ [z],rfl,nJ,by rw[G,o,pR];rfl,S,(h.trans (KpL.grown hg)).trans P⟩,by simp only[intOf];omega⟩
     ·gi_wp2
      refine bodyPost_ret (results_none rfl _ _ _) rfl ?_;refine⟨⟨_,rfl⟩,.inr ⟨_,?_,Q⟩⟩;rw[d,b,G,o,rC,List.map_cons];exact⟨((Gu (u &&& (u - 1))).map λ(j:Nat)=>((k:Int) *64+(j:Int))) ++rest,nP⟩
  ·obtain rfl:k=a.length:=nJ
   gi_wp2
   go_end0
   exact⟨⟨_,rfl⟩,.inl ⟨_,rfl,B⟩⟩
end
attribute [local go_sem] Oper.semAt_some
theorem KpL.of_below{L:List Nat}{n₀:Nat}(a:∀b∈L,b<n₀){A B:uO}(h:Below n₀ A B):KpL L A B:=λb c o d=>(h.block b (a b c)).trans d
theorem KpL.putObj{L:List Nat}{n₀:Nat}(a:∀b∈L,b<n₀)(W:uO)(l:Nat)(o c:Obj)(f:n₀≤l)(h:W.heap[l]? =some o)(g:o.isCells=false)(i:o.isWalk=false):KpL L W (W.putObj l c):=λb d q e=>by
 have:=a b d
 rw[World.putObj_heap_other nJ];exact e
theorem ck:(prog.info? 3).map (λi=>(i.zero,i.size,i.bytes))=some (some (.int .i64 0),1,8):=nU
abbrev cn(x:Int):Array uL:=#[.int .i64 x]
set_option maxRecDepth 100000 in
theorem To(n:Nat)(Y:3≤n)(g:Nat)(lb:Array uL)(M:∀args w,(callFunc g args).run hC w= .ok (.enter g args) w)(L:List Nat)(m:nH)(N:nH→Prop)(F:m.length≤1000000)(w:uO)(G:∀b∈L,b<w.heap.size)
 (o:SeqStopsK Fence.wide (n - 1) hC g lb cn (KpL L) (λH=>H=m) N m.length w):
 CallsIn Fence.wide n hC 167 #[.slice none 0 0,.func (.func g) #[] lb] w λe I=>∃v,e= .returned v∧I.ownsRow w.heap.size 3 1 v m.length (m.map (pL .i64))∧(v= .slice none 0 0↔m= [])∧Below w.heap.size w I:=by
 have O:1≤n:=nJ
 have⟨i0,P,y,z,A⟩:=info_parts ck;refine callsIn_of_wp_marks func167 rfl trivial ?_ rfl;simp only[ntmps167,rT,pP,pY,Nat.reduceAdd,Nat.reduceSub,qV,qX,rU,rE,qC,rZ]
 gi_wp2
 have Q:=Boxed.new w 30 (.slice none 0 0);have p:Below w.heap.size w (w.alloc (.cells #[.slice none 0 0] 30)):=(Below.refl _ w).alloc (pT _) _;refine wpIn_rangeFunc_ownG rfl O (gf:=g) (lb:=lb) rfl trivial M o (λh k=>h.trans k) (KpL.putObj (λb R=>by have:=G b R;simp;omega)) p (λ_=>rfl)
  (λa W=>(∃v,Boxed W w.heap.size 30 v∧W.ownsRow w.heap.size 3 1 v a.length (a.map (pL .i64))∧(v= .slice none 0 0↔a= []))∧Below w.heap.size w W)
  (λ_ _ _=>False)
  (OwnFrom.and (Own.from (holdsRow_own w.heap.size w.heap.size 30 3 1 (λa=>a.length) (λa=>a.map (pL .i64)) (λa v=>v= .slice none 0 0↔a= [])) _) (ownFrom_below (pT _) nP))
  (λ_ _ _ _ _ S _ _=>S)
  ⟨⟨_,Q,World.ownsRow_nil _ _ _ _,nP⟩,p⟩
  (λx=>{tmps:=#[.slice none 0 0,.func (.func g) #[] lb,.pointer (some ⟨w.heap.size,0,none⟩),undef,.slice none 0 0,.int .i64 x,.func (.func g) #[] lb,.int .i64 x,undef,undef,undef,undef,undef],defers:=[]}) ?assign ?body ?done ?stop
 case assign=>
  intro l x W K q
  gi_wp2
  exact q
 case body=>
  rintro l a x W ⟨⟨v,u,d,i⟩,r⟩ hlt;have T:=u.cell
  gi_wp2_with (gi_at_builtin;refine wpListIn_append_own _ rfl _ _ 30 rfl w.heap.size 3 i0 (.int .i64 0) 1 8 pC P y z A rfl nQ _ _ _ rfl (d.alloc _) ⟨W.heap.size,0,none⟩ 1 1 [.int .i64 x] rfl rfl (cell_one_new _ _ _) (by simp[Value.oneCell']) (by unfold maxLen;omega) nJ (by have:=r.size;simp;omega) ?_;intro Z w1 f j _;obtain⟨g',J,rfl⟩:=ownsRow_succ f;obtain⟨s,B,C,E,t⟩:=u.appended nQ d r.size (pT _) f j;have U:=s.cell;have V:=s.frozen)
  exact⟨E.from _,KpL.of_below G t,⟨_,B,by simpa using C,nP⟩,r.trans t⟩
 case done=>
  rintro D H W X rfl ⟨⟨v,u,d,i⟩,r⟩ q;have T:=u.cell
  gi_wp2
  refine⟨nP,.inl ⟨_,_,rfl,run_takeDeferred q,?_⟩⟩;exact⟨_,results_tmp rfl _ _ _,v,rfl,ownsRow_putObj d _ q rfl,i,r.trans (belowK_b (w:=w) (pT _) W D _ _ (by simp at X;omega) q rfl rfl)⟩
 case stop=>
  rintro D c a W _ _ h _;exact h.elim
theorem WB(n:Nat)(o:4≤n)(g:Nat)(lb:Array uL)(i:∀args w,(callFunc g args).run hC w= .ok (.enter g args) w)(L:List Nat)(a:nH)(h:nH→Prop)(c:a.length≤1000000)(w:uO)(j:∀b∈L,b<w.heap.size)
 (d:SeqStopsK Fence.wide (n - 1 - 1) hC g lb cn (KpL L) (λys=>ys=a) h a.length w):
 CallsIn Fence.wide n hC 135 #[.func (.func g) #[] lb] w λe f=>∃v,e= .returned v∧f.ownsRow w.heap.size 3 1 v a.length (a.map (pL .i64))∧(v= .slice none 0 0↔a= [])∧Below w.heap.size w f:=by
 refine callsIn_of_wp func135 rfl trivial ?_ rfl;simp only[ntmps135,rT,pP,pY,Nat.reduceAdd,Nat.reduceSub,qV,qX,rU,rE,qC,rZ]
 gi_wp2
 refine⟨trivial,λ_=>nJ,(To (n - 1) nJ g lb i L a h c w j d).mono ?_⟩;rintro e f ⟨v,rfl,k,l,m⟩
 gi_wp2
 go_ret
 exact⟨v,rfl,k,l,m⟩
end Go.Proofs.YtfnppeejaimnbaaGreatDoor.Dg
