/-
  DenS, DenD, Den, Base, Sim0, Sim1, Sim2, EngP, EngO, G1, G2, Lays, Sorts, DgLays2, DgVisitD, DgClone, SimB, DgBits, DgSets, DgLow, DgTz, EngR, EngQ, put together.
  Conditions: none; each part tells its own.
-/
import Derived.Test.YtkfgeafgfeppfaaGreatDoorKt1
import Derived.Test.YtkfgeafgfeppfaaGreatDoorProg
import Derived.KernelRfl
import Derived.Shelf.Sort.Plain
import Derived.Shelf.SlSortCmp.NoneTotal
import Derived.Shelf.Slices.CompactI
import Derived.Shelf.Small.Wraps
import Derived.Shelf.Slices.In.SortNone
import Derived.Shelf.SlicesE.DeleteFunc
import Derived.Lib.TrailingZeros
import Derived.WalkKit
import Derived.ProofKit
import Derived.OpenShut
import Derived.ShutString
import Derived.ChangeOld
import Derived.Below
set_option linter.unusedVariables false
set_option maxRecDepth 100000
set_option maxHeartbeats 4000000
open Go.IntKind renaming wrap → gO,bits → gX,signed → kX
open Int renaming tmod → gP,toNat → gQ,toNat_natCast → iK,tdiv → iW,emod_lt_of_pos → jO,fdiv → jX,emod_nonneg → kJ,not_lt → kQ,tmod_eq_emod_of_nonneg → kU,fdiv_eq_ediv_of_nonneg → kY,tdiv_eq_ediv_of_nonneg → lB,le_refl → nU
open Go.Proofs.Tryz renaming prog → gR,underlying30 → iV,underlying3 → jI,underlying4 → jJ,zeroValue3 → jM,zeroValue4 → jN,sizeOf3 → jR,underlying0 → jV,isAgg3 → jZ,zeroValue0 → kM,sizeOf4 → kO,underlying195 → kW,isAgg4 → lF,zeroValue30 → lI,sizeOf0 → lJ,isAgg0 → lN,sizeOf30 → lU,underlying204 → lX,underlying223 → lY,underlying197 → lZ,underlying143 → mA,underlying216 → mB,underlying217 → mC,underlying235 → mD,underlying239 → mF,underlying247 → mG,underlying248 → mH,underlying28 → mO,underlying61 → mP,underlying63 → mQ,underlying64 → mR,underlying29 → mS,isAgg30 → mU,zeroValue204 → mV,zeroValue223 → mW,zeroValue197 → mX,zeroValue143 → mY,zeroValue216 → mZ,zeroValue217 → nA,zeroValue235 → nB,zeroValue239 → nC,zeroValue247 → nD,zeroValue248 → nF,underlying5 → nN,underlying9 → nO
open ByteArray renaming extract → gS,toList → gT,size → gV
open List renaming getElem?_eq_getElem → gU,length → iB,getElem_mem → iL,length_append → iZ,getElem?_eq_none → jA,getElem?_append_left → jB,getElem?_append_right → jG,pairwise_cons → jP,replicate → jS,filter_eq_nil_iff → jT,getElem?_of_mem → jY,eq_nil_of_length_eq_zero → kD,range' → kG,mem_append → kH,range → kZ,mem_range → lA,getElem?_eq_some_iff → lC,mem_cons → lH,mem_append_left → lM,range_eq_range' → lS,mem_singleton → lW,filter_append → mL,append_assoc → mT,take_add_one → nG,perm_middle → nI,length_cons → nJ,length_take → nP,filter_cons → nQ
open Go.Eng.Ro renaming str → gW,int → hQ,list → oA
open Nat renaming beq → gY,lt_or_ge → jH,lt_succ_iff_lt_or_eq → jK,testBit_two_pow → kN,mul_le_mul_right → lP,le_refl → lQ,pow_lt_pow_right → lR,lt_of_le_of_lt → mJ,pow_succ → nH
open Go.Builtin renaming append_ → gZ
open Go.Eng.T renaming out → hO,call → hZ,ret → iA,block → iD,loop → iF,join → iJ,brk → iM,load → iO,sem → iP,still → iX,store → jD
open Go.Eng.Ro.SliceIs renaming nil → hU
open BitVec renaming ofInt → iC,toNat → iQ
open Go.Eng.St renaming freezeRow → iE,cell → iH,unpair → iU,cells → iY,unro → jE,lit → kT,shutR → lL,shut → lT,openR → nY
open Go.Eng.Sub renaming trans → iG,refl → kF
open Option renaming bind_some → iI,isNone → lG,map → lV,isNone_some → mI
open UInt8 renaming toNat → iN,ofNat → lD
open Go.Eng.AW renaming done → iR,next → iT
open Array renaming getElem?_eq_getElem → jC,getElem?_append_left → kV,getElem?_modify → lK
open Go.Eng.Rep renaming row → jF,ro → jU,prod → mN
open Bool renaming or_false → jL,true_and → jW,false_ne_true → mK
open Go.Value renaming int → jQ
open Go.Eng.BX renaming int → lO,val → nZ
open Go.Addr renaming add → mM
open Go.Instr renaming mapUpdate → nW,makeSlice → nX
namespace Go.Proofs.YtkfgeafgfeppfaaGreatDoor
open Go Go.Eng
abbrev dX (r j:Nat) (k:Slc→T):T:=iO .slice ⟨r,j,none⟩ k
abbrev dY (a:Addr) (i:Int) (j:Nat) (k:Slc→T):T:=iO .slice (a.add (gQ i * j)) k
abbrev dZ (a:Array Value) (t:Nat) (k:Nat→T):T:=T.new (.cells a t (0,0)) k
abbrev eB (r j:Nat) (k:Int→T):T:=iO (.int .u8) ⟨r,j,none⟩ k
abbrev eC (r j:Nat) (v:Slc) (k:T):T:=jD ⟨r,j,none⟩ (sv v) k
abbrev eD (r j:Nat) (k:Option Addr→T):T:=iO .pointer ⟨r,j,none⟩ k
abbrev eF (a:Addr) (j:Nat) (k:Slc→T):T:=iO .slice (a.add j) k
abbrev eG (a:Addr) (i:Int) (j n:Nat) (k:Slc→T):T:=iO .slice ((a.add (gQ i * j)).add n) k
abbrev eH (a:Addr) (i:Int) (j:Nat) (k:Int→T):T:=iO (.int .i64) (a.add (gQ i * j)) k
abbrev eI (r j:Nat) (v:Value) (k:T):T:=jD ⟨r,j,none⟩ v k
abbrev eJ (r j:Nat) (v:Value) (k:T):T:=iX ⟨r,j,none⟩ v k
abbrev eK (a:Addr) (i:Int) (j n:Nat) (k:Int→T):T:=iO (.int .i64) ((a.add (gQ i * j)).add n) k
abbrev eL (r j:Nat) (k:Int→T):T:=iO (.int .i64) ⟨r,j,none⟩ k
abbrev eM (r j:Nat) (v:Int) (k:T):T:=jD ⟨r,j,none⟩ (.int .i64 v) k
abbrev eN (r j:Nat) (k:T):T:=jD ⟨r,j,none⟩ (.slice none 0 0) k
abbrev eO (r j:Nat) (k:ByteArray→T):T:=iO .string ⟨r,j,none⟩ k
abbrev eP (a:Addr) (i:Int) (j:Nat) (k:ByteArray→T):T:=iO .string (a.add (gQ i * j)) k
abbrev eQ (a:Addr) (i:Int) (j n:Nat) (k:ByteArray→T):T:=iO .string ((a.add (gQ i * j)).add n) k
abbrev eR (r j:Nat) (v:Slc) (k:T):T:=iX ⟨r,j,none⟩ (sv v) k
abbrev eS (a:Addr) (i:Int) (j:Nat) (k:Int→T):T:=iO (.int .u8) (a.add (gQ i * j)) k
abbrev eT (r j:Nat) (k:Option Nat→T):T:=iO .map ⟨r,j,none⟩ k
abbrev eU (a:Addr) (j:Nat) (k:Int→T):T:=iO (.int .i64) (a.add j) k
abbrev eV (a:Addr) (k:Int→T):T:=iO (.int .i64) a k
abbrev eW (a:Addr) (k:ByteArray→T):T:=iO .string a k
abbrev eX (a:Addr) (k:Bool→T):T:=iO .bool a k
abbrev eY (a:Addr) (i:Int) (j n:Nat) (k:Bool→T):T:=iO .bool ((a.add (gQ i * j)).add n) k
abbrev eZ (r j:Nat) (k:Bool→T):T:=iO .bool ⟨r,j,none⟩ k
abbrev fA (a:Addr) (i:Int) (j:Nat) (k:Option Addr→T):T:=iO .pointer (a.add (gQ i * j)) k
abbrev fB (a:Addr) (k:Int→T):T:=iO (.int .u8) a k
abbrev fC (a:Addr) (i:Int) (j:Nat) (k:Bool→T):T:=iO .bool (a.add (gQ i * j)) k
abbrev fD (a:Addr) (k:Slc→T):T:=iO .slice a k
abbrev fE (a:Addr) (j:Nat) (k:Option Addr→T):T:=iO .pointer (a.add j) k
abbrev fF (a:Addr) (j:Nat) (k:Option Nat→T):T:=iO .map (a.add j) k
abbrev fG (r j:Nat) (v:Int) (k:T):T:=iX ⟨r,j,none⟩ (.int .i64 v) k
abbrev fH (r:Nat):Option Addr:=some ⟨r,0,none⟩
abbrev fI (p:Option Addr) (n:Nat) (i:Int) (k:Addr→T):T:=deref p λa=>chk (0≤i∧i<n) (k a)
abbrev fJ (i:Int) (n:Nat) (x y:T):T:=cond (decide (i<n)) x y
abbrev fK (p:Prop) [Decidable p] (x y:T):T:=cond (decide p) x y
abbrev fL (n:Int):Value:=.int .i64 n
abbrev fM:Value:=.slice none 0 0
abbrev fN (p:Option Addr):Value:=.pointer p
abbrev fO:Sh:=.one aP
abbrev fP:Sh:=.one aS
abbrev fQ:Sh:=.one aI
abbrev fR:Sh:=.one aB
abbrev fS:List Sh1:=[aB]
abbrev fT:List Sh1:=[aI,aB]
abbrev fU:List Sh1:=[aI,aI]
abbrev fV:List Sh1:=[aI,aS]
abbrev fW:List Sh1:=[aI]
abbrev fX:List Sh1:=[aI,aB,aS]
abbrev fY:List Sh1:=[aS,aS]
abbrev fZ:List Sh1:=[aS,aB]
abbrev gA:List Sh1:=[aI,aS,aS]
noncomputable def Ha (s_0:Int×Int×Slc×Slc×Slc×Slc×Slc×Unit) (a:Int) (b:Int):T:=dZ #[.int .u8 s_0.1,.int .u8 s_0.2.1,sv s_0.2.2.1,sv s_0.2.2.2.1,sv s_0.2.2.2.2.1,sv s_0.2.2.2.2.2.1,sv s_0.2.2.2.2.2.2.1] 25 λr1=>iJ fS (dX r1 2 λt3=>fK ((t3.2.1:Int) >a) (hO [.bool true]) (dX r1 5 λt4=>hO [.bool (decide ((t4.2.1:Int) >(5:Int)))])) λf=>cond f.1 (iA (.bool false)) (iD 0 fT (iF fT [fL 0,.bool false] λc=>dX r1 3 λg=>fJ c.1 g.2.1 (dX r1 3 λe=>fI e.1 e.2.1 c.1 λh=>dY h c.1 1 λd=>fK ((d.2.1:Int) >b) (iA (.bool false)) (hO [fL (wN c.1),.bool c.2.1])) (iM 0 [fL c.1,.bool c.2.1])) λi=>iA (.bool true))
theorem Gj (s_0:Int×Int×Slc×Slc×Slc×Slc×Slc×Unit) (a:Int) (b:Int):Ab gR Tryz.f5 [(.agg #[(.int .u8 s_0.1),(.int .u8 s_0.2.1),(sv s_0.2.2.1),(sv s_0.2.2.2.1),(sv s_0.2.2.2.2.1),(sv s_0.2.2.2.2.2.1),(sv s_0.2.2.2.2.2.2.1)]),(.int .i64 a),(.int .i64 b)] =Ha s_0 a b:=by kernel_rfl
noncomputable def G6 (s_0:Int×Int×Slc×Slc×Slc×Slc×Slc×Unit):T:=dZ #[.int .u8 s_0.1,.int .u8 s_0.2.1,sv s_0.2.2.1,sv s_0.2.2.2.1,sv s_0.2.2.2.2.1,sv s_0.2.2.2.2.2.1,sv s_0.2.2.2.2.2.2.1] 25 λr1=>dZ #[fM,fM,fM,fM,fM,fM] 32 λd=>eB r1 0 λt3=>eB r1 1 λt4=>dX r1 2 λt5=>dX r1 3 λq=>dX r1 4 λr=>dX r1 5 λs=>dX r1 6 λt=>hZ 23 [.agg #[.int .u8 t3,.int .u8 t4,sv t5,sv q,sv r,sv s,sv t]] (.one (.agg [.slice,.slice,.slice,.string,.slice])) λc=>hZ 22 [.agg #[sv c.1,sv c.2.1,sv c.2.2.1,.string c.2.2.2.1,sv c.2.2.2.2.1]] (.tuple [.agg [.slice,.slice,.slice,.slice,.slice,.slice],aI,.atom .string]) λb=>dZ #[fM,fM,fM,fM,fM,fM] 32 λa=>eC a 0 b.1.1<|eC a 1 b.1.2.1<|eC a 2 b.1.2.2.1<|eC a 3 b.1.2.2.2.1<|eC a 4 b.1.2.2.2.2.1<|eC a 5 b.1.2.2.2.2.2.1<|L6 a λk l m n o p=>eC d 0 k<|eC d 1 l<|eC d 2 m<|eC d 3 n<|eC d 4 o<|eC d 5 p<|L6 d λe f g h i j=>iA (aH e f g h i j)
theorem GT (s_0:Int×Int×Slc×Slc×Slc×Slc×Slc×Unit):Ab gR Tryz.f6 [(.agg #[(.int .u8 s_0.1),(.int .u8 s_0.2.1),(sv s_0.2.2.1),(sv s_0.2.2.2.1),(sv s_0.2.2.2.2.1),(sv s_0.2.2.2.2.2.1),(sv s_0.2.2.2.2.2.2.1)])] =G6 s_0:=by kernel_rfl
noncomputable def J2 (p_0:Pl6) (d:Int) (e:Int):T:=dZ #[sv p_0.1,sv p_0.2.1,sv p_0.2.2.1,sv p_0.2.2.2.1,sv p_0.2.2.2.2.1,sv p_0.2.2.2.2.2.1] 32 λr1=>L6 r1 λt2 t3 t4 t5 U V=>dZ #[sv t2,sv t3,sv t4,sv t5,sv U,sv V,fM,fL 0] 101 λW=>dZ #[fN none] 41 λc=>eI c 0 (fN (some ⟨W,0,none⟩))<|hZ 54 [fL d] fO λy=>hZ 54 [fL e] fO λz=>dZ #[fN none] 140 λh=>dZ #[fN none] 140 λf=>eI h 0 (fN y)<|eI f 0 (fN z)<|T.new (.map #[] 0) λA=>dZ #[.map none] 142 λi=>eI i 0 (.map (some A))<|dZ #[fL 0,fL 0] 73 λB=>hZ 55 [.slice (some ⟨B,0,none⟩) 1 1,fL (-1:Int),fL (-1:Int),fN (some ⟨i,0,none⟩),fN (some ⟨c,0,none⟩),fN (some ⟨h,0,none⟩),fN (some ⟨f,0,none⟩)] (.tuple fU) λp=>cond (p.2.1 !=(0:Int)) (iA (.tuple #[fN none,fL p.2.1])) (iD 0 [aI,aI,aP] (iF [aI,aI,aP] [fL 0,fL 0,fN none] λa=>eD c 0 λC=>deref C λD=>eF D 6 λE=>cond (decide (a.1< (E.2.1:Int))) (eD c 0 λF=>deref F λG=>eF G 6 λq=>deref q.1 λH=>chk (0≤a.1∧a.1< (q.2.1:Nat))<|eG H a.1 5 1 λr=>eD c 0 λI=>hZ 59 [fN I,sv r] fP λj=>iD 2 [aI,aI,aP] (iF [aI,aI,aP] [fL 0,fL a.2.1,fN a.2.2.1] λb=>cond (decide (b.1< (j.2.1:Int))) (deref j.1 λJ=>chk (0≤b.1∧b.1< (j.2.1:Nat))<|eH J b.1 1 λk=>eD c 0 λK=>hZ 60 [fN K,sv r,fL k] fP λL=>hZ 55 [sv L,fL a.1,fL k,fN (some ⟨i,0,none⟩),fN (some ⟨c,0,none⟩),fN (some ⟨h,0,none⟩),fN (some ⟨f,0,none⟩)] (.tuple fU) λl=>cond (l.2.1 !=(0:Int)) (iA (.tuple #[fN none,fL l.2.1])) (eD c 0 λm=>deref m λn=>eF n 6 λg=>eD c 0 λs=>deref s λt=>eF t 6 λo=>deref o.1 λu=>chk (0≤a.1∧a.1< (o.2.1:Nat))<|eG u a.1 5 2 λv=>dZ #[fL k,fL l.1] 79 λM=>iX ((u.add (gQ a.1 *5)).add 2) (sv v)<|iX (t.add 6) (sv o)<|eJ c 0 (fN s)<|iX (n.add 6) (sv g)<|eJ c 0 (fN m)<|iP (gZ #[54,54] 54 #[sv v,.slice (some ⟨M,0,none⟩) 1 1]) fP λN=>iX (n.add 6) (sv g)<|eJ c 0 (fN m)<|deref g.1 λO=>chk (0≤a.1∧a.1< (g.2.1:Nat))<|jD ((O.add (gQ a.1 *5)).add 2) (sv N)<|hO [fL (wN b.1),fL b.2.1,fN b.2.2.1])) (iM 2 [fL b.1,fL b.2.1,fN b.2.2.1])) λw=>hO [fL (wN a.1),fL w.2.1,fN w.2.2.1]) (iM 0 [fL a.1,fL a.2.1,fN a.2.2.1])) λX=>eD c 0 λx=>eD f 0 λP=>hZ 61 [fN P] fQ λQ=>eJ c 0 (fN x)<|deref x λR=>jD (R.add 7) (fL Q)<|eD c 0 λS=>iA (.tuple #[fN S,fL 0]))
theorem NW (p_0:Pl6) (a:Int) (b:Int):Ab gR Tryz.f36 [(aG p_0),(.int .i64 a),(.int .i64 b)] =J2 p_0 a b:=by kernel_rfl
noncomputable def Mi (a:gL):T:=deref a λb=>eF b 6 λt2=>iA (fL (t2.2.1:Int))
theorem LD (a:gL):Ab gR Tryz.f11 [(.pointer a)] =Mi a:=by kernel_rfl
noncomputable def LE (a:gL) (b:Int):T:=hZ 44 [fN a,fL b] (.one (.agg [.slice,.slice,.slice,.int .i64,.int .i64])) λt1=>hZ 69 [sv t1.2.1] fP λt2=>iA (sv t2)
theorem JS (a:gL) (b:Int):Ab gR Tryz.f38 [(.pointer a),(.int .i64 b)] =LE a b:=by kernel_rfl
noncomputable def LF (a:gL) (b:Int):T:=hZ 44 [fN a,fL b] (.one (.agg [.slice,.slice,.slice,.int .i64,.int .i64])) λt1=>hZ 118 [sv t1.2.2.1] fP λt2=>iA (sv t2)
theorem JT (a:gL) (b:Int):Ab gR Tryz.f91 [(.pointer a),(.int .i64 b)] =LF a b:=by kernel_rfl
noncomputable def NX (d:gL) (e:Int) (b:Int):T:=hZ 44 [fN d,fL e] (.one (.agg [.slice,.slice,.slice,.int .i64,.int .i64])) λt1=>iD 0 fU (iF fU [fL 0,fL 0] λa=>fJ a.1 t1.2.2.1.2.1 (fI t1.2.2.1.1 t1.2.2.1.2.1 a.1 λf=>eH f a.1 2 λt5=>eK f a.1 2 1 λg=>dZ #[fL 0,fL 0] 79 λc=>eM c 0 t5<|eM c 1 g<|eL c 0 λh=>cond (h==b) (eL c 1 λi=>iA (fL i)) (hO [fL (wN a.1),fL a.2.1])) (iM 0 [fL a.1,fL a.2.1])) λj=>iA (fL (-1:Int))
theorem L9 (b:gL) (c:Int) (a:Int):Ab gR Tryz.f21 [(.pointer b),(.int .i64 c),(.int .i64 a)] =NX b c a:=by kernel_rfl
noncomputable def MA (e:gL) (d:Int) (b:gL) (a f:Nat):T:=iJ fS (fK (d< 0) (hO [.bool true]) (deref e λh=>eF h 6 λt3=>hO [.bool (decide (d≥ (t3.2.1:Int)))])) λi=>cond i.1 (iA (fL (-1:Int))) (iD 0 fU (iF fU [fL 0,fL d] λc=>fJ c.1 a (fI b a c.1 λj=>eH j c.1 1 λk=>hZ 21 [fN e,fL c.2.1,fL k] fQ λg=>fK (g< 0) (iM 0 [fL c.1,fL g]) (hO [fL (wN c.1),fL g])) (iM 0 [fL c.1,fL c.2.1])) λl=>iA (fL l.2.1))
theorem J3 (d:gL) (e:Int) (a:gL) (b c:Nat):Ab gR Tryz.f42 [(.pointer d),(.int .i64 e),(.slice a b c)] =MA d e a b c:=by kernel_rfl
noncomputable def NY (h:gL) (a:Int):T:=dZ #[fM,fM,fM,fL 0,fL 0] 118 λr1=>iJ fS (fK (a< 0) (hO [.bool true]) (deref h λu=>eF u 6 λt4=>hO [.bool (decide (a≥ (t4.2.1:Int)))])) λv=>cond v.1 (eN r1 0<|eN r1 1<|eN r1 2<|eM r1 3 0<|eM r1 4 0<|dX r1 0 λi=>dX r1 1 λj=>dX r1 2 λk=>eL r1 3 λl=>eL r1 4 λm=>iA (.agg #[sv i,sv j,sv k,fL l,fL m])) (deref h λo=>eF o 6 λn=>fI n.1 n.2.1 a λb=>dY b a 5 λp=>eG b a 5 1 λq=>eG b a 5 2 λr=>eK b a 5 3 λs=>eK b a 5 4 λt=>eC r1 0 p<|eC r1 1 q<|eC r1 2 r<|eM r1 3 s<|eM r1 4 t<|dX r1 0 λc=>dX r1 1 λd=>dX r1 2 λe=>eL r1 3 λf=>eL r1 4 λg=>iA (.agg #[sv c,sv d,sv e,fL f,fL g]))
theorem MB (a:gL) (b:Int):Ab gR Tryz.f44 [(.pointer a),(.int .i64 b)] =NY a b:=by kernel_rfl
noncomputable def J4 (a:gL) (x_1:Int×Int×Unit):T:=dZ #[fL x_1.1,fL x_1.2.1] 73 λr1=>deref a λe=>eF e 2 λt3=>eL r1 0 λt4=>fI t3.1 t3.2.1 t4 λf=>eG f t4 3 1 λb=>eL r1 1 λg=>fK (g≥ (b.2.1:Int)) (iA (fL (-1:Int))) (eL r1 1 λd=>fI b.1 b.2.1 d λh=>eH h d 1 λc=>iA (fL c))
theorem IX (a:gL) (x_1:Int×Int×Unit):Ab gR Tryz.f79 [(.pointer a),(.agg #[(.int .i64 x_1.1),(.int .i64 x_1.2.1)])] =J4 a x_1:=by kernel_rfl
noncomputable def JU (h:gL) (b:gL) (c d:Nat):T:=hZ 69 [.slice b c d] fP λt1=>T.new (.map #[] 0) λK=>iD 0 fV (iF fV [fL 0,sv t1] λf=>fJ f.1 f.2.1.2.1 (iD 1 [aS] (fI f.2.1.1 f.2.1.2.1 f.1 λL=>eH L f.1 2 λN=>eK L f.1 2 1 λO=>hZ 79 [fN h,.agg #[fL N,fL O]] fQ λk=>iJ fS (fK (k< 0) (hO [.bool true]) (deref h λl=>M6 l λm n o p q r=>hZ 80 [aH m n o p q r,fL k] fR λs=>cond s (hO [.bool true]) (iP (Instr.lookup 169 (.map (some K)) (fL k) false) fR λt=>hO [.bool t]))) λu=>cond u.1 (iM 1 [sv f.2.1]) (iP (Sem.bind (nW 169 (.map (some K)) (fL k) (.bool true)) λ_=>.pure undef) (.tuple []) λP=>deref h λv=>eF v 2 λi=>iD 2 fV (iF fV [fL 0,sv f.2.1] λa=>fJ a.1 i.2.1 (fI i.1 i.2.1 a.1 λj=>eH j a.1 3 λw=>eG j a.1 3 1 λx=>eK j a.1 3 2 λy=>dZ #[fL 0,fM,fL 0] 95 λg=>eM g 0 w<|eC g 1 x<|eM g 2 y<|dZ #[fL 0,fL 0] 73 λe=>eM e 0 a.1<|eM e 1 0<|iJ fS (eL g 0 λz=>cond (z==k) (eL e 0 λA=>eL e 1 λB=>hZ 72 [sv a.2.1,.agg #[fL A,fL B]] fR λC=>hO [.bool (!C)]) (hO [.bool false])) λD=>iJ [aS] (cond D.1 (eL e 0 λE=>eL e 1 λF=>dZ #[fL E,fL F] 73 λG=>iP (gZ #[74,74] 74 #[sv a.2.1,.slice (some ⟨G,0,none⟩) 1 1]) fP λH=>hO [sv H]) (hO [sv a.2.1])) λI=>hO [fL (wN a.1),sv I.1]) (iM 2 [fL a.1,sv a.2.1])) λJ=>hO [sv J.2.1])) λQ=>hO [fL (wN f.1),sv Q.1]) (iM 0 [fL f.1,sv f.2.1])) λM=>hZ 81 [sv M.2.1,.func (.func 82) #[] #[]] (.tuple []) λR=>iA (sv M.2.1)
theorem Ht (d:gL) (a:gL) (b c:Nat):Ab gR Tryz.f57 [(.pointer d),(.slice a b c)] =JU d a b c:=by kernel_rfl
noncomputable def JV (f:gL) (b:gL) (a d:Nat):T:=iD 0 fV (iF fV [fL 0,fM] λc=>fJ c.1 a (fI b a c.1 λk=>eH k c.1 2 λt4=>eK k c.1 2 1 λt5=>dZ #[fL 0,fL 0] 73 λe=>eM e 0 t4<|eM e 1 t5<|eL e 0 λn=>eL e 1 λo=>hZ 79 [fN f,.agg #[fL n,fL o]] fQ λl=>iJ [aS] (fK (l≥ 0) (dZ #[fL l] 3 λg=>iP (gZ #[30,30] 30 #[sv c.2.1,.slice (some ⟨g,0,none⟩) 1 1]) fP λh=>hO [sv h]) (hO [sv c.2.1])) λi=>hO [fL (wN c.1),sv i.1]) (iM 0 [fL c.1,sv c.2.1])) λm=>hZ 84 [sv m.2.1] (.tuple []) λp=>hZ 85 [sv m.2.1] fP λj=>iA (sv j)
theorem Hu (d:gL) (a:gL) (b c:Nat):Ab gR Tryz.f59 [(.pointer d),(.slice a b c)] =JV d a b c:=by kernel_rfl
noncomputable def MC (g:gL) (b:gL) (a d:Nat) (e:Int):T:=iD 0 fV (iF fV [fL 0,fM] λc=>fJ c.1 a (fI b a c.1 λm=>eH m c.1 2 λt4=>eK m c.1 2 1 λt5=>dZ #[fL 0,fL 0] 73 λf=>eM f 0 t4<|eM f 1 t5<|eL f 0 λn=>eL f 1 λo=>hZ 79 [fN g,.agg #[fL n,fL o]] fQ λp=>iJ [aS] (cond (p==e) (eL f 0 λh=>eL f 1 λi=>dZ #[fL h,fL (wN i)] 73 λj=>iP (gZ #[74,74] 74 #[sv c.2.1,.slice (some ⟨j,0,none⟩) 1 1]) fP λk=>hO [sv k]) (hO [sv c.2.1])) λl=>hO [fL (wN c.1),sv l.1]) (iM 0 [fL c.1,sv c.2.1])) λq=>iA (sv q.2.1)
theorem J5 (e:gL) (a:gL) (b c:Nat) (d:Int):Ab gR Tryz.f60 [(.pointer e),(.slice a b c),(.int .i64 d)] =MC e a b c d:=by kernel_rfl
noncomputable def DG (a:gL) (b c:Nat):T:=cond (lG a) (iA fM) (dZ #[] 73 λr1=>iP (gZ #[74,74] 74 #[.slice (some ⟨r1,0,none⟩) 0 0,.slice a b c]) fP λt2=>iA (sv t2))
theorem Es (a:gL) (b c:Nat):Ab gR Tryz.f69 [(.slice a b c)] =DG a b c:=by kernel_rfl
noncomputable def DH (a:gL) (b c:Nat):T:=cond (lG a) (iA fM) (dZ #[] 79 λr1=>iP (gZ #[54,54] 54 #[.slice (some ⟨r1,0,none⟩) 0 0,.slice a b c]) fP λt2=>iA (sv t2))
theorem Et (a:gL) (b c:Nat):Ab gR Tryz.f118 [(.slice a b c)] =DH a b c:=by kernel_rfl
noncomputable def Mj (g_0:Slc×Slc×Slc×gN×Slc×Unit):T:=dZ #[sv g_0.1,sv g_0.2.1,sv g_0.2.2.1,.string g_0.2.2.2.1,sv g_0.2.2.2.2.1] 66 λr1=>dZ #[fM,fM,fM,fM,fM,fM] 32 λb=>dX r1 0 λt3=>dX r1 1 λt4=>dX r1 2 λt5=>eO r1 3 λt6=>dX r1 4 λt7=>hZ 45 [.agg #[sv t3,sv t4,sv t5,.string t6,sv t7]] fR λt8=>cond (!t8) (eN b 0<|eN b 1<|eN b 2<|eN b 3<|eN b 4<|eN b 5<|L6 b λa7 U V W X Y=>iA (.tuple #[aH a7 U V W X Y,fL 1,.string {data:=#[]}])) (dZ #[.string {data:=#[36,101,110,100]}] 9 λh3=>dZ #[fL 0] 3 λh4=>dZ #[fL 0] 3 λh5=>dZ #[.string {data:=#[]}] 9 λh6=>dZ #[fM,fM,fM,fM,fM,fM] 32 λa=>eI a 0 (.slice (some ⟨h3,0,none⟩) 1 1)<|eN a 1<|eN a 2<|eI a 3 (.slice (some ⟨h4,0,none⟩) 1 1)<|eI a 4 (.slice (some ⟨h5,0,none⟩) 1 1)<|eI a 5 (.slice (some ⟨h6,0,none⟩) 1 1)<|iD 0 fW (iF fW [fL 0] λh=>dX r1 4 λh7=>fJ h.1 h7.2.1 (dX a 1 λh8=>dX r1 4 λa8=>fI a8.1 a8.2.1 h.1 λh9=>eP h9 h.1 4 λi0=>hZ 46 [sv h8,.string i0] fQ λi1=>iJ [] (fK (i1< 0) (dX a 1 λa9=>dX r1 4 λb0=>fI b0.1 b0.2.1 h.1 λi2=>eP i2 h.1 4 λi3=>dZ #[.string i3] 9 λi4=>eR a 1 a9<|iP (gZ #[28,28] 28 #[sv a9,.slice (some ⟨i4,0,none⟩) 1 1]) fP λi5=>eC a 1 i5<|hO []) (hO [])) λm8=>dX a 5 λb1=>dX r1 4 λb2=>fI b2.1 b2.2.1 h.1 λi6=>eQ i6 h.1 4 3 λi7=>dZ #[.string i7] 9 λi8=>eR a 5 b1<|iP (gZ #[28,28] 28 #[sv b1,.slice (some ⟨i8,0,none⟩) 1 1]) fP λi9=>eC a 5 i9<|hO [fL (wN h.1)]) (iM 0 [fL h.1])) λm9=>iD 2 [aI,.atom .string,aI] (iF [aI,.atom .string,aI] [fL 0,.string {data:=#[]},fL 0] λf=>dX r1 0 λj0=>fJ f.1 j0.2.1 (dX a 1 λj1=>dX r1 0 λb3=>fI b3.1 b3.2.1 f.1 λj2=>eP j2 f.1 4 λj3=>hZ 46 [sv j1,.string j3] fQ λj4=>fK (j4≥ 0) (dX r1 0 λZ=>fI Z.1 Z.2.1 f.1 λb4=>eP b4 f.1 4 λb5=>eN b 0<|eN b 1<|eN b 2<|eN b 3<|eN b 4<|eN b 5<|iX (b4.add (gQ f.1 *4)) (.string b5)<|eR r1 0 Z<|L6 b λa0 a1 a2 a3 a4 a5=>iA (.tuple #[aH a0 a1 a2 a3 a4 a5,fL 15,.string b5])) (dX a 0 λb6=>dX r1 0 λb7=>fI b7.1 b7.2.1 f.1 λj5=>eP j5 f.1 4 λj6=>dZ #[.string j6] 9 λj7=>eR a 0 b6<|iP (gZ #[28,28] 28 #[sv b6,.slice (some ⟨j7,0,none⟩) 1 1]) fP λj8=>eC a 0 j8<|dX a 3 λa6=>dX r1 0 λj9=>dX r1 1 λk0=>dX r1 2 λk1=>eO r1 3 λk2=>dX r1 4 λk3=>dX r1 0 λb8=>fI b8.1 b8.2.1 f.1 λk4=>eP k4 f.1 4 λk5=>hZ 47 [.agg #[sv j9,sv k0,sv k1,.string k2,sv k3],.string k5] fQ λk6=>eR a 3 a6<|dZ #[fL k6] 3 λk7=>eR a 3 a6<|iP (gZ #[30,30] 30 #[sv a6,.slice (some ⟨k7,0,none⟩) 1 1]) fP λk8=>eC a 3 k8<|hO [fL (wN f.1),.string f.2.1,fL f.2.2.1])) (iM 2 [fL f.1,.string f.2.1,fL f.2.2.1])) λb9=>iD 4 fW (iF fW [fL 0] λl=>dX r1 2 λk9=>fJ l.1 k9.2.1 (dX a 4 λc0=>dX r1 2 λc1=>fI c1.1 c1.2.1 l.1 λl0=>eH l0 l.1 2 λl1=>dZ #[fL l1] 3 λl2=>eR a 4 c0<|iP (gZ #[30,30] 30 #[sv c0,.slice (some ⟨l2,0,none⟩) 1 1]) fP λl3=>eC a 4 l3<|hO [fL (wN l.1)]) (iM 4 [fL l.1])) λn0=>dX a 0 λl4=>dX a 1 λl5=>L6 a λl6 l7 l8 l9 m0 m1=>eO r1 3 λm2=>hZ 48 [aH l6 l7 l8 l9 m0 m1,.string m2] fQ λm3=>dZ #[fL m3] 3 λm4=>dZ #[fL (gO .i64 ((l4.2.1:Int)+(l5.2.1:Int))),.slice (some ⟨m4,0,none⟩) 1 1,fL 0] 95 λm5=>eI a 2 (.slice (some ⟨m5,0,none⟩) 1 1)<|iD 6 [aI,.atom .string,aI] (iF [aI,.atom .string,aI] [fL 0,.string b9.2.1,fL b9.2.2.1] λg=>dX r1 4 λm6=>fJ g.1 m6.2.1 (dX r1 4 λL=>fI L.1 L.2.1 g.1 λj=>eP j g.1 4 λc2=>eG j g.1 4 1 λc3=>eQ j g.1 4 2 λc4=>eQ j g.1 4 3 λc5=>dZ #[.string {data:=#[]},fM,.string {data:=#[]},.string {data:=#[]}] 123 λc=>eI c 0 (.string c2)<|eC c 1 c3<|eI c 2 (.string c4)<|eI c 3 (.string c5)<|L6 a λc6 c7 c8 c9 d0 d1=>eO c 0 λd2=>hZ 48 [aH c6 c7 c8 c9 d0 d1,.string d2] fQ λd3=>dZ #[fL 0,fM,fL 0] 95 λe=>eM e 0 d3<|eN e 1<|eM e 2 0<|iD 8 [aI,.atom .string,aI] (iF [aI,.atom .string,aI] [fL 0,.string g.2.1,fL g.2.2.1] λd=>dX c 1 λd4=>fJ d.1 d4.2.1 (L6 a λd5 d6 d7 d8 d9 e0=>dX c 1 λM=>fI M.1 M.2.1 d.1 λe1=>eP e1 d.1 1 λe2=>hZ 48 [aH d5 d6 d7 d8 d9 e0,.string e2] fQ λi=>fK (i< 0) (dX c 1 λm=>fI m.1 m.2.1 d.1 λN=>eP N d.1 1 λO=>eN b 0<|eN b 1<|eN b 2<|eN b 3<|eN b 4<|eN b 5<|iX (N.add (gQ d.1 *1)) (.string O)<|eR c 1 m<|L6 b λn o p q r s=>iA (.tuple #[aH n o p q r s,fL 16,.string O])) (dX e 1 λe3=>dZ #[fL i] 3 λe4=>iP (gZ #[30,30] 30 #[sv e3,.slice (some ⟨e4,0,none⟩) 1 1]) fP λe5=>eC e 1 e5<|dX a 0 λe6=>iJ [] (fJ i e6.2.1 (dX a 3 λP=>fI P.1 P.2.1 i λe7=>eH e7 i 1 λe8=>eM e 2 e8<|hO []) (hO [])) λm7=>hO [fL (wN d.1),.string d.2.1,fL d.2.2.1])) (iM 8 [fL d.1,.string d.2.1,fL d.2.2.1])) λk=>eO c 2 λe9=>iJ [.atom .string,aI] (cond (!(gT e9==gT {data:=#[]})) (dX r1 0 λf0=>dX r1 1 λf1=>dX r1 2 λf2=>eO r1 3 λf3=>dX r1 4 λf4=>eO c 2 λf5=>hZ 47 [.agg #[sv f0,sv f1,sv f2,.string f3,sv f4],.string f5] fQ λf6=>eM e 2 f6<|eL e 2 λf7=>cond (f7==(0:Int)) (eO c 2 λQ=>eN b 0<|eN b 1<|eN b 2<|eN b 3<|eN b 4<|eN b 5<|eJ c 2 (.string Q)<|L6 b λt u v w x y=>iA (.tuple #[aH t u v w x y,fL 16,.string Q])) (hO [.string k.2.1,fL k.2.2.1])) (hO [.string k.2.1,fL k.2.2.1])) λR=>dX a 2 λf8=>eL e 0 λf9=>dX e 1 λg0=>eL e 2 λg1=>dZ #[fL f9,sv g0,fL g1] 95 λg2=>iP (gZ #[29,29] 29 #[sv f8,.slice (some ⟨g2,0,none⟩) 1 1]) fP λg3=>eC a 2 g3<|hO [fL (wN g.1),.string R.1,fL R.2.1]) (iM 6 [fL g.1,.string g.2.1,fL g.2.2.1])) λn1=>dX a 1 λg4=>eO r1 3 λg5=>hZ 46 [sv g4,.string g5] fQ λg6=>fK (g6< 0) (eO r1 3 λS=>eN b 0<|eN b 1<|eN b 2<|eN b 3<|eN b 4<|eN b 5<|eJ r1 3 (.string S)<|L6 b λz A B C D E=>iA (.tuple #[aH z A B C D E,fL 16,.string S])) (L6 a λg7 g8 g9 h0 h1 h2=>eC b 0 g7<|eC b 1 g8<|eC b 2 g9<|eC b 3 h0<|eC b 4 h1<|eC b 5 h2<|L6 b λF G H I J K=>iA (.tuple #[aH F G H I J K,fL 0,.string {data:=#[]}])))
theorem LG (g_0:Slc×Slc×Slc×gN×Slc×Unit):Ab gR Tryz.f22 [(.agg #[(sv g_0.1),(sv g_0.2.1),(sv g_0.2.2.1),(.string g_0.2.2.2.1),(sv g_0.2.2.2.2.1)])] =Mj g_0:=by kernel_rfl
noncomputable def GM (s_0:Int×Int×Slc×Slc×Slc×Slc×Slc×Unit):T:=dZ #[.int .u8 s_0.1,.int .u8 s_0.2.1,sv s_0.2.2.1,sv s_0.2.2.2.1,sv s_0.2.2.2.2.1,sv s_0.2.2.2.2.2.1,sv s_0.2.2.2.2.2.2.1] 25 λr1=>dZ #[fM,fM,fM,.string {data:=#[]},fM] 66 λr=>eB r1 0 λt3=>chk ((5:Int)≠0)<|eB r1 1 λt4=>chk ((4:Int)≠0)<|dZ #[fM,fM,fM,.string {data:=#[]},fM] 66 λa=>eN a 0<|eN a 1<|eN a 2<|eI a 3 (.string {data:=#[83]})<|eN a 4<|iD 0 fW (iF fW [fL 0] λo=>dX r1 5 λt8=>fJ o.1 t8.2.1 (dX a 2 λR=>dX r1 5 λz=>fI z.1 z.2.1 o.1 λC=>eS C o.1 1 λD=>chk ((3:Int)≠0)<|chk (0≤o.1∧o.1≤(wN o.1)∧(wN o.1) ≤(gV {data:=#[112,113,114,115,116]} :Nat))<|dZ #[.string (gS {data:=#[112,113,114,115,116]} (gQ o.1) (gQ (wN o.1)))] 9 λS=>iX (C.add (gQ o.1 *1)) (.int .u8 D)<|eR r1 5 z<|eR a 2 R<|dZ #[fL (gO .i64 ((gO .i64 (gP D 3))+(1:Int))),.slice (some ⟨S,0,none⟩) 1 1] 130 λU=>eR a 2 R<|iP (gZ #[63,63] 63 #[sv R,.slice (some ⟨U,0,none⟩) 1 1]) fP λV=>eC a 2 V<|hO [fL (wN o.1)]) (iM 0 [fL o.1])) λz6=>iD 2 fW (iF fW [fL 0] λb=>fK (b.1< (gO .i64 ((gO .i64 (gP t3 5))+(1:Int)))) (chk (0≤b.1∧b.1≤(wN b.1)∧(wN b.1) ≤(gV {data:=#[97,98,99,100,101]} :Nat))<|dX a 0 λW=>dZ #[.string (gS {data:=#[97,98,99,100,101]} (gQ b.1) (gQ (wN b.1))),.string (gS {data:=#[97,98,99,100,101]} (gQ b.1) (gQ (wN b.1))),.string {data:=#[]},.bool false] 127 λX=>iP (gZ #[61,61] 61 #[sv W,.slice (some ⟨X,0,none⟩) 1 1]) fP λY=>eC a 0 Y<|dX r1 6 λZ=>iJ [] (fJ b.1 Z.2.1 (dX r1 6 λE=>fI E.1 E.2.1 b.1 λa0=>eS a0 b.1 1 λd=>dX a 2 λc=>chk ((gO .i64 ((c.2.1:Int)+(1:Int)))≠0)<|iJ [] (fK ((gP (gO .i64 d) (gO .i64 ((c.2.1:Int)+(1:Int)))) >(0:Int)) (dX a 2 λe=>dX a 2 λn=>deref n.1 λp=>chk (0≤(gO .i64 ((gP (gO .i64 d) (gO .i64 ((c.2.1:Int)+(1:Int)))) - 1))∧(gO .i64 ((gP (gO .i64 d) (gO .i64 ((c.2.1:Int)+(1:Int)))) - 1)) < (n.2.1:Nat))<|eG p (gO .i64 ((gP (gO .i64 d) (gO .i64 ((c.2.1:Int)+(1:Int)))) - 1)) 2 1 λk=>T.both (dZ #[] 9 λF=>iX ((p.add (gQ (gO .i64 ((gP (gO .i64 d) (gO .i64 ((c.2.1:Int)+(1:Int)))) - 1)) *2)).add 1) (sv k)<|eR a 2 n<|eR a 2 e<|T.both (iP (gZ #[28,28] 28 #[.slice (some ⟨F,0,none⟩) 0 0,sv k]) fP λa1=>eR a 2 e<|dZ #[.string (gS {data:=#[97,98,99,100,101]} (gQ b.1) (gQ (wN b.1)))] 9 λa2=>eR a 2 e<|iP (gZ #[28,28] 28 #[sv a1,.slice (some ⟨a2,0,none⟩) 1 1]) fP λa3=>eR a 2 e<|deref e.1 λa4=>chk (0≤(gO .i64 ((gP (gO .i64 d) (gO .i64 ((c.2.1:Int)+(1:Int)))) - 1))∧(gO .i64 ((gP (gO .i64 d) (gO .i64 ((c.2.1:Int)+(1:Int)))) - 1)) < (e.2.1:Nat))<|jD ((a4.add (gQ (gO .i64 ((gP (gO .i64 d) (gO .i64 ((c.2.1:Int)+(1:Int)))) - 1)) *2)).add 1) (sv a3)<|hO []) (dZ #[.string (gS {data:=#[97,98,99,100,101]} (gQ b.1) (gQ (wN b.1)))] 9 λa5=>iX ((p.add (gQ (gO .i64 ((gP (gO .i64 d) (gO .i64 ((c.2.1:Int)+(1:Int)))) - 1)) *2)).add 1) (sv k)<|eR a 2 n<|eR a 2 e<|iP (gZ #[28,28] 28 #[.slice (some ⟨F,0,none⟩) 0 0,sv k]) fP λa6=>eR a 2 e<|iP (gZ #[28,28] 28 #[sv a6,.slice (some ⟨a5,0,none⟩) 1 1]) fP λa7=>eR a 2 e<|deref e.1 λa8=>chk (0≤(gO .i64 ((gP (gO .i64 d) (gO .i64 ((c.2.1:Int)+(1:Int)))) - 1))∧(gO .i64 ((gP (gO .i64 d) (gO .i64 ((c.2.1:Int)+(1:Int)))) - 1)) < (e.2.1:Nat))<|jD ((a8.add (gQ (gO .i64 ((gP (gO .i64 d) (gO .i64 ((c.2.1:Int)+(1:Int)))) - 1)) *2)).add 1) (sv a7)<|hO [])) (dZ #[.string (gS {data:=#[97,98,99,100,101]} (gQ b.1) (gQ (wN b.1)))] 9 λa9=>iX ((p.add (gQ (gO .i64 ((gP (gO .i64 d) (gO .i64 ((c.2.1:Int)+(1:Int)))) - 1)) *2)).add 1) (sv k)<|eR a 2 n<|eR a 2 e<|dZ #[] 9 λb0=>iX ((p.add (gQ (gO .i64 ((gP (gO .i64 d) (gO .i64 ((c.2.1:Int)+(1:Int)))) - 1)) *2)).add 1) (sv k)<|eR a 2 n<|eR a 2 e<|iP (gZ #[28,28] 28 #[.slice (some ⟨b0,0,none⟩) 0 0,sv k]) fP λb1=>eR a 2 e<|iP (gZ #[28,28] 28 #[sv b1,.slice (some ⟨a9,0,none⟩) 1 1]) fP λb2=>eR a 2 e<|deref e.1 λb3=>chk (0≤(gO .i64 ((gP (gO .i64 d) (gO .i64 ((c.2.1:Int)+(1:Int)))) - 1))∧(gO .i64 ((gP (gO .i64 d) (gO .i64 ((c.2.1:Int)+(1:Int)))) - 1)) < (e.2.1:Nat))<|jD ((b3.add (gQ (gO .i64 ((gP (gO .i64 d) (gO .i64 ((c.2.1:Int)+(1:Int)))) - 1)) *2)).add 1) (sv b2)<|hO [])) (hO [])) λe2=>hO []) (hO [])) λe3=>hO [fL (wN b.1)]) (iM 2 [fL b.1])) λe4=>iD 4 fW (iF fW [fL 0] λf=>dX r1 2 λb4=>fJ f.1 b4.2.1 (dX r1 2 λA=>fI A.1 A.2.1 f.1 λG=>eS G f.1 1 λs=>chk ((gO .i64 ((gO .i64 (gP t4 4))+(1:Int)))≠0)<|dX r1 2 λB=>fI B.1 B.2.1 f.1 λH=>eS H f.1 1 λt=>chk ((gO .i64 ((gO .i64 (gP t4 4))+(1:Int)))≠0)<|chk (0≤(gP (gO .i64 s) (gO .i64 ((gO .i64 (gP t4 4))+(1:Int))))∧(gP (gO .i64 s) (gO .i64 ((gO .i64 (gP t4 4))+(1:Int)))) ≤(gO .i64 ((gP (gO .i64 t) (gO .i64 ((gO .i64 (gP t4 4))+(1:Int))))+(1:Int)))∧(gO .i64 ((gP (gO .i64 t) (gO .i64 ((gO .i64 (gP t4 4))+(1:Int))))+(1:Int))) ≤(gV {data:=#[83,84,85,86]} :Nat))<|dZ #[.string {data:=#[]},fM,.string {data:=#[]},.string {data:=#[]}] 123 λh=>iX (H.add (gQ f.1 *1)) (.int .u8 t)<|eR r1 2 B<|iX (G.add (gQ f.1 *1)) (.int .u8 s)<|eR r1 2 A<|eI h 0 (.string (gS {data:=#[83,84,85,86]} (gQ (gP (gO .i64 s) (gO .i64 ((gO .i64 (gP t4 4))+(1:Int))))) (gQ (gO .i64 ((gP (gO .i64 t) (gO .i64 ((gO .i64 (gP t4 4))+(1:Int))))+(1:Int))))))<|eN h 1<|eI h 2 (.string {data:=#[]})<|eI h 3 (.string {data:=#[]})<|dX r1 3 λb5=>iJ [] (fJ f.1 b5.2.1 (iD 6 fW (iF fW [fL 0] λq=>dX r1 3 λI=>fI I.1 I.2.1 f.1 λb6=>dY b6 f.1 1 λb7=>fJ q.1 b7.2.1 (dX r1 3 λJ=>fI J.1 J.2.1 f.1 λb8=>dY b8 f.1 1 λK=>fI K.1 K.2.1 q.1 λb9=>eS b9 q.1 1 λg=>chk ((gO .i64 ((gO .i64 ((gO .i64 (gP t3 5))+(1:Int)))+(gO .i64 ((gO .i64 (gP t4 4))+(1:Int)))))≠0)<|chk ((5:Int)≠0)<|chk ((5:Int)≠0)<|chk (0≤(gP (gP (gO .i64 g) (gO .i64 ((gO .i64 ((gO .i64 (gP t3 5))+(1:Int)))+(gO .i64 ((gO .i64 (gP t4 4))+(1:Int)))))) 5)∧(gP (gP (gO .i64 g) (gO .i64 ((gO .i64 ((gO .i64 (gP t3 5))+(1:Int)))+(gO .i64 ((gO .i64 (gP t4 4))+(1:Int)))))) 5) ≤(gO .i64 ((gP (gP (gO .i64 g) (gO .i64 ((gO .i64 ((gO .i64 (gP t3 5))+(1:Int)))+(gO .i64 ((gO .i64 (gP t4 4))+(1:Int)))))) 5)+(1:Int)))∧(gO .i64 ((gP (gP (gO .i64 g) (gO .i64 ((gO .i64 ((gO .i64 (gP t3 5))+(1:Int)))+(gO .i64 ((gO .i64 (gP t4 4))+(1:Int)))))) 5)+(1:Int))) ≤(gV {data:=#[97,98,99,100,101]} :Nat))<|iJ [.atom .string] (fK ((gP (gO .i64 g) (gO .i64 ((gO .i64 ((gO .i64 (gP t3 5))+(1:Int)))+(gO .i64 ((gO .i64 (gP t4 4))+(1:Int)))))) ≥ (gO .i64 ((gO .i64 (gP t3 5))+(1:Int)))) (chk (0≤(gO .i64 ((gP (gO .i64 g) (gO .i64 ((gO .i64 ((gO .i64 (gP t3 5))+(1:Int)))+(gO .i64 ((gO .i64 (gP t4 4))+(1:Int)))))) - (gO .i64 ((gO .i64 (gP t3 5))+(1:Int)))))∧(gO .i64 ((gP (gO .i64 g) (gO .i64 ((gO .i64 ((gO .i64 (gP t3 5))+(1:Int)))+(gO .i64 ((gO .i64 (gP t4 4))+(1:Int)))))) - (gO .i64 ((gO .i64 (gP t3 5))+(1:Int))))) ≤(gO .i64 ((gO .i64 ((gP (gO .i64 g) (gO .i64 ((gO .i64 ((gO .i64 (gP t3 5))+(1:Int)))+(gO .i64 ((gO .i64 (gP t4 4))+(1:Int)))))) - (gO .i64 ((gO .i64 (gP t3 5))+(1:Int)))))+(1:Int)))∧(gO .i64 ((gO .i64 ((gP (gO .i64 g) (gO .i64 ((gO .i64 ((gO .i64 (gP t3 5))+(1:Int)))+(gO .i64 ((gO .i64 (gP t4 4))+(1:Int)))))) - (gO .i64 ((gO .i64 (gP t3 5))+(1:Int)))))+(1:Int))) ≤(gV {data:=#[83,84,85,86]} :Nat))<|hO [.string (gS {data:=#[83,84,85,86]} (gQ (gO .i64 ((gP (gO .i64 g) (gO .i64 ((gO .i64 ((gO .i64 (gP t3 5))+(1:Int)))+(gO .i64 ((gO .i64 (gP t4 4))+(1:Int)))))) - (gO .i64 ((gO .i64 (gP t3 5))+(1:Int)))))) (gQ (gO .i64 ((gO .i64 ((gP (gO .i64 g) (gO .i64 ((gO .i64 ((gO .i64 (gP t3 5))+(1:Int)))+(gO .i64 ((gO .i64 (gP t4 4))+(1:Int)))))) - (gO .i64 ((gO .i64 (gP t3 5))+(1:Int)))))+(1:Int)))))]) (hO [.string (gS {data:=#[97,98,99,100,101]} (gQ (gP (gP (gO .i64 g) (gO .i64 ((gO .i64 ((gO .i64 (gP t3 5))+(1:Int)))+(gO .i64 ((gO .i64 (gP t4 4))+(1:Int)))))) 5)) (gQ (gO .i64 ((gP (gP (gO .i64 g) (gO .i64 ((gO .i64 ((gO .i64 (gP t3 5))+(1:Int)))+(gO .i64 ((gO .i64 (gP t4 4))+(1:Int)))))) 5)+(1:Int)))))])) λc0=>dX h 1 λc1=>dZ #[.string c0.1] 9 λc2=>iP (gZ #[28,28] 28 #[sv c1,.slice (some ⟨c2,0,none⟩) 1 1]) fP λc3=>eC h 1 c3<|hO [fL (wN q.1)]) (iM 6 [fL q.1])) λe5=>hO []) (hO [])) λe6=>dX r1 4 λc4=>iJ [] (fJ f.1 c4.2.1 (dX r1 4 λL=>fI L.1 L.2.1 f.1 λc5=>eS c5 f.1 1 λl=>dX a 2 λj=>chk ((gO .i64 ((j.2.1:Int)+(1:Int)))≠0)<|iJ [] (fK ((gP (gO .i64 l) (gO .i64 ((j.2.1:Int)+(1:Int)))) >(0:Int)) (chk (0≤(gO .i64 ((gP (gO .i64 l) (gO .i64 ((j.2.1:Int)+(1:Int)))) - 1))∧(gO .i64 ((gP (gO .i64 l) (gO .i64 ((j.2.1:Int)+(1:Int)))) - 1)) ≤(gP (gO .i64 l) (gO .i64 ((j.2.1:Int)+(1:Int))))∧(gP (gO .i64 l) (gO .i64 ((j.2.1:Int)+(1:Int)))) ≤(gV {data:=#[112,113,114,115,116]} :Nat))<|eI h 2 (.string (gS {data:=#[112,113,114,115,116]} (gQ (gO .i64 ((gP (gO .i64 l) (gO .i64 ((j.2.1:Int)+(1:Int)))) - 1))) (gQ (gP (gO .i64 l) (gO .i64 ((j.2.1:Int)+(1:Int)))))))<|hO []) (hO [])) λe7=>hO []) (hO [])) λe8=>dX a 4 λc6=>eO h 0 λc7=>dX h 1 λc8=>eO h 2 λc9=>eO h 3 λd0=>dZ #[.string c7,sv c8,.string c9,.string d0] 123 λd1=>iP (gZ #[64,64] 64 #[sv c6,.slice (some ⟨d1,0,none⟩) 1 1]) fP λd2=>eC a 4 d2<|hO [fL (wN f.1)]) (iM 4 [fL f.1])) λe9=>iD 8 fW (iF fW [fL 0] λi=>fK (i.1< (gO .i64 ((gO .i64 (gP t4 4))+(1:Int)))) (chk (0≤i.1∧i.1≤(wN i.1)∧(wN i.1) ≤(gV {data:=#[83,84,85,86]} :Nat))<|iD 10 fT (iF fT [fL 0,.bool false] λm=>dX a 4 λd3=>fJ m.1 d3.2.1 (iJ fS (cond m.2.1 (hO [.bool true]) (dX a 4 λM=>fI M.1 M.2.1 m.1 λd4=>eP d4 m.1 4 λd5=>hO [.bool (gT d5==gT (gS {data:=#[83,84,85,86]} (gQ i.1) (gQ (wN i.1))))])) λd6=>hO [fL (wN m.1),.bool d6.1]) (iM 10 [fL m.1,.bool m.2.1])) λd7=>iJ [] (cond (!d7.2.1) (dX a 4 λd8=>dZ #[.string (gS {data:=#[83,84,85,86]} (gQ i.1) (gQ (wN i.1))),fM,.string {data:=#[]},.string {data:=#[]}] 123 λd9=>iP (gZ #[64,64] 64 #[sv d8,.slice (some ⟨d9,0,none⟩) 1 1]) fP λe0=>eC a 4 e0<|hO []) (hO [])) λf0=>hO [fL (wN i.1)]) (iM 8 [fL i.1])) λf1=>dX a 0 λe1=>dX a 1 λN=>dX a 2 λO=>eO a 3 λP=>dX a 4 λQ=>eC r 0 e1<|eC r 1 N<|eC r 2 O<|eI r 3 (.string P)<|eC r 4 Q<|dX r 0 λu=>dX r 1 λv=>dX r 2 λw=>eO r 3 λx=>dX r 4 λy=>iA (.agg #[sv u,sv v,sv w,.string x,sv y])
theorem Ff (s_0:Int×Int×Slc×Slc×Slc×Slc×Slc×Unit):Ab gR Tryz.f23 [(.agg #[(.int .u8 s_0.1),(.int .u8 s_0.2.1),(sv s_0.2.2.1),(sv s_0.2.2.2.1),(sv s_0.2.2.2.2.1),(sv s_0.2.2.2.2.2.1),(sv s_0.2.2.2.2.2.2.1)])] =GM s_0:=by kernel_rfl
noncomputable def SH (a:Int):T:=hZ 77 [fL a] fQ λt1=>dZ #[fL t1,fL 0,fL 0] 167 λb=>iA (fN (some ⟨b,0,none⟩))
theorem P2 (a:Int):Ab gR Tryz.f54 [(.int .i64 a)] =SH a:=by kernel_rfl
noncomputable def Hv (a:gL) (b c:Nat) (f:Int) (g:Int) (h:Nat) (d:Nat) (q:Nat) (r:Nat):T:=eT h 0 λt1=>hZ 56 [.slice a b c] (.one (.atom .string)) λt2=>eJ h 0 (.map t1)<|iP (Instr.lookup 142 (.map t1) (.string t2) true) (.tuple fT) λt3=>cond t3.2.1 (iA (.tuple #[fL t3.1,fL 0])) (eD d 0 λt4=>hZ 57 [fN t4,.slice a b c] fP λt5=>dZ #[fM,fM,fM,fL 0,fL 0] 118 λe=>eI e 0 (.slice a b c)<|eC e 1 t5<|eN e 2<|eM e 3 f<|eM e 4 g<|eD q 0 λI=>hZ 58 [fN I,fL 1] fQ λH=>iJ fW (cond (H==(0:Int)) (eD r 0 λs=>dX e 1 λt=>hZ 58 [fN s,fL (t.2.1:Int)] fQ λu=>hO [fL u]) (hO [fL H])) λJ=>eT h 0 λj=>eD d 0 λk=>deref k λl=>eF l 6 λm=>hZ 56 [.slice a b c] (.one (.atom .string)) λv=>iX (l.add 6) (sv m)<|eJ d 0 (fN k)<|eJ h 0 (.map j)<|iP (Sem.bind (nW 142 (.map j) (.string v) (fL (m.2.1:Int))) λ_=>.pure undef) (.tuple []) λK=>eD d 0 λi=>eD d 0 λn=>deref n λo=>eF o 6 λp=>dX e 0 λw=>dX e 1 λx=>dX e 2 λy=>eL e 3 λz=>eL e 4 λA=>dZ #[sv w,sv x,sv y,fL z,fL A] 118 λB=>iX (o.add 6) (sv p)<|eJ d 0 (fN n)<|eJ d 0 (fN i)<|iP (gZ #[99,99] 99 #[sv p,.slice (some ⟨B,0,none⟩) 1 1]) fP λC=>eJ d 0 (fN i)<|deref i λD=>jD (D.add 6) (sv C)<|eD d 0 λE=>deref E λF=>eF F 6 λG=>iA (.tuple #[fL (gO .i64 ((G.2.1:Int) - 1)),fL J.1]))
theorem MD (a:gL) (b c:Nat) (d:Int) (e:Int) (f:Nat) (g:Nat) (h:Nat) (i:Nat):Ab gR Tryz.f55 [(.slice a b c),(.int .i64 d),(.int .i64 e),(.pointer (some ⟨f,0,none⟩)),(.pointer (some ⟨g,0,none⟩)),(.pointer (some ⟨h,0,none⟩)),(.pointer (some ⟨i,0,none⟩))] =Hv a b c d e f g h i:=by kernel_rfl
noncomputable def Mk (b:gL) (a d:Nat):T:=iD 0 fV (iF fV [fL 0,fM] λc=>cond (decide (c.1< ((a:Nat):Int))) (deref b λl=>chk (0≤c.1∧c.1< (a:Nat))<|eH l c.1 2 λt4=>eK l c.1 2 1 λt5=>dZ #[fL 0,fL 0] 73 λe=>eM e 0 t4<|eM e 1 t5<|eL e 0 λm=>hZ 78 [sv c.2.1,fL m,fL 10] fP λn=>dZ #[.int .u8 46] 5 λo=>iP (gZ #[22,22] 22 #[sv n,.slice (some ⟨o,0,none⟩) 1 1]) fP λf=>eL e 1 λg=>hZ 78 [sv f,fL g,fL 10] fP λh=>dZ #[.int .u8 32] 5 λi=>iP (gZ #[22,22] 22 #[sv h,.slice (some ⟨i,0,none⟩) 1 1]) fP λj=>hO [fL (wN c.1),sv j]) (iM 0 [fL c.1,sv c.2.1])) λp=>iP (convert 22 9 (sv p.2.1)) (.one (.atom .string)) λk=>iA (.string k)
theorem Ot (a:gL) (b c:Nat):Ab gR Tryz.f56 [(.slice a b c)] =Mk a b c:=by kernel_rfl
noncomputable def ME (a:gL) (b:Int):T:=fK (b< 0) (iA (fL 1)) (hZ 83 [fN a] fQ λt1=>fK (b>t1) (iA (fL 5)) (deref a λe=>eU e 1 λt3=>deref a λf=>jD (f.add 1) (fL (gO .i64 (t3+b)))<|deref a λg=>eU g 2 λc=>deref a λh=>eU h 1 λd=>deref a λi=>jD (i.add 2) (fL (if d>c then d else c))<|iA (fL 0)))
theorem J6 (a:gL) (b:Int):Ab gR Tryz.f58 [(.pointer a),(.int .i64 b)] =ME a b:=by kernel_rfl
noncomputable def MF (a:gL):T:=deref a λb=>eU b 1 λt2=>iA (fL t2)
theorem J7 (a:gL):Ab gR Tryz.f61 [(.pointer a)] =MF a:=by kernel_rfl
noncomputable def MG (a:gL):T:=deref a λb=>eV b λt2=>deref a λc=>eU c 1 λt4=>iA (fL (gO .i64 (t2 - t4)))
theorem J8 (a:gL):Ab gR Tryz.f83 [(.pointer a)] =MG a:=by kernel_rfl
noncomputable def RE (a:Int):T:=iA (fL (if(if 1099511627776 <a then 1099511627776 else a) >(0:Int) then(if 1099511627776 <a then 1099511627776 else a) else 0))
theorem Ou (a:Int):Ab gR Tryz.f77 [(.int .i64 a)] =RE a:=by kernel_rfl
noncomputable def J9 (g_0:Slc×Slc×Slc×gN×Slc×Unit):T:=dZ #[sv g_0.1,sv g_0.2.1,sv g_0.2.2.1,.string g_0.2.2.2.1,sv g_0.2.2.2.2.1] 66 λr1=>iJ fS (dX r1 0 λt3=>fK ((t3.2.1:Int) >(20:Int)) (hO [.bool true]) (dX r1 1 λt4=>fK ((t4.2.1:Int) >(4:Int)) (hO [.bool true]) (dX r1 2 λt5=>fK ((t5.2.1:Int) >(10:Int)) (hO [.bool true]) (dX r1 4 λt6=>fK ((t6.2.1:Int) < 1) (hO [.bool true]) (dX r1 4 λt7=>fK ((t7.2.1:Int) >(40:Int)) (hO [.bool true]) (eO r1 3 λt8=>hZ 73 [.string t8] fR λt9=>hO [.bool (!t9)])))))) λz2=>cond z2.1 (iA (.bool false)) (iD 0 [aI,aS,aB] (iF [aI,aS,aB] [fL 0,fM,.bool false] λa=>dX r1 0 λt=>fJ a.1 t.2.1 (dX r1 0 λk=>fI k.1 k.2.1 a.1 λu=>eP u a.1 4 λv=>dZ #[.string v] 9 λw=>iP (gZ #[28,28] 28 #[sv a.2.1,.slice (some ⟨w,0,none⟩) 1 1]) fP λx=>dX r1 0 λl=>fI l.1 l.2.1 a.1 λi=>eQ i a.1 4 1 λy=>eW (((i.add (gQ a.1 *4)).add 1).add 1) λz=>eX (((i.add (gQ a.1 *4)).add 1).add 2) λA=>hZ 74 [.agg #[.string y,.string z,.bool A]] fR λB=>cond (!B) (iA (.bool false)) (hO [fL (wN a.1),sv x,.bool a.2.2.1])) (iM 0 [fL a.1,sv a.2.1,.bool a.2.2.1])) λm=>iD 2 fT (iF fT [fL 0,.bool m.2.2.1] λe=>dX r1 1 λC=>fJ e.1 C.2.1 (dX r1 1 λn=>fI n.1 n.2.1 e.1 λj=>eP j e.1 3 λD=>eQ j e.1 3 1 λE=>eY j e.1 3 2 λF=>hZ 74 [.agg #[.string D,.string E,.bool F]] fR λG=>cond (!G) (iA (.bool false)) (hO [fL (wN e.1),.bool e.2.1])) (iM 2 [fL e.1,.bool e.2.1])) λH=>iD 4 [aI,aS,aB] (iF [aI,aS,aB] [fL 0,fM,.bool H.2.1] λc=>dX r1 2 λI=>fJ c.1 I.2.1 (dX r1 2 λo=>fI o.1 o.2.1 c.1 λp=>eH p c.1 2 λJ=>eG p c.1 2 1 λK=>dZ #[fL 0,fM] 130 λg=>eM g 0 J<|eC g 1 K<|dX g 1 λL=>iP (gZ #[28,28] 28 #[sv c.2.1,sv L]) fP λM=>iJ fS (eL g 0 λN=>fK (N< 1) (hO [.bool true]) (eL g 0 λO=>fK (O>(3:Int)) (hO [.bool true]) (dX g 1 λP=>hO [.bool ((P.2.1:Int)==(0:Int))]))) λQ=>cond Q.1 (iA (.bool false)) (hO [fL (wN c.1),sv M,.bool c.2.2.1])) (iM 4 [fL c.1,sv c.2.1,.bool c.2.2.1])) λq=>iD 6 fT (iF fT [fL 0,.bool q.2.2.1] λd=>dX r1 4 λR=>fJ d.1 R.2.1 (dX r1 4 λr=>fI r.1 r.2.1 d.1 λh=>eP h d.1 4 λS=>eG h d.1 4 1 λU=>eQ h d.1 4 2 λV=>eQ h d.1 4 3 λW=>dZ #[.string {data:=#[]},fM,.string {data:=#[]},.string {data:=#[]}] 123 λb=>eI b 0 (.string S)<|eC b 1 U<|eI b 2 (.string V)<|eI b 3 (.string W)<|iJ fS (eO b 0 λX=>hZ 73 [.string X] fR λY=>cond (!Y) (hO [.bool true]) (dX b 1 λZ=>fK ((Z.2.1:Int) >(8:Int)) (hO [.bool true]) (eO b 2 λa0=>cond (!(gT a0==gT {data:=#[]})) (eO b 2 λa1=>hZ 73 [.string a1] fR λa2=>cond (!a2) (hO [.bool true]) (eO b 3 λa3=>hZ 75 [.string a3] fR λa4=>hO [.bool (!a4)])) (eO b 3 λa5=>hZ 75 [.string a5] fR λa6=>hO [.bool (!a6)])))) λa7=>cond a7.1 (iA (.bool false)) (iD 8 fT (iF fT [fL 0,.bool d.2.1] λf=>dX b 1 λa8=>fJ f.1 a8.2.1 (dX b 1 λs=>fI s.1 s.2.1 f.1 λa9=>eP a9 f.1 1 λb0=>hZ 73 [.string b0] fR λb1=>cond (!b1) (iA (.bool false)) (hO [fL (wN f.1),.bool f.2.1])) (iM 8 [fL f.1,.bool f.2.1])) λb2=>hO [fL (wN d.1),.bool b2.2.1])) (iM 6 [fL d.1,.bool d.2.1])) λb6=>iJ fS (hZ 76 [sv m.2.1] fR λb3=>cond b3 (hZ 76 [sv q.2.1] fR λb4=>hO [.bool b4]) (hO [.bool false])) λb5=>iA (.bool b5.1))
theorem IY (g_0:Slc×Slc×Slc×gN×Slc×Unit):Ab gR Tryz.f45 [(.agg #[(sv g_0.1),(sv g_0.2.1),(sv g_0.2.2.1),(.string g_0.2.2.2.1),(sv g_0.2.2.2.2.1)])] =J9 g_0:=by kernel_rfl
noncomputable def KA (c:gL) (a d:Nat) (e:gN):T:=iD 0 fU (iF fU [fL 0,fL 0] λb=>fJ b.1 a (fI c a b.1 λf=>eP f b.1 1 λt4=>cond (gT t4==gT e) (iA (fL b.1)) (hO [fL (wN b.1),fL b.2.1])) (iM 0 [fL b.1,fL b.2.1])) λg=>iA (fL (-1:Int))
theorem FI (a:gL) (b c:Nat) (d:gN):Ab gR Tryz.f46 [(.slice a b c),(.string d)] =KA a b c d:=by kernel_rfl
noncomputable def KC (g_0:Slc×Slc×Slc×gN×Slc×Unit) (a:gN):T:=dZ #[sv g_0.1,sv g_0.2.1,sv g_0.2.2.1,.string g_0.2.2.2.1,sv g_0.2.2.2.2.1] 66 λr1=>iD 0 fU (iF fU [fL 0,fL 0] λb=>dX r1 2 λt4=>fJ b.1 t4.2.1 (dX r1 2 λt5=>fI t5.1 t5.2.1 b.1 λc=>eG c b.1 2 1 λd=>hZ 46 [sv d,.string a] fQ λe=>fK (e≥ 0) (iA (fL (wN b.1))) (hO [fL (wN b.1),fL b.2.1])) (iM 0 [fL b.1,fL b.2.1])) λf=>iA (fL 0)
theorem IZ (g_0:Slc×Slc×Slc×gN×Slc×Unit) (a:gN):Ab gR Tryz.f47 [(.agg #[(sv g_0.1),(sv g_0.2.1),(sv g_0.2.2.1),(.string g_0.2.2.2.1),(sv g_0.2.2.2.2.1)]),(.string a)] =KC g_0 a:=by kernel_rfl
noncomputable def MH (p_0:Pl6) (a:gN):T:=dZ #[sv p_0.1,sv p_0.2.1,sv p_0.2.2.1,sv p_0.2.2.2.1,sv p_0.2.2.2.2.1,sv p_0.2.2.2.2.2.1] 32 λr1=>dX r1 0 λt2=>hZ 46 [sv t2,.string a] fQ λt3=>fK (t3≥ 0) (iA (fL t3)) (dX r1 1 λt4=>hZ 46 [sv t4,.string a] fQ λt5=>fK (t5≥ 0) (dX r1 0 λb=>iA (fL (gO .i64 ((b.2.1:Int)+t5)))) (iA (fL (-1:Int))))
theorem KD (p_0:Pl6) (a:gN):Ab gR Tryz.f48 [(aG p_0),(.string a)] =MH p_0 a:=by kernel_rfl
noncomputable def RF (p_0:Pl6) (a:Int):T:=dZ #[sv p_0.1,sv p_0.2.1,sv p_0.2.2.1,sv p_0.2.2.2.1,sv p_0.2.2.2.2.1,sv p_0.2.2.2.2.2.1] 32 λr1=>iJ fS (fK (a≥ 0) (dX r1 0 λt3=>hO [.bool (decide (a< (t3.2.1:Int)))]) (hO [.bool false])) λb=>iA (.bool b.1)
theorem Ov (p_0:Pl6) (a:Int):Ab gR Tryz.f80 [(aG p_0),(.int .i64 a)] =RF p_0 a:=by kernel_rfl
noncomputable def Eg (a:gL) (b c:Nat) (v_1:Int×Int×Unit):T:=dZ #[fL v_1.1,fL v_1.2.1] 73 λr1=>eL r1 0 λt2=>eL r1 1 λt3=>hZ 106 [.slice a b c,.agg #[fL t2,fL t3]] fQ λt4=>iA (.bool (decide (t4≥ 0)))
theorem Cg (a:gL) (b c:Nat) (v_1:Int×Int×Unit):Ab gR Tryz.f72 [(.slice a b c),(.agg #[(.int .i64 v_1.1),(.int .i64 v_1.2.1)])] =Eg a b c v_1:=by kernel_rfl
noncomputable def LH (s_0:gN):T:=iJ fS (fK (((gV s_0:Nat):Int) ≤(32:Int)) (hZ 107 [.string s_0] fR λt2=>hO [.bool t2]) (hO [.bool false])) λa=>iA (.bool a.1)
theorem JW (s_0:gN):Ab gR Tryz.f73 [(.string s_0)] =LH s_0:=by kernel_rfl
noncomputable def Ia (p_0:gN×gN×Bool×Unit):T:=dZ #[.string p_0.1,.string p_0.2.1,.bool p_0.2.2.1] 125 λr1=>eO r1 0 λt2=>cond (!(gT t2==gT {data:=#[]})) (iJ fS (eO r1 0 λt4=>fK (((gV t4:Nat):Int) ≤(32:Int)) (eO r1 1 λt5=>cond (gT t5==gT {data:=#[]}) (eZ r1 2 λe=>hO [.bool (!e)]) (hO [.bool false])) (hO [.bool false])) λf=>iA (.bool f.1)) (iD 0 fT (iF fT [fL 1,.bool false] λa=>eO r1 1 λg=>fK (a.1< ((gV g:Nat):Int)) (eO r1 1 λb=>chk (0≤a.1∧a.1< (gV b:Nat))<|eO r1 1 λc=>chk (0≤(gO .i64 (a.1 - 1))∧(gO .i64 (a.1 - 1)) < (gV c:Nat))<|fK (((iN (En b (gQ a.1)):Nat):Int) ≤((iN (En c (gQ (gO .i64 (a.1 - 1)))):Nat):Int)) (iA (.bool false)) (hO [fL (wN a.1),.bool a.2.1])) (iM 0 [fL a.1,.bool a.2.1])) λh=>eO r1 1 λd=>iA (.bool (!(gT d==gT {data:=#[]}))))
theorem Hc (p_0:gN×gN×Bool×Unit):Ab gR Tryz.f74 [(.agg #[(.string p_0.1),(.string p_0.2.1),(.bool p_0.2.2.1)])] =Ia p_0:=by kernel_rfl
noncomputable def JX (s_0:gN):T:=fK (((gV s_0:Nat):Int) >(200:Int)) (iA (.bool false)) (iD 0 [aI,aI,aB] (iF [aI,aI,aB] [fL 0,fL 1,.bool false] λa=>fK (a.1< ((gV s_0:Nat):Int)) (chk (0≤a.1∧a.1< (gV s_0:Nat))<|iJ fW (cond (((iN (En s_0 (gQ a.1)):Nat):Int)==(123:Int)) (hO [fL (wN a.2.1)]) (hO [fL a.2.1])) λc=>chk (0≤a.1∧a.1< (gV s_0:Nat))<|iJ fW (cond (((iN (En s_0 (gQ a.1)):Nat):Int)==(125:Int)) (hO [fL (gO .i64 (c.1 - 1))]) (hO [fL c.1])) λb=>iJ fS (fK (b.1>(4:Int)) (hO [.bool true]) (hO [.bool (b.1==(0:Int))])) λd=>cond d.1 (iA (.bool false)) (hO [fL (wN a.1),fL b.1,.bool a.2.2.1])) (iM 0 [fL a.1,fL a.2.1,.bool a.2.2.1])) λe=>iA (.bool (e.2.1==(1:Int))))
theorem Hw (s_0:gN):Ab gR Tryz.f75 [(.string s_0)] =JX s_0:=by kernel_rfl
noncomputable def LI (b:gL) (a e:Nat):T:=iD 0 fT (iF fT [fL 0,.bool false] λc=>fJ c.1 a (fI b a c.1 λh=>eP h c.1 1 λt4=>hZ 73 [.string t4] fR λt5=>cond (!t5) (iA (.bool false)) (iD 2 fT (iF fT [fL 0,.bool c.2.1] λd=>fK (d.1<c.1) (fI b a d.1 λi=>eP i d.1 1 λj=>fI b a c.1 λf=>eP f c.1 1 λg=>cond (gT j==gT g) (iA (.bool false)) (hO [fL (wN d.1),.bool d.2.1])) (iM 2 [fL d.1,.bool d.2.1])) λk=>hO [fL (wN c.1),.bool k.2.1])) (iM 0 [fL c.1,.bool c.2.1])) λl=>iA (.bool true)
theorem JY (a:gL) (b c:Nat):Ab gR Tryz.f76 [(.slice a b c)] =LI a b c:=by kernel_rfl
noncomputable def FJ (c:gL) (a d:Nat) (v_1:Int×Int×Unit):T:=dZ #[fL v_1.1,fL v_1.2.1] 73 λr1=>iD 0 fU (iF fU [fL 0,fL 0] λb=>fJ b.1 a (eL r1 0 λt4=>eL r1 1 λt5=>fI c a b.1 λe=>eH e b.1 2 λf=>eK e b.1 2 1 λg=>cond ((t4==f) && ((t5==g) && true)) (iA (fL b.1)) (hO [fL (wN b.1),fL b.2.1])) (iM 0 [fL b.1,fL b.2.1])) λh=>iA (fL (-1:Int))
theorem Cw (a:gL) (b c:Nat) (v_1:Int×Int×Unit):Ab gR Tryz.f106 [(.slice a b c),(.agg #[(.int .i64 v_1.1),(.int .i64 v_1.2.1)])] =FJ a b c v_1:=by kernel_rfl
noncomputable def LJ (s_0:gN):T:=iD 0 fT (iF fT [fL 0,.bool false] λa=>fK (a.1< ((gV s_0:Nat):Int)) (iJ fS (chk (0≤a.1∧a.1< (gV s_0:Nat))<|hZ 122 [.int .u8 ((iN (En s_0 (gQ a.1)):Nat):Int)] fR λt4=>cond (!t4) (cond (a.1==(0:Int)) (hO [.bool true]) (chk (0≤a.1∧a.1< (gV s_0:Nat))<|hZ 123 [.int .u8 ((iN (En s_0 (gQ a.1)):Nat):Int)] fR λt5=>hO [.bool (!t5)])) (hO [.bool false])) λb=>cond b.1 (iA (.bool false)) (hO [fL (wN a.1),.bool a.2.1])) (iM 0 [fL a.1,.bool a.2.1])) λc=>iA (.bool (!(gT s_0==gT {data:=#[]})))
theorem JZ (s_0:gN):Ab gR Tryz.f107 [(.string s_0)] =LJ s_0:=by kernel_rfl
noncomputable def Ja (a:Int):T:=iJ fS (cond (a==(95:Int)) (hO [.bool true]) (fK (a≥ 97) (fK (a≤(122:Int)) (hO [.bool true]) (fK (a≥ 65) (hO [.bool (decide (a≤(90:Int)))]) (hO [.bool false]))) (fK (a≥ 65) (hO [.bool (decide (a≤(90:Int)))]) (hO [.bool false])))) λb=>iA (.bool b.1)
theorem Hx (a:Int):Ab gR Tryz.f122 [(.int .u8 a)] =Ja a:=by kernel_rfl
noncomputable def KE (a:Int):T:=iJ fS (fK (a≥ 48) (hO [.bool (decide (a≤(57:Int)))]) (hO [.bool false])) λb=>iA (.bool b.1)
theorem Ib (a:Int):Ab gR Tryz.f123 [(.int .u8 a)] =KE a:=by kernel_rfl
noncomputable def NZ (s_0:gL) (a:Int):T:=iJ fS (hZ 116 [fN s_0,fL a] fR λt2=>cond (!t2) (hO [.bool true]) (hZ 117 [fN s_0,fL a] fR λt3=>hO [.bool t3])) λb=>cond b.1 (iA (.bool false)) (deref s_0 λc=>eF c 1 λt5=>chk ((64:Int)≠0)<|deref t5.1 λd=>chk (0≤(gO .i64 (iW a 64))∧(gO .i64 (iW a 64)) < (t5.2.1:Nat))<|iO (.int .u64) (d.add (gQ (gO .i64 (iW a 64)) *1)) λe=>chk ((64:Int)≠0)<|chk (0≤(gP a 64))<|deref t5.1 λf=>chk (0≤(gO .i64 (iW a 64))∧(gO .i64 (iW a 64)) < (t5.2.1:Nat))<|jD (f.add (gQ (gO .i64 (iW a 64)) *1)) (.int .u64 (gO .u64 (iQ (iC (gX .u64) e ||| (iC (gX .u64) (gO .u64 (1 *2 ^ (min (gQ (gP a 64)) (gX .u64)))))):Nat)))<|iA (.bool true))
theorem MI (s_0:gL) (a:Int):Ab gR Tryz.f88 [(.pointer s_0),(.int .i64 a)] =NZ s_0 a:=by kernel_rfl
noncomputable def HH (s_0:gL):T:=hZ 71 [fN s_0] (.one (.atom .func)) λt1=>hZ 70 [nZ .func t1] fP λt2=>iA (sv t2)
theorem LK (s_0:gL):Ab gR Tryz.f39 [(.pointer s_0)] =HH s_0:=by kernel_rfl
noncomputable def HI (s_0:gL):T:=deref s_0 λb=>eF b 1 λt2=>hZ 103 [sv t2] fP λt3=>dZ #[fM] 195 λa=>eC a 0 t3<|iA (.func (.func 104) #[] #[fN (fH a)])
theorem LL (s_0:gL):Ab gR Tryz.f71 [(.pointer s_0)] =HI s_0:=by kernel_rfl
noncomputable def RG (a:Int):T:=chk ((64:Int)≠0)<|iP (nX 195 (fL (gO .i64 (iW (gO .i64 ((gO .i64 ((if(if 1000 <a then 1000 else a) >(0:Int) then(if 1000 <a then 1000 else a) else 0)+(64:Int))) - 1)) 64))) (fL (gO .i64 (iW (gO .i64 ((gO .i64 ((if(if 1000 <a then 1000 else a) >(0:Int) then(if 1000 <a then 1000 else a) else 0)+(64:Int))) - 1)) 64)))) fP λt1=>dZ #[fL (if(if 1000 <a then 1000 else a) >(0:Int) then(if 1000 <a then 1000 else a) else 0),sv t1] 199 λb=>iA (fN (fH b))
theorem Ow (a:Int):Ab gR Tryz.f93 [(.int .i64 a)] =RG a:=by kernel_rfl
noncomputable def SI (d:Int) (b:gL) (a e:Nat):T:=hZ 93 [fL d] fO λt1=>iD 0 fW (iF fW [fL 0] λc=>fJ c.1 a (fI b a c.1 λf=>eH f c.1 1 λt5=>hZ 88 [fN t1,fL t5] fR λg=>hO [fL (wN c.1)]) (iM 0 [fL c.1])) λh=>iA (fN t1)
theorem P3 (d:Int) (a:gL) (b c:Nat):Ab gR Tryz.f95 [(.int .i64 d),(.slice a b c)] =SI d a b c:=by kernel_rfl
noncomputable def MJ (s_0:gL):T:=deref s_0 λa=>eV a λt2=>iA (fL t2)
theorem KF (s_0:gL):Ab gR Tryz.f96 [(.pointer s_0)] =MJ s_0:=by kernel_rfl
noncomputable def Ml (s_0:gL):T:=deref s_0 λa=>eV a λt2=>deref s_0 λb=>eF b 1 λt4=>hZ 103 [sv t4] fP λt5=>iX a (fL t2)<|dZ #[fL t2,sv t5] 199 λc=>iA (fN (fH c))
theorem LM (s_0:gL):Ab gR Tryz.f100 [(.pointer s_0)] =Ml s_0:=by kernel_rfl
noncomputable def ON (s_0:gL) (a:Int):T:=iJ fS (fK (a≥ 0) (deref s_0 λb=>eV b λt3=>hO [.bool (decide (a<t3))]) (hO [.bool false])) λc=>iA (.bool c.1)
theorem Mm (s_0:gL) (a:Int):Ab gR Tryz.f116 [(.pointer s_0),(.int .i64 a)] =ON s_0 a:=by kernel_rfl
noncomputable def Na (s_0:gL) (a:Int):T:=iJ fS (hZ 116 [fN s_0,fL a] fR λt2=>cond t2 (deref s_0 λb=>eF b 1 λt4=>chk ((64:Int)≠0)<|deref t4.1 λc=>chk (0≤(gO .i64 (iW a 64))∧(gO .i64 (iW a 64)) < (t4.2.1:Nat))<|iO (.int .u64) (c.add (gQ (gO .i64 (iW a 64)) *1)) λd=>chk ((64:Int)≠0)<|chk (0≤(gP a 64))<|hO [.bool ((gO .u64 (iQ (iC (gX .u64) (jX d (2 ^ (min (gQ (gP a 64)) (gX .u64)))) &&& (iC (gX .u64) 1)):Nat))==(1:Int))]) (hO [.bool false])) λe=>iA (.bool e.1)
theorem MK (s_0:gL) (a:Int):Ab gR Tryz.f117 [(.pointer s_0),(.int .i64 a)] =Na s_0 a:=by kernel_rfl
noncomputable def FK (a:gL) (b c:Nat):T:=cond (lG a) (iA fM) (dZ #[] 3 λr1=>iP (gZ #[30,30] 30 #[.slice (fH r1) 0 0,.slice a b c]) fP λt2=>iA (sv t2))
theorem Hd (a:gL) (b c:Nat):Ab gR Tryz.f121 [(.slice a b c)] =FK a b c:=by kernel_rfl
noncomputable def Di (a:gL) (b c:Nat):T:=cond (lG a) (iA fM) (dZ #[] 197 λr1=>iP (gZ #[195,195] 195 #[.slice (fH r1) 0 0,.slice a b c]) fP λt2=>iA (sv t2))
theorem Fg (a:gL) (b c:Nat):Ab gR Tryz.f103 [(.slice a b c)] =Di a b c:=by kernel_rfl
noncomputable def JL (d:gL) (e f:Nat) (b:gL) (a k:Nat):T:=iD 0 fU (iF fU [fL 0,fL 0] λg=>cond (decide (g.1< ((a:Nat):Int))) (deref b λB=>chk (0≤g.1∧g.1< (a:Nat))<|fA B g.1 1 λt4=>hZ 96 [fN t4] fQ λt5=>hO [fL (wN g.1),fL (if t5>g.2.1 then t5 else g.2.1)]) (iM 0 [fL g.1,fL g.2.1])) λC=>dZ #[fM] 153 λh=>iD 2 fW (iF fW [fL 0] λl=>cond (decide (l.1< ((a:Nat):Int))) (deref b λD=>chk (0≤l.1∧l.1< (a:Nat))<|fA D l.1 1 λo=>dX h 0 λi=>hZ 39 [fN o] fP λp=>eR h 0 i<|hZ 95 [fL C.2.1,sv p] fO λq=>eR h 0 i<|dZ #[fN q] 111 λr=>eR h 0 i<|iP (gZ #[153,153] 153 #[sv i,.slice (fH r) 1 1]) fP λs=>eC h 0 s<|hO [fL (wN l.1)]) (iM 2 [fL l.1])) λF=>hZ 98 [.slice d e f,fL ((a:Nat):Int),.func (.func 97) #[] #[fN (fH h)],.func (.func 99) #[] #[fN (fH h)]] (.tuple []) λE=>iD 4 fV (iF fV [fL 0,fM] λc=>cond (decide (c.1< ((a:Nat):Int))) (deref b λt=>chk (0≤c.1∧c.1< (a:Nat))<|fA t c.1 1 λu=>dX h 0 λj=>deref j.1 λm=>chk (0≤c.1∧c.1< (j.2.1:Nat))<|fA m c.1 1 λn=>hZ 96 [fN u] fQ λv=>iX (m.add (gQ c.1 *1)) (fN n)<|eR h 0 j<|hZ 39 [fN n] fP λw=>hZ 95 [fL v,sv w] fO λx=>dZ #[fN x] 111 λy=>iP (gZ #[153,153] 153 #[sv c.2.1,.slice (fH y) 1 1]) fP λz=>hO [fL (wN c.1),sv z]) (iM 4 [fL c.1,sv c.2.1])) λA=>iA (sv A.2.1)
theorem Mn (a:gL) (b c:Nat) (d:gL) (e f:Nat):Ab gR Tryz.f67 [(.slice a b c),(.slice d e f)] =JL a b c d e f:=by kernel_rfl
noncomputable def Dv (a:Int):T:=cond (a==(0:Int)) (iA (fL 64)) (chk (0≤(58:Int))<|chk (0≤(jX (gO .u64 ((gO .u64 (iQ (iC (gX .u64) a &&& (iC (gX .u64) (gO .u64 (0 - a)))):Nat)) *285870213051353865)) (2 ^ (min (gQ 58) (gX .u64))))∧(jX (gO .u64 ((gO .u64 (iQ (iC (gX .u64) a &&& (iC (gX .u64) (gO .u64 (0 - a)))):Nat)) *285870213051353865)) (2 ^ (min (gQ 58) (gX .u64)))) < (64:Nat))<|fB ((⟨0,0,none⟩:Addr).add (gQ (jX (gO .u64 ((gO .u64 (iQ (iC (gX .u64) a &&& (iC (gX .u64) (gO .u64 (0 - a)))):Nat)) *285870213051353865)) (2 ^ (min (gQ 58) (gX .u64)))) *1)) λt1=>iA (fL (gO .i64 t1)))
theorem F0 (a:Int):Ab gR Tryz.f105 [(.int .u64 a)] =Dv a:=by kernel_rfl
noncomputable def HJ (a:Int) (b:Int) (c:Nat):T:=dX c 0 λt1=>deref t1.1 λd=>chk (0≤a∧a< (t1.2.1:Nat))<|fA d a 1 λt3=>dX c 0 λt4=>deref t4.1 λe=>chk (0≤b∧b< (t4.2.1:Nat))<|fA e b 1 λf=>hZ 94 [fN t3,fN f] fR λg=>iA (.tuple #[])
theorem LN (a:Int) (b:Int) (c:Nat):Ab gR Tryz.f97 [(.int .i64 a),(.int .i64 b),(.pointer (fH c))] =HJ a b c:=by kernel_rfl
noncomputable def HL (b:gL) (a c:Nat) (e:Nat):T:=chk (0≤(1:Int)∧(1:Int) ≤((a:Nat):Int)∧((a:Nat):Int) ≤(c:Nat))<|iD 0 fW (iF fW [fL 0] λi=>cond (decide (i.1< (((gQ ((a:Nat):Int) - gQ 1):Nat):Int))) (deref (if c=gQ 1 then b else lV (λx=>mM x (gQ 1 *1)) b) λu=>chk (0≤i.1∧i.1< ((gQ ((a:Nat):Int) - gQ 1):Nat))<|eH u i.1 1 λt4=>dX e 0 λt5=>deref b λv=>chk (0≤(0:Int)∧(0:Int) < (a:Nat))<|eH v 0 1 λl=>deref t5.1 λw=>chk (0≤l∧l< (t5.2.1:Nat))<|fA w l 1 λy=>dX e 0 λj=>deref j.1 λm=>chk (0≤t4∧t4< (j.2.1:Nat))<|fA m t4 1 λn=>hZ 94 [fN y,fN n] fR λz=>hO [fL (wN i.1)]) (iM 0 [fL i.1])) λB=>chk (0≤(1:Int)∧(1:Int) ≤((a:Nat):Int)∧((a:Nat):Int) ≤(c:Nat))<|iD 2 fW (iF fW [fL 0] λd=>cond (decide (d.1< (((gQ ((a:Nat):Int) - gQ 1):Nat):Int))) (deref (if c=gQ 1 then b else lV (λx=>mM x (gQ 1 *1)) b) λo=>chk (0≤d.1∧d.1< ((gQ ((a:Nat):Int) - gQ 1):Nat))<|eH o d.1 1 λf=>dX e 0 λg=>dX e 0 λk=>deref b λp=>chk (0≤(0:Int)∧(0:Int) < (a:Nat))<|eH p 0 1 λh=>deref k.1 λq=>chk (0≤h∧h< (k.2.1:Nat))<|fA q h 1 λr=>hZ 100 [fN r] fO λs=>eR e 0 g<|deref g.1 λt=>chk (0≤f∧f< (g.2.1:Nat))<|jD (t.add (gQ f *1)) (fN s)<|hO [fL (wN d.1)]) (iM 2 [fL d.1])) λA=>iA (.tuple #[])
theorem LO (a:gL) (b c:Nat) (d:Nat):Ab gR Tryz.f99 [(.slice a b c),(.pointer (fH d))] =HL a b c d:=by kernel_rfl
noncomputable def Nb (a:gL) (b c:Nat) (h:Int) (e:Nat) (f:Nat):T:=dZ #[.slice a b c] 102 λr1=>dZ #[fL h] 3 λi=>dZ #[.func (.func 97) #[] #[fN (fH e)]] 188 λr3=>dZ #[.func (.func 99) #[] #[fN (fH f)]] 174 λp=>eL i 0 λt5=>iP (nX 30 (fL t5) (fL t5)) fP λq=>dZ #[fM] 30 λj=>eC j 0 q<|dZ #[fM] 30 λr=>dZ #[.nilFunc] 210 λk=>eI k 0 (.func (.func 119) #[] #[fN (fH r),fN (fH j),fN (fH r1),fN (fH i),fN (fH k),fN (fH r3),fN (fH p)])<|eL i 0 λl=>iD 0 fW (iF fW [fL 0] λd=>fK (d.1<l) (dX j 0 λg=>fI g.1 g.2.1 d.1 λm=>eH m d.1 1 λn=>iJ [] (cond (n==(0:Int)) (iO .func ⟨k,0,none⟩ λo=>Ju false gR (nZ .func o) #[fL d.1] λs=>hO []) (hO [])) λt=>hO [fL (wN d.1)]) (iM 0 [fL d.1])) λu=>iA (.tuple #[])
theorem ML (a:gL) (b c:Nat) (f:Int) (d:Nat) (e:Nat):Ab gR Tryz.f98 [(.slice a b c),(.int .i64 f),(.func (.func 97) #[] #[(.pointer (fH d))]),(.func (.func 99) #[] #[(.pointer (fH e))])] =Nb a b c f d e:=by kernel_rfl
noncomputable def Hy (a:Int) (e:Nat) (d:Nat) (s:Nat) (t:Nat) (u:Nat) (v:Nat) (w:Nat):T:=dX e 0 λt1=>dZ #[fL a] 3 λM=>iP (gZ #[30,30] 30 #[sv t1,.slice (fH M) 1 1]) fP λt3=>eC e 0 t3<|dX e 0 λt4=>dX d 0 λt5=>deref t5.1 λN=>chk (0≤a∧a< (t5.2.1:Nat))<|jD (N.add (gQ a *1)) (fL (t4.2.1:Int))<|dX s 0 λO=>eL t 0 λP=>hZ 120 [sv O,fL a,fL P] fP λy=>iD 0 fW (iF fW [fL 0] λf=>cond (decide (f.1< (y.2.1:Int))) (deref y.1 λz=>chk (0≤f.1∧f.1< (y.2.1:Nat))<|eH z f.1 1 λb=>dX d 0 λk=>deref k.1 λA=>chk (0≤b∧b< (k.2.1:Nat))<|eH A b 1 λB=>iJ [] (cond (B==(0:Int)) (iO .func ⟨u,0,none⟩ λC=>Ju false gR (nZ .func C) #[fL b] λQ=>hO []) (hO [])) λR=>dX d 0 λl=>dX d 0 λm=>deref m.1 λD=>chk (0≤a∧a< (m.2.1:Nat))<|eH D a 1 λn=>dX d 0 λo=>deref o.1 λE=>chk (0≤b∧b< (o.2.1:Nat))<|eH E b 1 λp=>deref l.1 λF=>chk (0≤a∧a< (l.2.1:Nat))<|jD (F.add (gQ a *1)) (fL (if p<n then p else n))<|iO .func ⟨v,0,none⟩ λG=>Ju false gR (nZ .func G) #[fL a,fL b] λS=>hO [fL (wN f.1)]) (iM 0 [fL f.1])) λU=>dX d 0 λq=>deref q.1 λH=>chk (0≤a∧a< (q.2.1:Nat))<|eH H a 1 λI=>cond (I !=(t4.2.1:Int)) (iA (.tuple #[])) (dX e 0 λc=>chk (0≤(gO .i64 ((t4.2.1:Int) - 1))∧(gO .i64 ((t4.2.1:Int) - 1)) ≤(c.2.1:Int)∧(c.2.1:Int) ≤(c.2.2:Nat))<|hZ 121 [.slice (if c.2.2=gQ (gO .i64 ((t4.2.1:Int) - 1)) then c.1 else lV (λx=>mM x (gQ (gO .i64 ((t4.2.1:Int) - 1)) *1)) c.1) (gQ (c.2.1:Int) - gQ (gO .i64 ((t4.2.1:Int) - 1))) (c.2.2 - gQ (gO .i64 ((t4.2.1:Int) - 1)))] fP λi=>dX e 0 λh=>chk (0≤(0:Int)∧(0:Int) ≤(gO .i64 ((t4.2.1:Int) - 1))∧(gO .i64 ((t4.2.1:Int) - 1)) ≤(h.2.2:Nat))<|eI e 0 (.slice (if h.2.2=gQ 0 then h.1 else lV (λx=>mM x (gQ 0 *1)) h.1) (gQ (gO .i64 ((t4.2.1:Int) - 1)) - gQ 0) (h.2.2 - gQ 0))<|iD 2 fW (iF fW [fL 0] λg=>cond (decide (g.1< (i.2.1:Int))) (deref i.1 λJ=>chk (0≤g.1∧g.1< (i.2.1:Nat))<|eH J g.1 1 λj=>dX d 0 λr=>deref r.1 λK=>chk (0≤j∧j< (r.2.1:Nat))<|jD (K.add (gQ j *1)) (fL 9223372036854775807)<|hO [fL (wN g.1)]) (iM 2 [fL g.1])) λV=>iO .func ⟨w,0,none⟩ λL=>Ju false gR (nZ .func L) #[sv i] λW=>iA (.tuple #[]))
theorem MM (a:Int) (b:Nat) (c:Nat) (d:Nat) (e:Nat) (f:Nat) (g:Nat) (h:Nat):Ab gR Tryz.f119 [(.int .i64 a),(.pointer (fH b)),(.pointer (fH c)),(.pointer (fH d)),(.pointer (fH e)),(.pointer (fH f)),(.pointer (fH g)),(.pointer (fH h))] =Hy a b c d e f g h:=by kernel_rfl
noncomputable def KG (b:gL) (a d:Nat) (c:Int) (e:Int):T:=dZ #[fL e] 3 λr1=>cond (decide (c≥ ((a:Nat):Int))) (iA fM) (deref b λf=>chk (0≤c∧c< (a:Nat))<|dY f c 1 λt3=>hZ 121 [sv t3] fP λt4=>hZ 145 [sv t4,.func (.func 146) #[] #[fN (fH r1)]] fP λt5=>iA (sv t5))
theorem Nc (a:gL) (b c:Nat) (d:Int) (e:Int):Ab gR Tryz.f120 [(.slice a b c),(.int .i64 d),(.int .i64 e)] =KG a b c d e:=by kernel_rfl
end Go.Proofs.YtkfgeafgfeppfaaGreatDoor

namespace Go.Proofs.YtkfgeafgfeppfaaGreatDoor
open Go Go.Eng
theorem mixed:Tryz.prog.follows .mixedOrders=true:=by kernel_rfl
section
variable {φ:AD}{h:AE}{F:List Chk}
abbrev Rq0:=mN (jU gW) (mN (jF 9 gW) (mN (jU gW) (jU gW)))
abbrev Rq1:=mN (jU (hQ .i64)) (mN (jF 3 (hQ .i64)) (jU (hQ .i64)))
abbrev Wq0 (r:Nat) (s:Int×Int×Slc×Slc×Slc×Slc×Slc×Unit):Chk:=cW 25 r [.int .u8 s.1,.int .u8 s.2.1,sv s.2.2.1,sv s.2.2.2.1,sv s.2.2.2.2.1,sv s.2.2.2.2.2.1,sv s.2.2.2.2.2.2.1]
abbrev Wq1 (r:Nat) (s:Slc×Slc×Slc×gN×Slc×Unit):Chk:=cW 66 r [sv s.1,sv s.2.1,sv s.2.2.1,.string s.2.2.2.1,sv s.2.2.2.2.1]
abbrev Wq2 (r:Nat) (s:Pl6):Chk:=cW 32 r [sv s.1,sv s.2.1,sv s.2.2.1,sv s.2.2.2.1,sv s.2.2.2.2.1,sv s.2.2.2.2.2.1]
abbrev Wq3 (r:Nat) (s:gN×gN×Bool×Unit):Chk:=cW 125 r [.string s.1,.string s.2.1,.bool s.2.2.1]
abbrev Wq4 (r:Nat):Chk:=cW 66 r [.slice none 0 0,.slice none 0 0,.slice none 0 0,.string ({data:=#[]}),.slice none 0 0]
abbrev Wq5 (r:Nat):Chk:=cW 32 r [.slice none 0 0,.slice none 0 0,.slice none 0 0,.slice none 0 0,.slice none 0 0,.slice none 0 0]
abbrev Wq6 (r:Nat):Chk:=cW 118 r [.slice none 0 0,.slice none 0 0,.slice none 0 0,.int .i64 (0:Int),.int .i64 (0:Int)]
abbrev Wq7 (r:Nat) (s:Slc×Slc×Slc×Int×Unit):Chk:=cW 104 r [sv s.1,sv s.2.1,sv s.2.2.1,.int .i64 s.2.2.2.1]
abbrev Wq8 (r:Nat) (s:Int×Int×Int×Unit):Chk:=cW 85 r [.int .i64 s.1,.int .i64 s.2.1,.int .i64 s.2.2.1]
noncomputable def CY (s_0:NT) (a:Int) (b:Int):Option Bool:=
 (cond (decide ((s_0.2.2.1.length:Int) >a))
 (some true)
 (some (decide ((s_0.2.2.2.2.2.1.length:Int) >5)))).bind λg=>
 cond g
 (some false)
 ((DE (σ:=Unit) (β:=Bool) 0 (s_0.2.2.2.1.length:Int) () λc h=>
  (idx s_0.2.2.2.1 c).bind λe=>
  cond (decide ((e.length:Int) >b))
  (some (iR false))
  (some (iT ()))).bind λd=>match d with
  |.next i=>
   some true
  |.done f=>some f)
theorem Gk {s_0:Int×Int×Slc×Slc×Slc×Slc×Slc×Unit}{e:gM}{f:List gM}{k:gM}{i:gM}{l:gM}{A:Int}{B:Int}(s:Ro.SliceIs (hQ .u8) φ s_0.2.2.1 e) (m:Ro.SliceIs (oA (hQ .u8)) φ s_0.2.2.2.1 f) (al:Ro.SliceIs (hQ .u8) φ s_0.2.2.2.2.1 k) (t:Ro.SliceIs (hQ .u8) φ s_0.2.2.2.2.2.1 i) (ap:Ro.SliceIs (hQ .u8) φ s_0.2.2.2.2.2.2.1 l) (D:St φ (F) h) {r:Bool}(hd:CY (s_0.1,s_0.2.1,e,f,k,i,l) A B=some r):
 CallsH gR 5 [(.agg #[(.int .u8 s_0.1),(.int .u8 s_0.2.1),(sv s_0.2.2.1),(sv s_0.2.2.2.1),(sv s_0.2.2.2.2.1),(sv s_0.2.2.2.2.2.1),(sv s_0.2.2.2.2.2.2.1)]),(.int .i64 A),(.int .i64 B)] h (Ap λv h'=>∃ψ:AD,∃y:Bool,Sub φ ψ∧v=fR.val y∧y=r∧St ψ (F) h'):=by
 refine AY mixed Tryz.func5 (Gj ..) ?_;have u:s_0.2.2.1.2.1=iB e:=s.length;have n:s_0.2.2.2.1.2.1=iB f:=m.length;have w:s_0.2.2.2.2.2.1.2.1=iB i:=t.length;refine AV (vs:=[.int .u8 s_0.1,.int .u8 s_0.2.1,sv s_0.2.2.1,sv s_0.2.2.2.1,sv s_0.2.2.2.2.1,sv s_0.2.2.2.2.2.1,sv s_0.2.2.2.2.2.2.1]) D λr1 ax d=> ?_;have⟨x,b,hd⟩:=bS hd;refine Aa (λy w_ g=>∃ψ:AD,Sub φ ψ∧y.1=g∧St ψ (Wq0 r1 s_0::F) w_) (g:=x) ?_ ?_
 ·refine AA d rfl<|AH b (by rw[u] <;>rfl) (λ_ b=> ?_) (λ_ b=> ?_)
  ·obtain rfl:=iS b;exact AO (true,()) rfl ⟨φ,sb,rfl,d⟩
  refine AA d rfl ?_;obtain rfl:=iS b;exact AO ((decide ((s_0.2.2.2.2.2.1.2.1:Int) >(5:Int))),()) rfl ⟨φ,sb,(by rw[w]),d⟩
 rintro O P ⟨j,Q,rfl,o⟩;refine AH hd rfl (λ_ hd=> ?_) (λ_ hd=> ?_)
 ·obtain rfl:=iS hd;exact AC ⟨j,false,sb,rfl,rfl,o.tail⟩
 have⟨R,z,hd⟩:=bS hd;refine BZ z (λa0 y w_ g=>∃ψ:AD,Sub j ψ∧y.1=a0∧()=g∧St ψ (Wq0 r1 s_0::F) w_) ((0:Int),false,()) rfl ⟨j,sb,rfl,rfl,o⟩ ?_ ?_ ?_
 ·rintro _ C S _ _ ⟨p,T,rfl,rfl,c⟩ a U E G H;refine AA c rfl<|Ac (dT n E)<|AA c rfl<|gxS m a c λV W I a=> ?_;have J:=I.length;refine AH a (by rw[J] <;>rfl) (λ_ a=> ?_) (λ_ a=> ?_)
  ·obtain rfl:=iS a;obtain rfl:=H _ rfl;obtain rfl:=iS hd;exact Aj (Al (AC ⟨p,false,sb,rfl,rfl,c.tail⟩))
  obtain rfl:=iS a;exact AZ ((wN C.1),C.2.1,()) _ rfl rfl ⟨p,sb,G,rfl,c⟩
 ·rintro _ C X _ ⟨K,Y,rfl,rfl,q⟩ L M;subst M;refine AA q rfl<|AU (dF n L)<|AI (AL (C.1,C.2.1,()) rfl ⟨_,rfl,_,K,sb,rfl,rfl,q⟩)
 rintro Z ba ⟨_,rfl,_,N,bb,_,rfl,ad⟩;obtain rfl:=iS hd;exact AC ⟨N,true,sb,rfl,rfl,ad.tail⟩
noncomputable def Ic (a:Int):Option Int:=some (if(if 1099511627776 <a then 1099511627776 else a) >0 then(if 1099511627776 <a then 1099511627776 else a) else 0)
theorem Ox {a:Int}(b:St φ (F) h) {r:Int}(hd:Ic a=some r):
 CallsH gR 77 [(.int .i64 a)] h (Ap λv h'=>∃ψ:AD,∃y:Int,Sub φ ψ∧v=fQ.val y∧y=r∧St ψ (F) h'):=by
 refine AY mixed Tryz.func77 (Ou ..) ?_;obtain rfl:=iS hd;exact AC ⟨φ,(if(if(1099511627776:Int) <a then(1099511627776:Int) else a) >(0:Int) then(if(1099511627776:Int) <a then(1099511627776:Int) else a) else(0:Int)),sb,rfl,rfl,b⟩
noncomputable def F3 (a:Int):Option Cu:=(Ic a).bind λt1=>some (t1,0,0)
theorem Lp {l:Int}(m:St φ (F) h) {r:Cu}(hd:F3 l=some r):
 CallsH gR 54 [(.int .i64 l)] h (Ap λv h'=>∃ψ:AD,∃y:gL,∃a:Cu,Sub φ ψ∧v=fO.val y∧a=r∧St ψ (cO 167 (jU Fz) y a::F) h'):=by
 refine AY mixed Tryz.func54 (P2 ..) ?_;have⟨g,b,hd⟩:=bS hd;refine AK (Ox m b) ?_;rintro _ i ⟨c,t1,j,rfl,rfl,d⟩;refine⟨t1,rfl,?_⟩;refine AV (vs:=[.int .i64 t1,.int .i64 (0:Int),.int .i64 (0:Int)]) d λn k e=> ?_;have f:=lL (r:=Fz) (x:=(t1,(0:Int),(0:Int))) e ⟨[_],_,rfl,rfl,⟨[_],_,rfl,rfl,rfl⟩⟩;obtain rfl:=iS hd;exact AC ⟨c,(fH n),(t1,(0:Int),(0:Int)),sb,rfl,rfl,f⟩
noncomputable def Eu (a:Cu):Option Int:=some (gO .i64 ((a.1) - (a.2.1)))
theorem KH {g:gL}{a:Cu}(i:St φ (cO 167 (jU Fz) g a::F) h) {r:Int}(hd:Eu a=some r):
 CallsH gR 83 [(.pointer g)] h (Ap λv h'=>∃ψ:AD,∃y:Int,Sub φ ψ∧v=fQ.val y∧y=r∧St ψ (cO 167 (jU Fz) g a::F) h'):=by
 refine AY mixed Tryz.func83 (J8 ..) ?_;obtain⟨e,f,c,⟨_,_,rfl,rfl,_,_,rfl,rfl,rfl⟩,b⟩:=nY i;subst c;refine AF _ rfl<|AA (x:=(a.1)) b rfl<|AF _ rfl<|AA (x:=(a.2.1)) b rfl ?_;have d:=lL (r:=Fz) (x:=((a.1),(a.2.1),(a.2.2))) b ⟨[_],_,rfl,rfl,⟨[_],_,rfl,rfl,rfl⟩⟩;obtain rfl:=iS hd;exact AC ⟨φ,(gO .i64 ((a.1) - (a.2.1))),sb,rfl,rfl,d⟩
noncomputable def Cx (a:Cu) (b:Int):Option (Int×Cu):=cond (decide (b< 0)) (some (1,a)) ((Eu a).bind λt1=>cond (decide (b>t1)) (some (5,a)) (some (0,((a.1),(gO .i64 ((a.2.1)+b)),(if(gO .i64 ((a.2.1)+b)) >(a.2.2) then(gO .i64 ((a.2.1)+b)) else(a.2.2))))))
theorem F4 {u:gL}{a:Cu}{t:Int}(w:St φ (cO 167 (jU Fz) u a::F) h) {r:(Int×Cu)}(hd:Cx a t=some r):
 CallsH gR 58 [(.pointer u),(.int .i64 t)] h (Ap λv h'=>∃ψ:AD,∃y:Int,∃c:Cu,Sub φ ψ∧v=fQ.val y∧(y,c)=r∧St ψ (cO 167 (jU Fz) u c::F) h'):=by
 refine AY mixed Tryz.func58 (J6 ..)<|AH hd rfl (λ_ hd=> ?_) (λ_ hd=> ?_)
 ·obtain rfl:=iS hd;exact AC ⟨φ,(1:Int),a,sb,rfl,rfl,w⟩
 have⟨l,g,hd⟩:=bS hd;refine AK (KH w g) ?_;rintro _ m ⟨d,t1,n,rfl,rfl,e⟩;refine⟨t1,rfl,?_⟩;refine AH hd rfl (λ_ hd=> ?_) (λ_ hd=> ?_)
 ·obtain rfl:=iS hd;exact AC ⟨d,(5:Int),a,sb,rfl,rfl,e⟩
 obtain⟨o,p,i,⟨_,_,rfl,rfl,_,_,rfl,rfl,rfl⟩,f⟩:=nY e;subst i;refine AF _ rfl<|AA (x:=(a.2.1)) f rfl<|AF _ rfl<|AQ f rfl rfl λq b=>AF _ rfl<|AA (x:=(a.2.2)) b rfl<|AF _ rfl<|AA (x:=(gO .i64 ((a.2.1)+t))) b rfl<|AF _ rfl<|AQ b rfl rfl λs j=> ?_;have k:=lL (r:=Fz) (x:=((a.1),(gO .i64 ((a.2.1)+t)),(if(gO .i64 ((a.2.1)+t)) >(a.2.2) then(gO .i64 ((a.2.1)+t)) else(a.2.2)))) j ⟨[_],_,rfl,rfl,⟨[_],_,rfl,rfl,rfl⟩⟩;obtain rfl:=iS hd;exact AC ⟨d,(0:Int),((a.1),(gO .i64 ((a.2.1)+t)),(if(gO .i64 ((a.2.1)+t)) >(a.2.2) then(gO .i64 ((a.2.1)+t)) else(a.2.2))),sb,rfl,rfl,k⟩
noncomputable def Ev (a:Cu):Option Int:=some (a.2.1)
theorem KI {g:gL}{a:Cu}(i:St φ (cO 167 (jU Fz) g a::F) h) {r:Int}(hd:Ev a=some r):
 CallsH gR 61 [(.pointer g)] h (Ap λv h'=>∃ψ:AD,∃y:Int,Sub φ ψ∧v=fQ.val y∧y=r∧St ψ (cO 167 (jU Fz) g a::F) h'):=by
 refine AY mixed Tryz.func61 (J7 ..) ?_;obtain⟨e,f,c,⟨_,_,rfl,rfl,_,_,rfl,rfl,rfl⟩,b⟩:=nY i;subst c;refine AF _ rfl<|AA (x:=(a.2.1)) b rfl ?_;have d:=lL (r:=Fz) (x:=((a.1),(a.2.1),(a.2.2))) b ⟨[_],_,rfl,rfl,⟨[_],_,rfl,rfl,rfl⟩⟩;obtain rfl:=iS hd;exact AC ⟨φ,(a.2.1),sb,rfl,rfl,d⟩
noncomputable def BC (b:List gN) (d:gN):Option Int:=
 (DE (σ:=Unit) (β:=Int) 0 (b.length:Int) () λa g=>
  (idx b a).bind λe=>
  cond (gT e==gT d)
  (some (iR a))
  (some (iT ()))).bind λc=>match c with
 |.next h=>
  some (-1:Int)
 |.done f=>some f
theorem G7 {A:Slc}{b:List gN}{C:gN}(d:Ro.SliceIs gW φ A b) (D:St φ (F) h) {r:Int}(hd:BC b C=some r):
 CallsH gR 46 [(sv A),(.string C)] h (Ap λv h'=>∃ψ:AD,∃y:Int,Sub φ ψ∧v=fQ.val y∧y=r∧St ψ (F) h'):=by
 refine AY mixed Tryz.func46 (FI ..) ?_;have e:A.2.1=iB b:=d.length;have⟨u,i,hd⟩:=bS hd;refine BZ i (λj y w_ g=>∃ψ:AD,Sub φ ψ∧y.1=j∧()=g∧St ψ (F) w_) ((0:Int),(0:Int),()) rfl ⟨φ,sb,rfl,rfl,D⟩ ?_ ?_ ?_
 ·rintro _ B w _ _ ⟨f,x,rfl,rfl,c⟩ a z k l m;refine Ac (dT e k)<|gx d a c λa0 a=>AH a rfl (λ_ a=> ?_) (λ_ a=> ?_)
  ·obtain rfl:=iS a;obtain rfl:=m _ rfl;obtain rfl:=iS hd;exact Aj (Al (AC ⟨f,B.1,sb,rfl,rfl,c⟩))
  obtain rfl:=iS a;exact AZ ((wN B.1),B.2.1,()) _ rfl rfl ⟨f,sb,l,rfl,c⟩
 ·rintro _ B E _ ⟨n,G,rfl,rfl,o⟩ p q;subst q;refine AU (dF e p)<|AI (AL (B.1,B.2.1,()) rfl ⟨_,rfl,_,n,sb,rfl,rfl,o⟩)
 rintro H I ⟨_,rfl,_,s,J,_,rfl,t⟩;obtain rfl:=iS hd;exact AC ⟨s,(-1:Int),sb,rfl,rfl,t⟩
theorem Br {A:Slc}{b:List gN}{C:gN}(D:St φ (cR 9 gW A b::F) h) {r:Int}(hd:BC b C=some r):
 CallsH gR 46 [(sv A),(.string C)] h (Ap λv h'=>∃ψ:AD,∃y:Int,Sub φ ψ∧v=fQ.val y∧y=r∧St ψ (cR 9 gW A b::F) h'):=by
 refine AY mixed Tryz.func46 (FI ..) ?_;have d:A.2.1=iB b:=(D).rowLen;have⟨t,f,hd⟩:=bS hd;refine BZ f (λi y w_ g=>∃ψ:AD,Sub φ ψ∧y.1=i∧()=g∧St ψ (cR 9 gW A b::F) w_) ((0:Int),(0:Int),()) rfl ⟨φ,sb,rfl,rfl,D⟩ ?_ ?_ ?_
 ·rintro _ B u _ _ ⟨e,w,rfl,rfl,c⟩ a x j k l;refine Ac (dT d j)<|gxO c a λz a=>AH a rfl (λ_ a=> ?_) (λ_ a=> ?_)
  ·obtain rfl:=iS a;obtain rfl:=l _ rfl;obtain rfl:=iS hd;exact Aj (Al (AC ⟨e,B.1,sb,rfl,rfl,c⟩))
  obtain rfl:=iS a;exact AZ ((wN B.1),B.2.1,()) _ rfl rfl ⟨e,sb,k,rfl,c⟩
 ·rintro _ B a0 _ ⟨m,E,rfl,rfl,n⟩ o p;subst p;refine AU (dF d o)<|AI (AL (B.1,B.2.1,()) rfl ⟨_,rfl,_,m,sb,rfl,rfl,n⟩)
 rintro G H ⟨_,rfl,_,q,I,_,rfl,s⟩;obtain rfl:=iS hd;exact AC ⟨q,(-1:Int),sb,rfl,rfl,s⟩
noncomputable def Cd (g_0:FV) (a:gN):Option Int:=
 (DE (σ:=Unit) (β:=Int) 0 (g_0.2.2.1.length:Int) () λb g=>
  (idx g_0.2.2.1 b).bind λd=>
  (BC d.2 a).bind λf=>
  cond (decide (f≥ 0))
  (some (iR (gO .i64 (b+1))))
  (some (iT ()))).bind λc=>match c with
 |.next h=>
  some 0
 |.done e=>some e
theorem FL {g_0:Slc×Slc×Slc×gN×Slc×Unit}{d:List Gh}{e:List Hq}{c:List FH}{f:List Db}{A:gN}(H:Ro.SliceIs Gi φ g_0.1 d) (I:Ro.SliceIs Mf φ g_0.2.1 e) (i:Ro.SliceIs GN φ g_0.2.2.1 c) (J:Ro.SliceIs Fx φ g_0.2.2.2.2.1 f) (C:St φ (F) h) {r:Int}(hd:Cd (d,e,c,g_0.2.2.2.1,f) A=some r):
 CallsH gR 47 [(.agg #[(sv g_0.1),(sv g_0.2.1),(sv g_0.2.2.1),(.string g_0.2.2.2.1),(sv g_0.2.2.2.2.1)]),(.string A)] h (Ap λv h'=>∃ψ:AD,∃y:Int,Sub φ ψ∧v=fQ.val y∧y=r∧St ψ (F) h'):=by
 refine AY mixed Tryz.func47 (IZ ..) ?_;have j:g_0.2.2.1.2.1=iB c:=i.length;refine AV (vs:=[sv g_0.1,sv g_0.2.1,sv g_0.2.2.1,.string g_0.2.2.2.1,sv g_0.2.2.2.2.1]) C λr1 K n=> ?_;have⟨L,o,hd⟩:=bS hd;refine BZ o (λp y w_ g=>∃ψ:AD,Sub φ ψ∧y.1=p∧()=g∧St ψ (Wq1 r1 g_0::F) w_) ((0:Int),(0:Int),()) rfl ⟨φ,sb,rfl,rfl,n⟩ ?_ ?_ ?_
 ·rintro _ B M _ _ ⟨N,ad,rfl,rfl,b⟩ a al q s t;refine AA b rfl<|Ac (dT j q)<|AA b rfl<|ixR Yx i a b λap ax u a=> ?_;have⟨O,w,a⟩:=bS a;refine AK (G7 u.up b w) ?_;rintro _ P ⟨k,D,Q,rfl,rfl,l⟩;refine⟨D,rfl,?_⟩;refine AH a rfl (λ_ a=> ?_) (λ_ a=> ?_)
  ·obtain rfl:=iS a;obtain rfl:=t _ rfl;obtain rfl:=iS hd;exact Aj (Al (AC ⟨k,(wN B.1),sb,rfl,rfl,l.tail⟩))
  obtain rfl:=iS a;exact AZ ((wN B.1),B.2.1,()) _ rfl rfl ⟨k,sb,s,rfl,l⟩
 ·rintro _ B R _ ⟨x,S,rfl,rfl,m⟩ z a0;subst a0;refine AA m rfl<|AU (dF j z)<|AI (AL (B.1,B.2.1,()) rfl ⟨_,rfl,_,x,sb,rfl,rfl,m⟩)
 rintro T U ⟨_,rfl,_,E,V,_,rfl,G⟩;obtain rfl:=iS hd;exact AC ⟨E,(0:Int),sb,rfl,rfl,G.tail⟩
noncomputable def Bs (p_0:(List gN×List gN)) (a:gN):Option Int:=(BC p_0.1 a).bind λt3=>cond (decide (t3≥ 0)) (some t3) ((BC p_0.2 a).bind λt5=>cond (decide (t5≥ 0)) (some (gO .i64 ((p_0.1.length:Int)+t5))) (some (-1:Int)))
theorem DS {p_0:Pl6}{a:List gN}{b:List gN}{w:gN}(x:St φ (cR 9 gW p_0.1 a::cR 9 gW p_0.2.1 b::F) h) {r:Int}(hd:Bs (a,b) w=some r):
 CallsH gR 48 [(aG p_0),(.string w)] h (Ap λv h'=>∃ψ:AD,∃y:Int,Sub φ ψ∧v=fQ.val y∧y=r∧St ψ (cR 9 gW p_0.1 a::cR 9 gW p_0.2.1 b::F) h'):=by
 refine AY mixed Tryz.func48 (KD ..) ?_;have g:p_0.1.2.1=iB a:=(x).rowLen;refine GK (t:=p_0) x λr1 m e=>AA e rfl ?_;have⟨n,i,hd⟩:=bS hd;refine AK (Br e.at1 i) ?_;rintro _ o ⟨j,t3,p,rfl,rfl,c⟩;refine⟨t3,rfl,?_⟩;refine AH hd rfl (λ_ hd=> ?_) (λ_ hd=> ?_)
 ·obtain rfl:=iS hd;exact AC ⟨j,t3,sb,rfl,rfl,c.at1.tail.at1.at1⟩
 refine AA c.at1 rfl ?_;have⟨q,k,hd⟩:=bS hd;refine AK (Br c.at2 k) ?_;rintro _ s ⟨f,t5,u,rfl,rfl,d⟩;refine⟨t5,rfl,?_⟩;refine AH hd rfl (λ_ hd=> ?_) (λ_ hd=> ?_)
 ·refine AA d.at2 rfl ?_;obtain rfl:=iS hd;have l:=d.at2.tail.at1;exact AC ⟨f,(gO .i64 ((p_0.1.2.1:Int)+t5)),sb,rfl,(by rw[g]),l⟩
 obtain rfl:=iS hd;exact AC ⟨f,(-1:Int),sb,rfl,rfl,d.at2.tail.at1⟩
noncomputable def CE (b:HY) (x_1:A9):Option Int:=(idx b.2.2.1 x_1.1).bind λa=>cond (decide (x_1.2≥ (a.2.1.length:Int))) (some (-1:Int)) ((idx a.2.1 x_1.2).bind λc=>some c)
theorem Dc {A:gL}{a:HY}{x_1:Int×Int×Unit}(B:St φ (cO 101 (jU Cc) A a::F) h) {r:Int}(hd:CE a (x_1.1,x_1.2.1)=some r):
 CallsH gR 79 [(.pointer A),(.agg #[(.int .i64 x_1.1),(.int .i64 x_1.2.1)])] h (Ap λv h'=>∃ψ:AD,∃y:Int,Sub φ ψ∧v=fQ.val y∧y=r∧St ψ (cO 101 (jU Cc) A a::F) h'):=by
 refine AY mixed Tryz.func79 (IX ..)<|AV (vs:=[.int .i64 x_1.1,.int .i64 x_1.2.1]) B λr1 a0 q=> ?_;obtain⟨C,D,s,⟨_,_,rfl,⟨d,rfl,e⟩,_,_,rfl,⟨f,rfl,g⟩,_,_,rfl,⟨i,rfl,c⟩,_,_,rfl,⟨j,rfl,k⟩,_,_,rfl,⟨l,rfl,m⟩,_,_,rfl,⟨n,rfl,o⟩,_,_,rfl,rfl,rfl⟩,b⟩:=nY q.at1;subst s;refine AF _ rfl<|AA b rfl<|AA b.at1 rfl<|ixR HX c hd b λE G p hd=> ?_;have t:=p.length;refine AA b.at1 rfl<|AH hd (by rw[t] <;>rfl) (λ_ hd=> ?_) (λ_ hd=> ?_)
 ·have u:=lL (r:=Cc) (x:=(a.1,a.2.1,a.2.2.1,a.2.2.2.1,a.2.2.2.2.1,a.2.2.2.2.2.1,a.2.2.2.2.2.2.1,(a.2.2.2.2.2.2.2))) b ⟨[_],_,rfl,⟨d,rfl,e⟩,⟨[_],_,rfl,⟨f,rfl,g⟩,⟨[_],_,rfl,⟨i,rfl,c⟩,⟨[_],_,rfl,⟨j,rfl,k⟩,⟨[_],_,rfl,⟨l,rfl,m⟩,⟨[_],_,rfl,⟨n,rfl,o⟩,⟨[_],_,rfl,rfl,rfl⟩⟩⟩⟩⟩⟩⟩;obtain rfl:=iS hd;exact AC ⟨φ,(-1:Int),sb,rfl,rfl,u.at1.tail⟩
 refine AA b.at1 rfl<|gx p hd b λw hd=> ?_;have z:=lL (r:=Cc) (x:=(a.1,a.2.1,a.2.2.1,a.2.2.2.1,a.2.2.2.2.1,a.2.2.2.2.2.1,a.2.2.2.2.2.2.1,(a.2.2.2.2.2.2.2))) b ⟨[_],_,rfl,⟨d,rfl,e⟩,⟨[_],_,rfl,⟨f,rfl,g⟩,⟨[_],_,rfl,⟨i,rfl,c⟩,⟨[_],_,rfl,⟨j,rfl,k⟩,⟨[_],_,rfl,⟨l,rfl,m⟩,⟨[_],_,rfl,⟨n,rfl,o⟩,⟨[_],_,rfl,rfl,rfl⟩⟩⟩⟩⟩⟩⟩;obtain rfl:=iS hd;exact AC ⟨φ,w,sb,rfl,rfl,z.at1.tail⟩
noncomputable def Bu (p_0:Au) (a:Int):Option Bool:=(cond (decide (a≥ 0)) (some (decide (a< (p_0.1.length:Int)))) (some false)).bind λb=>some b
theorem FM {p_0:Pl6}{d_p_0:Au}{m:Int}(c:JR φ p_0 d_p_0) (n:St φ (F) h) {r:Bool}(hd:Bu d_p_0 m=some r):
 CallsH gR 80 [(aG p_0),(.int .i64 m)] h (Ap λv h'=>∃ψ:AD,∃y:Bool,Sub φ ψ∧v=fR.val y∧y=r∧St ψ (F) h'):=by
 refine AY mixed Tryz.func80 (Ov ..) ?_;have d:p_0.1.2.1=iB d_p_0.1:=c.k0.length;refine GK (t:=p_0) n λr1 j b=> ?_;have⟨e,a,hd⟩:=bS hd;refine Aa (λy w_ g=>∃ψ:AD,Sub φ ψ∧y.1=g∧St ψ (Wq2 r1 p_0::F) w_) (g:=e) ?_ ?_
 ·refine AH a rfl (λ_ a=> ?_) (λ_ a=> ?_)
  ·refine AA b rfl ?_;obtain rfl:=iS a;exact AO ((decide (m< (p_0.1.2.1:Int))),()) rfl ⟨φ,sb,(by rw[d]),b⟩
  obtain rfl:=iS a;exact AO (false,()) rfl ⟨φ,sb,rfl,b⟩
 rintro o k ⟨f,l,rfl,i⟩;obtain rfl:=iS hd;exact AC ⟨f,o.1,sb,rfl,rfl,i.tail⟩
noncomputable def Bl (s_0:List A9) (v_1:A9):Option Int:=
 (DE (σ:=Unit) (β:=Int) 0 (s_0.length:Int) () λa e=>
  (idx s_0 a).bind λb=>
  cond ((v_1.1==b.1) && ((v_1.2==b.2) && true))
  (some (iR a))
  (some (iT ()))).bind λc=>match c with
 |.next f=>
  some (-1:Int)
 |.done d=>some d
theorem EQ {s_0:Slc}{c:List A9}{v_1:Int×Int×Unit}(d:Ro.SliceIs BG φ s_0 c) (B:St φ (F) h) {r:Int}(hd:Bl c (v_1.1,v_1.2.1)=some r):
 CallsH gR 106 [(sv s_0),(.agg #[(.int .i64 v_1.1),(.int .i64 v_1.2.1)])] h (Ap λv h'=>∃ψ:AD,∃y:Int,Sub φ ψ∧v=fQ.val y∧y=r∧St ψ (F) h'):=by
 refine AY mixed Tryz.func106 (Cw ..) ?_;have e:s_0.2.1=iB c:=d.length;refine AV (vs:=[.int .i64 v_1.1,.int .i64 v_1.2.1]) B λr1 w i=> ?_;have⟨x,j,hd⟩:=bS hd;refine BZ j (λk y w_ g=>∃ψ:AD,Sub φ ψ∧y.1=k∧()=g∧St ψ (cW 73 r1 [.int .i64 v_1.1,.int .i64 v_1.2.1]::F) w_) ((0:Int),(0:Int),()) rfl ⟨φ,sb,rfl,rfl,i⟩ ?_ ?_ ?_
 ·rintro _ A z _ _ ⟨f,a0,rfl,rfl,b⟩ a C l m n;refine Ac (dT e l)<|AA b rfl<|AA b rfl<|OM d a b λD a=>AH a rfl (λ_ a=> ?_) (λ_ a=> ?_)
  ·obtain rfl:=iS a;obtain rfl:=n _ rfl;obtain rfl:=iS hd;exact Aj (Al (AC ⟨f,A.1,sb,rfl,rfl,b.tail⟩))
  obtain rfl:=iS a;exact AZ ((wN A.1),A.2.1,()) _ rfl rfl ⟨f,sb,m,rfl,b⟩
 ·rintro _ A E _ ⟨o,G,rfl,rfl,p⟩ q s;subst s;refine AU (dF e q)<|AI (AL (A.1,A.2.1,()) rfl ⟨_,rfl,_,o,sb,rfl,rfl,p⟩)
 rintro H I ⟨_,rfl,_,t,J,_,rfl,u⟩;obtain rfl:=iS hd;exact AC ⟨t,(-1:Int),sb,rfl,rfl,u.tail⟩
theorem ED {s_0:Slc}{b:List A9}{v_1:Int×Int×Unit}(B:St φ (cR 73 BG s_0 b::F) h) {r:Int}(hd:Bl b (v_1.1,v_1.2.1)=some r):
 CallsH gR 106 [(sv s_0),(.agg #[(.int .i64 v_1.1),(.int .i64 v_1.2.1)])] h (Ap λv h'=>∃ψ:AD,∃y:Int,Sub φ ψ∧v=fQ.val y∧y=r∧St ψ (cR 73 BG s_0 b::F) h'):=by
 refine AY mixed Tryz.func106 (Cw ..) ?_;have d:s_0.2.1=iB b:=(B).rowLen;refine AV (vs:=[.int .i64 v_1.1,.int .i64 v_1.2.1]) B λr1 u f=> ?_;have⟨w,i,hd⟩:=bS hd;refine BZ i (λj y w_ g=>∃ψ:AD,Sub φ ψ∧y.1=j∧()=g∧St ψ (cW 73 r1 [.int .i64 v_1.1,.int .i64 v_1.2.1]::cR 73 BG s_0 b::F) w_) ((0:Int),(0:Int),()) rfl ⟨φ,sb,rfl,rfl,f.at1.at1⟩ ?_ ?_ ?_
 ·rintro _ A x _ _ ⟨e,z,rfl,rfl,c⟩ a a0 k l m;refine Ac (dT d k)<|AA c rfl<|AA c rfl<|ca c.at1 a λC a=>AH a rfl (λ_ a=> ?_) (λ_ a=> ?_)
  ·obtain rfl:=iS a;obtain rfl:=m _ rfl;obtain rfl:=iS hd;exact Aj (Al (AC ⟨e,A.1,sb,rfl,rfl,c.tail⟩))
  obtain rfl:=iS a;exact AZ ((wN A.1),A.2.1,()) _ rfl rfl ⟨e,sb,l,rfl,c.at1.at1⟩
 ·rintro _ A D _ ⟨n,E,rfl,rfl,o⟩ p q;subst q;refine AU (dF d p)<|AI (AL (A.1,A.2.1,()) rfl ⟨_,rfl,_,n,sb,rfl,rfl,o.at1.at1⟩)
 rintro G H ⟨_,rfl,_,s,I,_,rfl,t⟩;obtain rfl:=iS hd;exact AC ⟨s,(-1:Int),sb,rfl,rfl,t.tail⟩
noncomputable def Aw (s_0:List A9) (v_1:A9):Option Bool:=(Bl s_0 (v_1.1,v_1.2)).bind λt4=>some (decide (t4≥ 0))
theorem Du {s_0:Slc}{b:List A9}{v_1:Int×Int×Unit}(c:Ro.SliceIs BG φ s_0 b) (l:St φ (F) h) {r:Bool}(hd:Aw b (v_1.1,v_1.2.1)=some r):
 CallsH gR 72 [(sv s_0),(.agg #[(.int .i64 v_1.1),(.int .i64 v_1.2.1)])] h (Ap λv h'=>∃ψ:AD,∃y:Bool,Sub φ ψ∧v=fR.val y∧y=r∧St ψ (F) h'):=by
 refine AY mixed Tryz.func72 (Cg ..)<|AV (vs:=[.int .i64 v_1.1,.int .i64 v_1.2.1]) l λr1 g a=>AA a rfl<|AA a rfl ?_;have⟨i,d,hd⟩:=bS hd;refine AK (EQ (v_1:=(v_1.1,v_1.2.1,())) c a d) ?_;rintro _ j ⟨e,t4,k,rfl,rfl,f⟩;refine⟨t4,rfl,?_⟩;obtain rfl:=iS hd;exact AC ⟨e,(decide (t4≥ (0:Int))),sb,rfl,rfl,f.tail⟩
theorem Dj {s_0:Slc}{a:List A9}{v_1:Int×Int×Unit}(k:St φ (cR 73 BG s_0 a::F) h) {r:Bool}(hd:Aw a (v_1.1,v_1.2.1)=some r):
 CallsH gR 72 [(sv s_0),(.agg #[(.int .i64 v_1.1),(.int .i64 v_1.2.1)])] h (Ap λv h'=>∃ψ:AD,∃y:Bool,Sub φ ψ∧v=fR.val y∧y=r∧St ψ (cR 73 BG s_0 a::F) h'):=by
 refine AY mixed Tryz.func72 (Cg ..)<|AV (vs:=[.int .i64 v_1.1,.int .i64 v_1.2.1]) k λr1 f b=>AA b rfl<|AA b rfl ?_;have⟨g,c,hd⟩:=bS hd;refine AK (ED (v_1:=(v_1.1,v_1.2.1,())) b.at1 c) ?_;rintro _ i ⟨d,t4,j,rfl,rfl,e⟩;refine⟨t4,rfl,?_⟩;obtain rfl:=iS hd;exact AC ⟨d,(decide (t4≥ (0:Int))),sb,rfl,rfl,e.at1.tail⟩
noncomputable def Cz (a:Int):Option Bool:=(cond (a==95) (some true) (cond (decide (a≥ 97)) (cond (decide (a≤122)) (some true) (cond (decide (a≥ 65)) (some (decide (a≤90))) (some false))) (cond (decide (a≥ 65)) (some (decide (a≤90))) (some false)))).bind λb=>some b
theorem Hz {i:Int}(j:St φ (F) h) {r:Bool}(hd:Cz i=some r):
 CallsH gR 122 [(.int .u8 i)] h (Ap λv h'=>∃ψ:AD,∃y:Bool,Sub φ ψ∧v=fR.val y∧y=r∧St ψ (F) h'):=by
 refine AY mixed Tryz.func122 (Hx ..) ?_;have⟨b,a,hd⟩:=bS hd;refine Aa (λy w_ g=>∃ψ:AD,Sub φ ψ∧y.1=g∧St ψ (F) w_) (g:=b) ?_ ?_
 ·refine AH a rfl (λ_ a=> ?_) (λ_ a=> ?_)
  ·obtain rfl:=iS a;exact AO (true,()) rfl ⟨φ,sb,rfl,j⟩
  refine AH a rfl (λ_ a=> ?_) (λ_ a=> ?_)
  ·refine AH a rfl (λ_ a=> ?_) (λ_ a=> ?_)
   ·obtain rfl:=iS a;exact AO (true,()) rfl ⟨φ,sb,rfl,j⟩
   refine AH a rfl (λ_ a=> ?_) (λ_ a=> ?_)
   ·obtain rfl:=iS a;exact AO ((decide (i≤(90:Int))),()) rfl ⟨φ,sb,rfl,j⟩
   obtain rfl:=iS a;exact AO (false,()) rfl ⟨φ,sb,rfl,j⟩
  refine AH a rfl (λ_ a=> ?_) (λ_ a=> ?_)
  ·obtain rfl:=iS a;exact AO ((decide (i≤(90:Int))),()) rfl ⟨φ,sb,rfl,j⟩
  obtain rfl:=iS a;exact AO (false,()) rfl ⟨φ,sb,rfl,j⟩
 rintro k e ⟨c,f,rfl,d⟩;obtain rfl:=iS hd;exact AC ⟨c,k.1,sb,rfl,rfl,d⟩
noncomputable def F5 (a:Int):Option Bool:=(cond (decide (a≥ 48)) (some (decide (a≤57))) (some false)).bind λb=>some b
theorem Ie {i:Int}(j:St φ (F) h) {r:Bool}(hd:F5 i=some r):
 CallsH gR 123 [(.int .u8 i)] h (Ap λv h'=>∃ψ:AD,∃y:Bool,Sub φ ψ∧v=fR.val y∧y=r∧St ψ (F) h'):=by
 refine AY mixed Tryz.func123 (Ib ..) ?_;have⟨b,a,hd⟩:=bS hd;refine Aa (λy w_ g=>∃ψ:AD,Sub φ ψ∧y.1=g∧St ψ (F) w_) (g:=b) ?_ ?_
 ·refine AH a rfl (λ_ a=> ?_) (λ_ a=> ?_)
  ·obtain rfl:=iS a;exact AO ((decide (i≤(57:Int))),()) rfl ⟨φ,sb,rfl,j⟩
  obtain rfl:=iS a;exact AO (false,()) rfl ⟨φ,sb,rfl,j⟩
 rintro k e ⟨c,f,rfl,d⟩;obtain rfl:=iS hd;exact AC ⟨c,k.1,sb,rfl,rfl,d⟩
noncomputable def EY (s_0:gN):Option Bool:=
 (DE (σ:=Unit) (β:=Bool) 0 ((gV s_0:Nat):Int) () λa e=>
  (need (0≤a∧a< (gV s_0:Nat))<|
  (Cz ((iN (En s_0 (gQ a)):Nat):Int)).bind λt4=>
  cond (!t4)
  (cond (a==0)
   (some true)
   (need (0≤a∧a< (gV s_0:Nat))<|
    (F5 ((iN (En s_0 (gQ a)):Nat):Int)).bind λt5=>
    some (!t5)))
  (some false)).bind λd=>
  cond d
  (some (iR false))
  (some (iT ()))).bind λb=>match b with
 |.next f=>
  some (!(gT s_0==gT {data:=#[]}))
 |.done c=>some c
theorem Jb {s_0:gN}(B:St φ (F) h) {r:Bool}(hd:EY s_0=some r):
 CallsH gR 107 [(.string s_0)] h (Ap λv h'=>∃ψ:AD,∃y:Bool,Sub φ ψ∧v=fR.val y∧y=r∧St ψ (F) h'):=by
 refine AY mixed Tryz.func107 (JZ ..) ?_;have⟨E,i,hd⟩:=bS hd;refine BZ i (λj y w_ g=>∃ψ:AD,Sub φ ψ∧y.1=j∧()=g∧St ψ (F) w_) ((0:Int),false,()) rfl ⟨φ,sb,rfl,rfl,B⟩ ?_ ?_ ?_
 ·rintro _ A G _ _ ⟨k,H,rfl,rfl,l⟩ b I m n o;refine Ac (by exact gC m) ?_;have⟨p,a,b⟩:=bS b;refine Aa (λy w_ g=>∃ψ:AD,Sub k ψ∧y.1=g∧St ψ (F) w_) (g:=p) ?_ ?_
  ·refine C7 a id λJ a=> ?_;have⟨K,q,a⟩:=bS a;refine AK (Hz l q) ?_;rintro _ L ⟨d,t4,ad,rfl,rfl,c⟩;refine⟨t4,rfl,?_⟩;refine AH a rfl (λ_ a=> ?_) (λ_ a=> ?_)
   ·refine AH a rfl (λ_ a=> ?_) (λ_ a=> ?_)
    ·obtain rfl:=iS a;exact AO (true,()) rfl ⟨d,sb,rfl,c⟩
    refine C7 a id λal a=> ?_;have⟨ap,s,a⟩:=bS a;refine AK (Ie c s) ?_;rintro _ ax ⟨t,t5,M,rfl,rfl,u⟩;refine⟨t5,rfl,?_⟩;obtain rfl:=iS a;exact AO ((!t5),()) rfl ⟨t,sb,rfl,u⟩
   obtain rfl:=iS a;exact AO (false,()) rfl ⟨d,sb,rfl,c⟩
  rintro N O ⟨e,P,rfl,f⟩;refine AH b rfl (λ_ b=> ?_) (λ_ b=> ?_)
  ·obtain rfl:=iS b;obtain rfl:=o _ rfl;obtain rfl:=iS hd;exact Aj (Al (AC ⟨e,false,sb,rfl,rfl,f⟩))
  obtain rfl:=iS b;exact AZ ((wN A.1),A.2.1,()) _ rfl rfl ⟨e,sb,n,rfl,f⟩
 ·rintro _ A Q _ ⟨w,R,rfl,rfl,x⟩ z a0;subst a0;refine AU (by exact gB (kQ.2 z))<|AI (AL (A.1,A.2.1,()) rfl ⟨_,rfl,_,w,sb,rfl,rfl,x⟩)
 rintro S T ⟨_,rfl,_,C,U,_,rfl,D⟩;obtain rfl:=iS hd;exact AC ⟨C,(!(gT s_0==gT {data:=#[]})),sb,rfl,rfl,D⟩
noncomputable def BU (s_0:gN):Option Bool:=(cond (decide (((gV s_0:Nat):Int) ≤32)) ((EY s_0).bind λt2=>some t2) (some false)).bind λa=>some a
theorem CU {s_0:gN}(o:St φ (F) h) {r:Bool}(hd:BU s_0=some r):
 CallsH gR 73 [(.string s_0)] h (Ap λv h'=>∃ψ:AD,∃y:Bool,Sub φ ψ∧v=fR.val y∧y=r∧St ψ (F) h'):=by
 refine AY mixed Tryz.func73 (JW ..) ?_;have⟨b,a,hd⟩:=bS hd;refine Aa (λy w_ g=>∃ψ:AD,Sub φ ψ∧y.1=g∧St ψ (F) w_) (g:=b) ?_ ?_
 ·refine AH a rfl (λ_ a=> ?_) (λ_ a=> ?_)
  ·have⟨j,c,a⟩:=bS a;refine AK (Jb o c) ?_;rintro _ k ⟨d,t2,l,rfl,rfl,e⟩;refine⟨t2,rfl,?_⟩;obtain rfl:=iS a;exact AO (t2,()) rfl ⟨d,sb,rfl,e⟩
  obtain rfl:=iS a;exact AO (false,()) rfl ⟨φ,sb,rfl,o⟩
 rintro p m ⟨f,n,rfl,i⟩;obtain rfl:=iS hd;exact AC ⟨f,p.1,sb,rfl,rfl,i⟩
noncomputable def CJ (p_0:Hq):Option Bool:=
 cond (!(gT p_0.1==gT {data:=#[]}))
 ((cond (decide (((gV p_0.1:Nat):Int) ≤32))
  (cond (gT p_0.2.1==gT {data:=#[]})
   (some (!p_0.2.2))
   (some false))
  (some false)).bind λd=>
  some d)
 ((DE (σ:=Unit) (β:=Bool) 1 ((gV p_0.2.1:Nat):Int) () λa e=>
  need (0≤a∧a< (gV p_0.2.1:Nat))<|
  need (0≤(gO .i64 (a - 1))∧(gO .i64 (a - 1)) < (gV p_0.2.1:Nat))<|
  cond (decide (((iN (En p_0.2.1 (gQ a)):Nat):Int) ≤((iN (En p_0.2.1 (gQ (gO .i64 (a - 1)))):Nat):Int)))
  (some (iR false))
  (some (iT ()))).bind λb=>match b with
  |.next f=>
   some (!(gT p_0.2.1==gT {data:=#[]}))
  |.done c=>some c)
theorem Eh {p_0:gN×gN×Bool×Unit}(B:St φ (F) h) {r:Bool}(hd:CJ (p_0.1,p_0.2.1,p_0.2.2.1)=some r):
 CallsH gR 74 [(.agg #[(.string p_0.1),(.string p_0.2.1),(.bool p_0.2.2.1)])] h (Ap λv h'=>∃ψ:AD,∃y:Bool,Sub φ ψ∧v=fR.val y∧y=r∧St ψ (F) h'):=by
 refine AY mixed Tryz.func74 (Hc ..)<|AV (vs:=[.string p_0.1,.string p_0.2.1,.bool p_0.2.2.1]) B λr1 x c=>AA c rfl<|AH hd rfl (λ_ hd=> ?_) (λ_ hd=> ?_)
 ·have⟨j,a,hd⟩:=bS hd;refine Aa (λy w_ g=>∃ψ:AD,Sub φ ψ∧y.1=g∧St ψ (Wq3 r1 p_0::F) w_) (g:=j) ?_ ?_
  ·refine AA c rfl<|AH a rfl (λ_ a=> ?_) (λ_ a=> ?_)
   ·refine AA c rfl<|AH a rfl (λ_ a=> ?_) (λ_ a=> ?_)
    ·refine AA c rfl ?_;obtain rfl:=iS a;exact AO ((!p_0.2.2.1),()) rfl ⟨φ,sb,rfl,c⟩
    obtain rfl:=iS a;exact AO (false,()) rfl ⟨φ,sb,rfl,c⟩
   obtain rfl:=iS a;exact AO (false,()) rfl ⟨φ,sb,rfl,c⟩
  rintro C z ⟨k,a0,rfl,l⟩;obtain rfl:=iS hd;exact AC ⟨k,C.1,sb,rfl,rfl,l.tail⟩
 have⟨D,m,hd⟩:=bS hd;refine BZ m (λn y w_ g=>∃ψ:AD,Sub φ ψ∧y.1=n∧()=g∧St ψ (Wq3 r1 p_0::F) w_) ((1:Int),false,()) rfl ⟨φ,sb,rfl,rfl,c⟩ ?_ ?_ ?_
 ·rintro _ A E _ _ ⟨e,G,rfl,rfl,d⟩ b H o p q;refine AA d rfl<|Ac (by exact gC o)<|AA d rfl<|C7 b id λI b=>AA d rfl<|C7 b id λJ b=>AH b rfl (λ_ b=> ?_) (λ_ b=> ?_)
  ·obtain rfl:=iS b;obtain rfl:=q _ rfl;obtain rfl:=iS hd;exact Aj (Al (AC ⟨e,false,sb,rfl,rfl,d.tail⟩))
  obtain rfl:=iS b;exact AZ ((wN A.1),A.2.1,()) _ rfl rfl ⟨e,sb,p,rfl,d⟩
 ·rintro _ A K _ ⟨s,L,rfl,rfl,f⟩ t u;subst u;refine AA f rfl<|AU (by exact gB (kQ.2 t))<|AI (AL (A.1,A.2.1,()) rfl ⟨_,rfl,_,s,sb,rfl,rfl,f⟩)
 rintro M N ⟨_,rfl,_,w,ad,_,rfl,i⟩;refine AA i rfl ?_;obtain rfl:=iS hd;exact AC ⟨w,(!(gT p_0.2.1==gT {data:=#[]})),sb,rfl,rfl,i.tail⟩
noncomputable def C1 (s_0:gN):Option Bool:=
 cond (decide (((gV s_0:Nat):Int) >200))
 (some false)
 ((DE (σ:=Int) (β:=Bool) 0 ((gV s_0:Nat):Int) 1 λa e=>
  need (0≤a∧a< (gV s_0:Nat))<|
  (cond (((iN (En s_0 (gQ a)):Nat):Int)==123)
  (some (gO .i64 (e+1)))
  (some e)).bind λf=>
  need (0≤a∧a< (gV s_0:Nat))<|
  (cond (((iN (En s_0 (gQ a)):Nat):Int)==125)
  (some (gO .i64 (f - 1)))
  (some f)).bind λc=>
  (cond (decide (c>4))
  (some true)
  (some (c==0))).bind λg=>
  cond g
  (some (iR false))
  (some (iT c))).bind λb=>match b with
  |.next h=>
   some (h==1)
  |.done d=>some d)
theorem E5 {s_0:gN}(B:St φ (F) h) {r:Bool}(hd:C1 s_0=some r):
 CallsH gR 75 [(.string s_0)] h (Ap λv h'=>∃ψ:AD,∃y:Bool,Sub φ ψ∧v=fR.val y∧y=r∧St ψ (F) h'):=by
 refine AY mixed Tryz.func75 (Hw ..)<|AH hd rfl (λ_ hd=> ?_) (λ_ hd=> ?_)
 ·obtain rfl:=iS hd;exact AC ⟨φ,false,sb,rfl,rfl,B⟩
 have⟨K,o,hd⟩:=bS hd;refine BZ o (λp y w_ g=>∃ψ:AD,Sub φ ψ∧y.1=p∧y.2.1=g∧St ψ (F) w_) ((0:Int),(1:Int),false,()) rfl ⟨φ,sb,rfl,rfl,B⟩ ?_ ?_ ?_
 ·rintro _ A L _ _ ⟨e,M,rfl,rfl,j⟩ a N q s t;refine Ac (by exact gC q)<|C7 a id λO a=> ?_;have⟨u,b,a⟩:=bS a;refine Aa (λy w_ g=>∃ψ:AD,Sub e ψ∧y.1=g∧St ψ (F) w_) (g:=u) ?_ ?_
  ·refine AH b rfl (λ_ b=> ?_) (λ_ b=> ?_)
   ·obtain rfl:=iS b;exact AO ((wN A.2.1),()) rfl ⟨e,sb,rfl,j⟩
   obtain rfl:=iS b;exact AO (A.2.1,()) rfl ⟨e,sb,rfl,j⟩
  rintro C ad ⟨f,al,rfl,k⟩;refine C7 a id λap a=> ?_;have⟨w,c,a⟩:=bS a;refine Aa (λy w_ g=>∃ψ:AD,Sub f ψ∧y.1=g∧St ψ (F) w_) (g:=w) ?_ ?_
  ·refine AH c rfl (λ_ c=> ?_) (λ_ c=> ?_)
   ·obtain rfl:=iS c;exact AO ((gO .i64 (C.1 - (1:Int))),()) rfl ⟨f,sb,rfl,k⟩
   obtain rfl:=iS c;exact AO (C.1,()) rfl ⟨f,sb,rfl,k⟩
  rintro D ax ⟨i,P,rfl,l⟩;have⟨x,d,a⟩:=bS a;refine Aa (λy w_ g=>∃ψ:AD,Sub i ψ∧y.1=g∧St ψ (F) w_) (g:=x) ?_ ?_
  ·refine AH d rfl (λ_ d=> ?_) (λ_ d=> ?_)
   ·obtain rfl:=iS d;exact AO (true,()) rfl ⟨i,sb,rfl,l⟩
   obtain rfl:=iS d;exact AO ((D.1==(0:Int)),()) rfl ⟨i,sb,rfl,l⟩
  rintro Q R ⟨m,S,rfl,n⟩;refine AH a rfl (λ_ a=> ?_) (λ_ a=> ?_)
  ·obtain rfl:=iS a;obtain rfl:=t _ rfl;obtain rfl:=iS hd;exact Aj (Al (AC ⟨m,false,sb,rfl,rfl,n⟩))
  obtain rfl:=iS a;exact AZ ((wN A.1),D.1,A.2.2.1,()) _ rfl rfl ⟨m,sb,s,rfl,n⟩
 ·rintro _ A T _ ⟨z,U,rfl,rfl,a0⟩ E G;subst G;refine AU (by exact gB (kQ.2 E))<|AI (AL (A.1,A.2.1,A.2.2.1,()) rfl ⟨_,rfl,_,z,sb,rfl,rfl,a0⟩)
 rintro H V ⟨_,rfl,_,I,W,_,rfl,J⟩;obtain rfl:=iS hd;exact AC ⟨I,(H.2.1==(1:Int)),sb,rfl,rfl,J⟩
noncomputable def Bz (b:List gN):Option Bool:=
 (DE (σ:=Unit) (β:=Bool) 0 (b.length:Int) () λa k=>
  (idx b a).bind λf=>
  (BU f).bind λt5=>
  cond (!t5)
  (some (iR false))
  ((DE (σ:=Unit) (β:=Bool) 0 a () λc l=>
   (idx b c).bind λg=>
   (idx b a).bind λh=>
   cond (gT g==gT h)
   (some (iR false))
   (some (iT ()))).bind λd=>match d with
   |.next m=>
    some (iT ())
   |.done i=>some (iR i))).bind λe=>match e with
 |.next n=>
  some true
 |.done j=>some j
theorem FW {A:Slc}{e:List gN}(c:Ro.SliceIs gW φ A e) (D:St φ (F) h) {r:Bool}(hd:Bz e=some r):
 CallsH gR 76 [(sv A)] h (Ap λv h'=>∃ψ:AD,∃y:Bool,Sub φ ψ∧v=fR.val y∧y=r∧St ψ (F) h'):=by
 refine AY mixed Tryz.func76 (JY ..) ?_;have i:A.2.1=iB e:=c.length;have⟨ap,n,hd⟩:=bS hd;refine BZ n (λo y w_ g=>∃ψ:AD,Sub φ ψ∧y.1=o∧()=g∧St ψ (F) w_) ((0:Int),false,()) rfl ⟨φ,sb,rfl,rfl,D⟩ ?_ ?_ ?_
 ·rintro _ B ax _ _ ⟨P,Q,rfl,rfl,j⟩ a R p q k;refine Ac (dT i p)<|gx c a j λS a=> ?_;have⟨T,s,a⟩:=bS a;refine AK (CU j s) ?_;rintro _ U ⟨f,t5,V,rfl,rfl,l⟩;refine⟨t5,rfl,?_⟩;refine AH a rfl (λ_ a=> ?_) (λ_ a=> ?_)
  ·obtain rfl:=iS a;obtain rfl:=k _ rfl;obtain rfl:=iS hd;exact Aj (Al (AC ⟨f,false,sb,rfl,rfl,l⟩))
  have⟨W,t,a⟩:=bS a;refine BZ t (λu y w_ g=>∃ψ:AD,Sub f ψ∧y.1=u∧()=g∧St ψ (F) w_) ((0:Int),B.2.1,()) rfl ⟨f,sb,rfl,rfl,l⟩ ?_ ?_ ?_
  ·rintro _ C X _ _ ⟨m,Y,rfl,rfl,d⟩ b ba w x z;refine Ac (by exact gC w)<|gx c b d λbb b=>gx c b d λbd b=>AH b rfl (λ_ b=> ?_) (λ_ b=> ?_)
   ·obtain rfl:=iS b;obtain rfl:=z _ rfl;obtain rfl:=iS a;obtain rfl:=k _ rfl;obtain rfl:=iS hd;exact Aj (Al (Aj (Al (AC ⟨m,false,sb,rfl,rfl,d⟩))))
   obtain rfl:=iS b;exact AZ ((wN C.1),C.2.1,()) _ rfl rfl ⟨m,sb,x,rfl,d⟩
  ·rintro _ C bf _ ⟨a0,bg,rfl,rfl,E⟩ G H;subst H;refine AU (by exact gB (kQ.2 G))<|AI (AL (C.1,C.2.1,()) rfl ⟨_,rfl,_,a0,sb,rfl,rfl,E⟩)
  rintro I bi ⟨_,rfl,_,J,bj,_,rfl,K⟩;obtain rfl:=iS a;exact AZ ((wN B.1),I.2.1,()) _ rfl rfl ⟨J,sb,q,rfl,K⟩
 ·rintro _ B bl _ ⟨L,bn,rfl,rfl,M⟩ N O;subst O;refine AU (dF i N)<|AI (AL (B.1,B.2.1,()) rfl ⟨_,rfl,_,L,sb,rfl,rfl,M⟩)
 rintro Z bp ⟨_,rfl,_,ad,bq,_,rfl,al⟩;obtain rfl:=iS hd;exact AC ⟨ad,true,sb,rfl,rfl,al⟩
end
section
variable {φ:AD}{h:AE}{F:List Chk}
theorem Cj:Fv gR 28 28 9 1:=⟨mO,.inl mO,⟨Tryz.t9,by kernel_rfl,rfl,⟨_,rfl,rfl⟩,by decide,by decide⟩,by decide⟩
theorem Ts:Fv gR 61 61 127 4:=⟨mP,.inl mP,⟨Tryz.t127,by kernel_rfl,rfl,⟨_,rfl,rfl⟩,by decide,by decide⟩,by decide⟩
theorem Tt:Fv gR 63 63 130 2:=⟨mQ,.inl mQ,⟨Tryz.t130,by kernel_rfl,rfl,⟨_,rfl,rfl⟩,by decide,by decide⟩,by decide⟩
theorem Oy:Fv gR 64 64 123 4:=⟨mR,.inl mR,⟨Tryz.t123,by kernel_rfl,rfl,⟨_,rfl,rfl⟩,by decide,by decide⟩,by decide⟩
noncomputable def DI (g_0:FV):Option Bool:=
 (cond (decide ((g_0.1.length:Int) >20))
 (some true)
 (cond (decide ((g_0.2.1.length:Int) >4))
  (some true)
  (cond (decide ((g_0.2.2.1.length:Int) >10))
   (some true)
   (cond (decide ((g_0.2.2.2.2.length:Int) < 1))
    (some true)
    (cond (decide ((g_0.2.2.2.2.length:Int) >40))
     (some true)
     ((BU g_0.2.2.2.1).bind λN=>
      some (!N))))))).bind λO=>
 cond O
 (some false)
 ((DE (σ:=List gN) (β:=Bool) 0 (g_0.1.length:Int) ([]:List gN) λc u=>
  (idx g_0.1 c).bind λv=>
  (app u ([v.1]:List gN)).bind λw=>
  (idx g_0.1 c).bind λe=>
  (CJ (e.2.1,e.2.2.1,e.2.2.2)).bind λx=>
  cond (!x)
  (some (iR false))
  (some (iT w))).bind λf=>match f with
  |.next y=>
   (DE (σ:=Unit) (β:=Bool) 0 (g_0.2.1.length:Int) () λg P=>
    (idx g_0.2.1 g).bind λd=>
    (CJ (d.1,d.2.1,d.2.2)).bind λz=>
    cond (!z)
    (some (iR false))
    (some (iT ()))).bind λh=>match h with
   |.next Q=>
    (DE (σ:=List gN) (β:=Bool) 0 (g_0.2.2.1.length:Int) ([]:List gN) λi A=>
     (idx g_0.2.2.1 i).bind λb=>
     (app A b.2).bind λB=>
     (cond (decide (b.1< 1))
     (some true)
     (cond (decide (b.1>3))
      (some true)
      (some ((b.2.length:Int)==0)))).bind λC=>
     cond C
     (some (iR false))
     (some (iT B))).bind λj=>match j with
    |.next D=>
     (DE (σ:=Unit) (β:=Bool) 0 (g_0.2.2.2.2.length:Int) () λk R=>
      (idx g_0.2.2.2.2 k).bind λa=>
      ((BU a.1).bind λE=>
      cond (!E)
      (some true)
      (cond (decide ((a.2.1.length:Int) >8))
       (some true)
       (cond (!(gT a.2.2.1==gT {data:=#[]}))
        ((BU a.2.2.1).bind λF=>
         cond (!F)
         (some true)
         ((C1 a.2.2.2).bind λG=>
          some (!G)))
        ((C1 a.2.2.2).bind λH=>
         some (!H))))).bind λI=>
      cond I
      (some (iR false))
      ((DE (σ:=Unit) (β:=Bool) 0 (a.2.1.length:Int) () λl S=>
       (idx a.2.1 l).bind λo=>
       (BU o).bind λJ=>
       cond (!J)
       (some (iR false))
       (some (iT ()))).bind λm=>match m with
       |.next T=>
        some (iT ())
       |.done p=>some (iR p))).bind λn=>match n with
     |.next U=>
      ((Bz y).bind λK=>
      cond K
      ((Bz D).bind λL=>
       some L)
      (some false)).bind λM=>
      some M
     |.done q=>some q
    |.done r=>some r
   |.done s=>some s
  |.done t=>some t)
theorem If {g_0:Slc×Slc×Slc×gN×Slc×Unit}{S:List Gh}{T:List Hq}{U:List FH}{V:List Db}(ad:Ro.SliceIs Gi φ g_0.1 S) (bb:Ro.SliceIs Mf φ g_0.2.1 T) (bd:Ro.SliceIs GN φ g_0.2.2.1 U) (bf:Ro.SliceIs Fx φ g_0.2.2.2.2.1 V) (s0:St φ (F) h) {r:Bool}(hd:DI (S,T,U,g_0.2.2.2.1,V)=some r):
 CallsH gR 45 [(.agg #[(sv g_0.1),(sv g_0.2.1),(sv g_0.2.2.1),(.string g_0.2.2.2.1),(sv g_0.2.2.2.2.1)])] h (Ap λv h'=>∃ψ:AD,∃y:Bool,Sub φ ψ∧v=fR.val y∧y=r∧St ψ (F) h'):=by
 refine AY mixed Tryz.func45 (IY ..) ?_;have al:g_0.1.2.1=iB S:=ad.length;have ap:g_0.2.1.2.1=iB T:=bb.length;have ax:g_0.2.2.1.2.1=iB U:=bd.length;have N:g_0.2.2.2.2.1.2.1=iB V:=bf.length;refine AV (vs:=[sv g_0.1,sv g_0.2.1,sv g_0.2.2.1,.string g_0.2.2.2.1,sv g_0.2.2.2.2.1]) s0 λr1 gl e=> ?_;have⟨d4,c,hd⟩:=bS hd;refine Aa (λy w_ g=>∃ψ:AD,Sub φ ψ∧y.1=g∧St ψ (Wq1 r1 g_0::F) w_) (g:=d4) ?_ ?_
 ·refine AA e rfl<|AH c (by rw[al] <;>rfl) (λ_ c=> ?_) (λ_ c=> ?_)
  ·obtain rfl:=iS c;exact AO (true,()) rfl ⟨φ,sb,rfl,e⟩
  refine AA e rfl<|AH c (by rw[ap] <;>rfl) (λ_ c=> ?_) (λ_ c=> ?_)
  ·obtain rfl:=iS c;exact AO (true,()) rfl ⟨φ,sb,rfl,e⟩
  refine AA e rfl<|AH c (by rw[ax] <;>rfl) (λ_ c=> ?_) (λ_ c=> ?_)
  ·obtain rfl:=iS c;exact AO (true,()) rfl ⟨φ,sb,rfl,e⟩
  refine AA e rfl<|AH c (by rw[N] <;>rfl) (λ_ c=> ?_) (λ_ c=> ?_)
  ·obtain rfl:=iS c;exact AO (true,()) rfl ⟨φ,sb,rfl,e⟩
  refine AA e rfl<|AH c (by rw[N] <;>rfl) (λ_ c=> ?_) (λ_ c=> ?_)
  ·obtain rfl:=iS c;exact AO (true,()) rfl ⟨φ,sb,rfl,e⟩
  refine AA e rfl ?_;have⟨gm,d5,c⟩:=bS c;refine AK (CU e d5) ?_;rintro _ gn ⟨d6,t9,go,rfl,rfl,d7⟩;refine⟨t9,rfl,?_⟩;obtain rfl:=iS c;exact AO ((!t9),()) rfl ⟨d6,sb,rfl,d7⟩
 rintro z2 gp ⟨W,gq,rfl,bg⟩;refine AH hd rfl (λ_ hd=> ?_) (λ_ hd=> ?_)
 ·obtain rfl:=iS hd;exact AC ⟨W,false,sb,rfl,rfl,bg.tail⟩
 have⟨gr,d8,hd⟩:=bS hd;refine BZ d8 (λd9 y w_ g=>∃ψ:AD,∃bi:List gN,Sub W ψ∧y.1=d9∧bi=g∧St ψ (cR 9 gW y.2.1 bi::Wq1 r1 g_0::F) w_) ((0:Int),((none,0,0):Slc),false,()) rfl ⟨W,[],sb,rfl,rfl,(((bg.nil 9 gW).at1).at1)⟩ ?_ ?_ ?_
 ·rintro _ B gs _ _ ⟨da,gt,gu,rfl,rfl,O⟩ d gv db dc dd;refine AA O.at1 rfl<|Ac (dT al db)<|AA O.at1 rfl<|IS OV ad d O λbj d=>AV (vs:=[.string bj.1]) O λk6 gw bl=> ?_;have⟨de,df,d⟩:=bS d;refine AX (r:=gW) (ms:=([bj.1]:List gN)) Cj bl.tail rfl (iY bl) (.cons (a:=[_]) rfl .nil) rfl df ?_;intro X gy w;refine AA w.at1 rfl ?_;have⟨q,dg,d⟩:=bS d;obtain⟨gz,h0,dh,di,dj,Y⟩:=(ad.up (ψ:=da)).get dg;refine AF _ dh (Ah di ?_);obtain⟨_,_,rfl,rfl,⟨_,_,rfl,rfl,⟨_,_,rfl,rfl,rfl⟩⟩⟩:=dj;refine AG (x:=q.2.1) (by rw[An];exact(AJ (iG sb w.sub) (Y 1 _ rfl))) rfl<|AG (x:=q.2.2.1) (by rw[An,An];exact(AJ (iG sb w.sub) (Y 2 _ rfl))) rfl<|AG (x:=q.2.2.2) (by rw[An,An];exact(AJ (iG sb w.sub) (Y 3 _ rfl))) rfl ?_;have⟨h1,dr,d⟩:=bS d;refine AK (Eh (p_0:=(q.2.1,q.2.2.1,q.2.2.2,())) w dr) ?_;rintro _ h2 ⟨bn,Z,h3,rfl,rfl,bp⟩;refine⟨Z,rfl,?_⟩;refine AH d rfl (λ_ d=> ?_) (λ_ d=> ?_)
  ·obtain rfl:=iS d;obtain rfl:=dd _ rfl;obtain rfl:=iS hd;exact Aj (Al (AC ⟨bn,false,sb,rfl,rfl,bp.tail.tail⟩))
  obtain rfl:=iS d;exact AZ ((wN B.1),X,B.2.2.1,()) _ rfl rfl ⟨bn,de,sb,dc,rfl,bp.at1.at1⟩
 ·rintro _ B h4 _ ⟨ds,dt,h5,rfl,rfl,bq⟩ du dv;subst dv;refine AA bq.at1 rfl<|AU (dF al du)<|AI (AL (B.1,B.2.1,B.2.2.1,()) rfl ⟨_,rfl,_,ds,dt,sb,rfl,rfl,bq.at1.at1⟩)
 rintro A h6 ⟨_,rfl,_,bs,s,h7,_,rfl,dw⟩;have⟨h8,dx,hd⟩:=bS hd;refine BZ dx (λdy y w_ g=>∃ψ:AD,Sub bs ψ∧y.1=dy∧()=g∧St ψ (cR 9 gW A.2.1 s::Wq1 r1 g_0::F) w_) ((0:Int),A.2.2.1,()) rfl ⟨bs,sb,rfl,rfl,dw.at1.at1⟩ ?_ ?_ ?_
 ·rintro _ D h9 _ _ ⟨hb,hc,rfl,rfl,P⟩ j he dz e0 e1;refine AA P.at1 rfl<|Ac (dT ap dz)<|AA P.at1 rfl<|Wn bb j P λb2 j=> ?_;have⟨hf,e2,j⟩:=bS j;refine AK (Eh (p_0:=(b2.1,b2.2.1,b2.2.2,())) P e2) ?_;rintro _ hg ⟨bt,f6,hh,rfl,rfl,bx⟩;refine⟨f6,rfl,?_⟩;refine AH j rfl (λ_ j=> ?_) (λ_ j=> ?_)
  ·obtain rfl:=iS j;obtain rfl:=e1 _ rfl;obtain rfl:=iS hd;exact Aj (Al (AC ⟨bt,false,sb,rfl,rfl,bx.tail.tail⟩))
  obtain rfl:=iS j;exact AZ ((wN D.1),D.2.1,()) _ rfl rfl ⟨bt,sb,e0,rfl,bx.at1.at1⟩
 ·rintro _ D hi _ ⟨e3,hj,rfl,rfl,bz⟩ e4 e5;subst e5;refine AA bz.at1 rfl<|AU (dF ap e4)<|AI (AL (D.1,D.2.1,()) rfl ⟨_,rfl,_,e3,sb,rfl,rfl,bz.at1.at1⟩)
 rintro f7 hk ⟨_,rfl,_,c0,hl,_,rfl,e6⟩;have⟨hm,e7,hd⟩:=bS hd;refine BZ e7 (λe8 y w_ g=>∃ψ:AD,∃c1:List gN,Sub c0 ψ∧y.1=e8∧c1=g∧St ψ (cR 9 gW y.2.1 c1::cR 9 gW A.2.1 s::Wq1 r1 g_0::F) w_) ((0:Int),((none,0,0):Slc),f7.2.1,()) rfl ⟨c0,[],sb,rfl,rfl,((((e6.nil 9 gW).at2).at2).at2)⟩ ?_ ?_ ?_
 ·rintro _ C hn _ _ ⟨z,ho,hp,rfl,rfl,a0⟩ i hq e9 ea eb;refine AA a0.at2 rfl<|Ac (dT ax e9)<|AA a0.at2 rfl ?_;have⟨b3,ec,i⟩:=bS i;obtain⟨hr,hs,ed,ee,ef,c2⟩:=(bd.up (ψ:=z)).get ec;refine AF _ ed (Ah ee ?_);obtain⟨_,_,rfl,rfl,⟨b4,rfl,c3⟩⟩:=ef;have c4:=c3.length;refine AG (x:=b3.1) (AJ (iG sb a0.sub) (c2 0 _ rfl)) rfl<|AG (x:=b4) (by rw[An];exact(AJ (iG sb a0.sub) (c2 1 _ rfl))) rfl<|AV (vs:=[.int .i64 (0:Int),.slice none 0 0]) a0 λf8 ht ei=>AQ ei rfl rfl λhu ej=>AQ ej rfl rfl λhv b5=>AA b5 rfl ?_;have⟨hw,ek,el⟩:=c3.heap b5.sub;have⟨c5,em,i⟩:=bS i;refine AX (r:=gW) (ms:=b3.2) Cj b5.at1 rfl el ek c4.symm em ?_;intro I hx u;have⟨en,k,i⟩:=bS i;refine Aa (λy w_ g=>∃ψ:AD,Sub z ψ∧y.1=g∧St ψ (cR 9 gW I c5::cW 130 f8 [.int .i64 b3.1,sv b4]::cR 9 gW A.2.1 s::Wq1 r1 g_0::F) w_) (g:=en) ?_ ?_
  ·refine AA u.at1 rfl<|AH k rfl (λ_ k=> ?_) (λ_ k=> ?_)
   ·have eo:=u.at3;obtain rfl:=iS k;exact AO (true,()) rfl ⟨z,sb,rfl,eo.at3.at3.at3⟩
   refine AA u.at1 rfl<|AH k rfl (λ_ k=> ?_) (λ_ k=> ?_)
   ·have ep:=u.at3;obtain rfl:=iS k;exact AO (true,()) rfl ⟨z,sb,rfl,ep.at3.at3.at3⟩
   refine AA u.at1 rfl ?_;have er:=u.at3.at3.at3.at3;obtain rfl:=iS k;exact AO (((b4.2.1:Int)==(0:Int)),()) rfl ⟨z,sb,(by rw[c4]),er⟩
  rintro k7 hy ⟨c6,hz,rfl,c7⟩;refine AH i rfl (λ_ i=> ?_) (λ_ i=> ?_)
  ·obtain rfl:=iS i;obtain rfl:=eb _ rfl;obtain rfl:=iS hd;exact Aj (Al (AC ⟨c6,false,sb,rfl,rfl,c7.tail.tail.tail.tail⟩))
  obtain rfl:=iS i;exact AZ ((wN C.1),I,C.2.2.1,()) _ rfl rfl ⟨c6,c5,sb,ea,rfl,c7.at1.tail.at2.at2.at2⟩
 ·rintro _ C i0 _ ⟨es,eu,i1,rfl,rfl,c8⟩ ev ew;subst ew;refine AA c8.at2 rfl<|AU (dF ax ev)<|AI (AL (C.1,C.2.1,C.2.2.1,()) rfl ⟨_,rfl,_,es,eu,sb,rfl,rfl,c8.at2.at2.at2⟩)
 rintro E i2 ⟨_,rfl,_,c9,b6,i3,_,rfl,ex⟩;have⟨i4,ey,hd⟩:=bS hd;refine BZ ey (λez y w_ g=>∃ψ:AD,Sub c9 ψ∧y.1=ez∧()=g∧St ψ (cR 9 gW E.2.1 b6::cR 9 gW A.2.1 s::Wq1 r1 g_0::F) w_) ((0:Int),E.2.2.1,()) rfl ⟨c9,sb,rfl,rfl,ex.at2.at2.at2⟩ ?_ ?_ ?_
 ·rintro _ G i5 _ _ ⟨ch,i6,rfl,rfl,p⟩ f i7 f0 f1 cl;refine AA p.at2 rfl<|Ac (dT N f0)<|AA p.at2 rfl ?_;have⟨l,f2,f⟩:=bS f;obtain⟨i8,i9,f3,f4,f5,Q⟩:=(bf.up (ψ:=ch)).get f2;refine AF _ f3 (Ah f4 ?_);obtain⟨_,_,rfl,rfl,⟨_,_,rfl,⟨b7,rfl,cm⟩,f9⟩⟩:=f5;have b8:=cm.length;obtain⟨_,_,rfl,rfl,rfl⟩:=f9;refine AG (x:=l.1) (AJ (iG sb p.sub) (Q 0 _ rfl)) rfl<|AG (x:=b7) (by rw[An];exact(AJ (iG sb p.sub) (Q 1 _ rfl))) rfl<|AG (x:=l.2.2.1) (by rw[An];exact(AJ (iG sb p.sub) (Q 2 _ rfl))) rfl<|AG (x:=l.2.2.2) (by rw[An];exact(AJ (iG sb p.sub) (Q 3 _ rfl))) rfl<|AV (vs:=[.string ({data:=#[]}),.slice none 0 0,.string ({data:=#[]}),.string ({data:=#[]})]) p λJ ia fc=>AQ fc rfl rfl λib fd=>AQ fd rfl rfl λic fe=>AQ fe rfl rfl λie ff=>AQ ff rfl rfl λig cp=> ?_;have⟨fg,b,f⟩:=bS f;refine Aa (λy w_ g=>∃ψ:AD,Sub ch ψ∧y.1=g∧St ψ (cW 123 J [.string l.1,sv b7,.string l.2.2.1,.string l.2.2.2]::cR 9 gW E.2.1 b6::cR 9 gW A.2.1 s::Wq1 r1 g_0::F) w_) (g:=fg) ?_ ?_
  ·refine AA cp rfl ?_;have⟨ih,fh,b⟩:=bS b;refine AK (CU cp fh) ?_;rintro _ ii ⟨cs,k0,ij,rfl,rfl,o⟩;refine⟨k0,rfl,?_⟩;refine AH b rfl (λ_ b=> ?_) (λ_ b=> ?_)
   ·have fi:=o.at3;obtain rfl:=iS b;exact AO (true,()) rfl ⟨cs,sb,rfl,fi.at3.at3.at3⟩
   refine AA o rfl<|AH b (by rw[b8] <;>rfl) (λ_ b=> ?_) (λ_ b=> ?_)
   ·have fj:=o.at3;obtain rfl:=iS b;exact AO (true,()) rfl ⟨cs,sb,rfl,fj.at3.at3.at3⟩
   refine AA o rfl<|AH b rfl (λ_ b=> ?_) (λ_ b=> ?_)
   ·refine AA o rfl ?_;have⟨ik,fk,b⟩:=bS b;refine AK (CU o fk) ?_;rintro _ il ⟨fl,k1,im,rfl,rfl,b9⟩;refine⟨k1,rfl,?_⟩;refine AH b rfl (λ_ b=> ?_) (λ_ b=> ?_)
    ·have fm:=b9.at3;obtain rfl:=iS b;exact AO (true,()) rfl ⟨fl,sb,rfl,fm.at3.at3.at3⟩
    refine AA b9 rfl ?_;have⟨io,fn,b⟩:=bS b;refine AK (E5 b9 fn) ?_;rintro _ ip ⟨fo,K,iq,rfl,rfl,fp⟩;refine⟨K,rfl,?_⟩;obtain rfl:=iS b;exact AO ((!K),()) rfl ⟨fo,sb,rfl,fp.at3.at3.at3.at3⟩
   refine AA o rfl ?_;have⟨ir,fq,b⟩:=bS b;refine AK (E5 o fq) ?_;rintro _ it ⟨fr,L,iu,rfl,rfl,fs⟩;refine⟨L,rfl,?_⟩;obtain rfl:=iS b;exact AO ((!L),()) rfl ⟨fr,sb,rfl,fs.at3.at3.at3.at3⟩
  rintro k8 iv ⟨ba,iw,rfl,cw⟩;refine AH f rfl (λ_ f=> ?_) (λ_ f=> ?_)
  ·obtain rfl:=iS f;obtain rfl:=cl _ rfl;obtain rfl:=iS hd;exact Aj (Al (AC ⟨ba,false,sb,rfl,rfl,cw.tail.tail.tail.tail⟩))
  have⟨ix,ft,f⟩:=bS f;refine BZ ft (λfu y w_ g=>∃ψ:AD,Sub ba ψ∧y.1=fu∧()=g∧St ψ (cW 123 J [.string l.1,sv b7,.string l.2.2.1,.string l.2.2.2]::cR 9 gW E.2.1 b6::cR 9 gW A.2.1 s::Wq1 r1 g_0::F) w_) ((0:Int),G.2.1,()) rfl ⟨ba,sb,rfl,rfl,cw.at3.at3.at3.at3⟩ ?_ ?_ ?_
  ·rintro _ H iy _ _ ⟨iz,j0,rfl,rfl,R⟩ m j1 fv fw fx;refine AA R rfl<|Ac (dT b8 fv)<|AA R rfl<|gx cm m R λj2 m=> ?_;have⟨j3,fy,m⟩:=bS m;refine AK (CU R fy) ?_;rintro _ j4 ⟨cx,k2,j5,rfl,rfl,d0⟩;refine⟨k2,rfl,?_⟩;refine AH m rfl (λ_ m=> ?_) (λ_ m=> ?_)
   ·obtain rfl:=iS m;obtain rfl:=fx _ rfl;obtain rfl:=iS f;obtain rfl:=cl _ rfl;obtain rfl:=iS hd;exact Aj (Al (Aj (Al (AC ⟨cx,false,sb,rfl,rfl,d0.tail.tail.tail.tail⟩))))
   obtain rfl:=iS m;exact AZ ((wN H.1),H.2.1,()) _ rfl rfl ⟨cx,sb,fw,rfl,d0.at3.at3.at3.at3⟩
  ·rintro _ H j6 _ ⟨fz,j7,rfl,rfl,d1⟩ g0 g1;subst g1;refine AA d1 rfl<|AU (dF b8 g0)<|AI (AL (H.1,H.2.1,()) rfl ⟨_,rfl,_,fz,sb,rfl,rfl,d1.at3.at3.at3.at3⟩)
  rintro k3 j8 ⟨_,rfl,_,g2,j9,_,rfl,g3⟩;obtain rfl:=iS f;exact AZ ((wN G.1),k3.2.1,()) _ rfl rfl ⟨g2,sb,f1,rfl,g3.tail.at2.at2.at2⟩
 ·rintro _ G ja _ ⟨g4,jb,rfl,rfl,d2⟩ g5 g6;subst g6;refine AA d2.at2 rfl<|AU (dF N g5)<|AI (AL (G.1,G.2.1,()) rfl ⟨_,rfl,_,g4,sb,rfl,rfl,d2.at2.at2.at2⟩)
 rintro k9 jc ⟨_,rfl,_,jd,je,_,rfl,g7⟩;have⟨jf,jg,g8,g9⟩:=iE (t:=A.2.1) g7.at1;have⟨ga,jh,gb,gc⟩:=iE (t:=E.2.1) g9;have⟨gd,n,hd⟩:=bS hd;refine Aa (λy w_ g=>∃ψ:AD,Sub ga ψ∧y.1=g∧St ψ (Wq1 r1 g_0::F) w_) (g:=gd) ?_ ?_
 ·have⟨ji,ge,n⟩:=bS n;refine AK (FW g8.up gc ge) ?_;rintro _ jj ⟨gf,k4,jk,rfl,rfl,d3⟩;refine⟨k4,rfl,?_⟩;refine AH n rfl (λ_ n=> ?_) (λ_ n=> ?_)
  ·have⟨jl,gg,n⟩:=bS n;refine AK (FW gb.up d3 gg) ?_;rintro _ jm ⟨gh,M,jn,rfl,rfl,gi⟩;refine⟨M,rfl,?_⟩;obtain rfl:=iS n;exact AO (M,()) rfl ⟨gh,sb,rfl,gi⟩
  obtain rfl:=iS n;exact AO (false,()) rfl ⟨gf,sb,rfl,d3⟩
 rintro k5 jo ⟨gj,jp,rfl,gk⟩;obtain rfl:=iS hd;exact AC ⟨gj,k5.1,sb,rfl,rfl,gk.tail⟩
noncomputable def B9 (s_0:NT):Option (List Gh×List Hq×List FH×gN×List Db):=need ((5:Int)≠0)<|need ((4:Int)≠0)<|(forS (σ:=FV) 0 (s_0.2.2.2.2.2.1.length:Int) (([]:List Gh),([]:List Hq),([]:List FH),{data:=#[83]},([]:List Db)) λh s=>(idx s_0.2.2.2.2.2.1 h).bind λz=>need ((3:Int)≠0)<|need (0≤h∧h≤(gO .i64 (h+1))∧(gO .i64 (h+1)) ≤(gV {data:=#[112,113,114,115,116]} :Nat))<|(app s.2.2.1 ([((gO .i64 ((gO .i64 (gP z 3))+1)),([(gS {data:=#[112,113,114,115,116]} (gQ h) (gQ (gO .i64 (h+1))))]:List gN))]:List FH)).bind λA=>some (s.1,s.2.1,A,(s.2.2.2.1),s.2.2.2.2)).bind λQ=>(forS (σ:=FV) 0 (gO .i64 ((gO .i64 (gP s_0.1 5))+1)) Q λc a=>need (0≤c∧c≤(gO .i64 (c+1))∧(gO .i64 (c+1)) ≤(gV {data:=#[97,98,99,100,101]} :Nat))<|(app a.1 ([((gS {data:=#[97,98,99,100,101]} (gQ c) (gQ (gO .i64 (c+1)))),(gS {data:=#[97,98,99,100,101]} (gQ c) (gQ (gO .i64 (c+1)))),{data:=#[]},false)]:List Gh)).bind λb=>(cond (decide (c< (s_0.2.2.2.2.2.2.length:Int))) ((idx s_0.2.2.2.2.2.2 c).bind λl=>need ((gO .i64 ((((iB (b,a.2.1,a.2.2.1,(a.2.2.2.1),a.2.2.2.2).2.2.1):Nat):Int)+1))≠0)<|(cond (decide ((gP (gO .i64 l) (gO .i64 ((((iB (b,a.2.1,a.2.2.1,(a.2.2.2.1),a.2.2.2.2).2.2.1):Nat):Int)+1))) >0)) ((idx ((b,a.2.1,a.2.2.1,(a.2.2.2.1),a.2.2.2.2).1,(b,a.2.1,a.2.2.1,(a.2.2.2.1),a.2.2.2.2).2.1,(b,a.2.1,a.2.2.1,(a.2.2.2.1),a.2.2.2.2).2.2.1,((b,a.2.1,a.2.2.1,(a.2.2.2.1),a.2.2.2.2).2.2.2.1),(b,a.2.1,a.2.2.1,(a.2.2.2.1),a.2.2.2.2).2.2.2.2).2.2.1 (gO .i64 ((gP (gO .i64 l) (gO .i64 ((((iB (b,a.2.1,a.2.2.1,(a.2.2.2.1),a.2.2.2.2).2.2.1):Nat):Int)+1))) - 1))).bind λt=>(app ([]:List gN) t.2).bind λB=>(app B ([(gS {data:=#[97,98,99,100,101]} (gQ c) (gQ (gO .i64 (c+1))))]:List gN)).bind λC=>(idx ((b,a.2.1,a.2.2.1,(a.2.2.2.1),a.2.2.2.2).1,(b,a.2.1,a.2.2.1,(a.2.2.2.1),a.2.2.2.2).2.1,(b,a.2.1,a.2.2.1,(a.2.2.2.1),a.2.2.2.2).2.2.1,((b,a.2.1,a.2.2.1,(a.2.2.2.1),a.2.2.2.2).2.2.2.1),(b,a.2.1,a.2.2.1,(a.2.2.2.1),a.2.2.2.2).2.2.2.2).2.2.1 (gO .i64 ((gP (gO .i64 l) (gO .i64 ((((iB (b,a.2.1,a.2.2.1,(a.2.2.2.1),a.2.2.2.2).2.2.1):Nat):Int)+1))) - 1))).bind λu=>(DB (((b,a.2.1,a.2.2.1,(a.2.2.2.1),a.2.2.2.2).1,(b,a.2.1,a.2.2.1,(a.2.2.2.1),a.2.2.2.2).2.1,(b,a.2.1,a.2.2.1,(a.2.2.2.1),a.2.2.2.2).2.2.1,((b,a.2.1,a.2.2.1,(a.2.2.2.1),a.2.2.2.2).2.2.2.1),(b,a.2.1,a.2.2.1,(a.2.2.2.1),a.2.2.2.2).2.2.2.2).2.2.1) (gO .i64 ((gP (gO .i64 l) (gO .i64 ((((iB (b,a.2.1,a.2.2.1,(a.2.2.2.1),a.2.2.2.2).2.2.1):Nat):Int)+1))) - 1)) (u.1,C)).bind λv=>some (((b,a.2.1,a.2.2.1,(a.2.2.2.1),a.2.2.2.2).1,(b,a.2.1,a.2.2.1,(a.2.2.2.1),a.2.2.2.2).2.1,(b,a.2.1,a.2.2.1,(a.2.2.2.1),a.2.2.2.2).2.2.1,((b,a.2.1,a.2.2.1,(a.2.2.2.1),a.2.2.2.2).2.2.2.1),(b,a.2.1,a.2.2.1,(a.2.2.2.1),a.2.2.2.2).2.2.2.2).1,((b,a.2.1,a.2.2.1,(a.2.2.2.1),a.2.2.2.2).1,(b,a.2.1,a.2.2.1,(a.2.2.2.1),a.2.2.2.2).2.1,(b,a.2.1,a.2.2.1,(a.2.2.2.1),a.2.2.2.2).2.2.1,((b,a.2.1,a.2.2.1,(a.2.2.2.1),a.2.2.2.2).2.2.2.1),(b,a.2.1,a.2.2.1,(a.2.2.2.1),a.2.2.2.2).2.2.2.2).2.1,v,(((b,a.2.1,a.2.2.1,(a.2.2.2.1),a.2.2.2.2).1,(b,a.2.1,a.2.2.1,(a.2.2.2.1),a.2.2.2.2).2.1,(b,a.2.1,a.2.2.1,(a.2.2.2.1),a.2.2.2.2).2.2.1,((b,a.2.1,a.2.2.1,(a.2.2.2.1),a.2.2.2.2).2.2.2.1),(b,a.2.1,a.2.2.1,(a.2.2.2.1),a.2.2.2.2).2.2.2.2).2.2.2.1),((b,a.2.1,a.2.2.1,(a.2.2.2.1),a.2.2.2.2).1,(b,a.2.1,a.2.2.1,(a.2.2.2.1),a.2.2.2.2).2.1,(b,a.2.1,a.2.2.1,(a.2.2.2.1),a.2.2.2.2).2.2.1,((b,a.2.1,a.2.2.1,(a.2.2.2.1),a.2.2.2.2).2.2.2.1),(b,a.2.1,a.2.2.1,(a.2.2.2.1),a.2.2.2.2).2.2.2.2).2.2.2.2)) (some ((b,a.2.1,a.2.2.1,(a.2.2.2.1),a.2.2.2.2).1,(b,a.2.1,a.2.2.1,(a.2.2.2.1),a.2.2.2.2).2.1,(b,a.2.1,a.2.2.1,(a.2.2.2.1),a.2.2.2.2).2.2.1,((b,a.2.1,a.2.2.1,(a.2.2.2.1),a.2.2.2.2).2.2.2.1),(b,a.2.1,a.2.2.1,(a.2.2.2.1),a.2.2.2.2).2.2.2.2))).bind λD=>some D) (some (b,a.2.1,a.2.2.1,(a.2.2.2.1),a.2.2.2.2))).bind λE=>some E).bind λF=>(forS (σ:=FV) 0 (s_0.2.2.1.length:Int) F λf g=>(idx s_0.2.2.1 f).bind λm=>need ((gO .i64 ((gO .i64 (gP s_0.2.1 4))+1))≠0)<|(idx s_0.2.2.1 f).bind λn=>need ((gO .i64 ((gO .i64 (gP s_0.2.1 4))+1))≠0)<|need (0≤(gP (gO .i64 m) (gO .i64 ((gO .i64 (gP s_0.2.1 4))+1)))∧(gP (gO .i64 m) (gO .i64 ((gO .i64 (gP s_0.2.1 4))+1))) ≤(gO .i64 ((gP (gO .i64 n) (gO .i64 ((gO .i64 (gP s_0.2.1 4))+1)))+1))∧(gO .i64 ((gP (gO .i64 n) (gO .i64 ((gO .i64 (gP s_0.2.1 4))+1)))+1)) ≤(gV {data:=#[83,84,85,86]} :Nat))<|(cond (decide (f< (s_0.2.2.2.1.length:Int))) ((loop (σ:=(Int×Db)) (β:=Db) (0,((gS {data:=#[83,84,85,86]} (gQ (gP (gO .i64 m) (gO .i64 ((gO .i64 (gP s_0.2.1 4))+1)))) (gQ (gO .i64 ((gP (gO .i64 n) (gO .i64 ((gO .i64 (gP s_0.2.1 4))+1)))+1)))),([]:List gN),{data:=#[]},{data:=#[]})) λj=>(idx s_0.2.2.2.1 f).bind λw=>cond (decide (j.1< (w.length:Int))) ((idx s_0.2.2.2.1 f).bind λx=>(idx x j.1).bind λd=>need ((gO .i64 ((gO .i64 ((gO .i64 (gP s_0.1 5))+1))+(gO .i64 ((gO .i64 (gP s_0.2.1 4))+1))))≠0)<|need ((5:Int)≠0)<|need ((5:Int)≠0)<|need (0≤(gP (gP (gO .i64 d) (gO .i64 ((gO .i64 ((gO .i64 (gP s_0.1 5))+1))+(gO .i64 ((gO .i64 (gP s_0.2.1 4))+1))))) 5)∧(gP (gP (gO .i64 d) (gO .i64 ((gO .i64 ((gO .i64 (gP s_0.1 5))+1))+(gO .i64 ((gO .i64 (gP s_0.2.1 4))+1))))) 5) ≤(gO .i64 ((gP (gP (gO .i64 d) (gO .i64 ((gO .i64 ((gO .i64 (gP s_0.1 5))+1))+(gO .i64 ((gO .i64 (gP s_0.2.1 4))+1))))) 5)+1))∧(gO .i64 ((gP (gP (gO .i64 d) (gO .i64 ((gO .i64 ((gO .i64 (gP s_0.1 5))+1))+(gO .i64 ((gO .i64 (gP s_0.2.1 4))+1))))) 5)+1)) ≤(gV {data:=#[97,98,99,100,101]} :Nat))<|(cond (decide ((gP (gO .i64 d) (gO .i64 ((gO .i64 ((gO .i64 (gP s_0.1 5))+1))+(gO .i64 ((gO .i64 (gP s_0.2.1 4))+1))))) ≥ (gO .i64 ((gO .i64 (gP s_0.1 5))+1)))) (need (0≤(gO .i64 ((gP (gO .i64 d) (gO .i64 ((gO .i64 ((gO .i64 (gP s_0.1 5))+1))+(gO .i64 ((gO .i64 (gP s_0.2.1 4))+1))))) - (gO .i64 ((gO .i64 (gP s_0.1 5))+1))))∧(gO .i64 ((gP (gO .i64 d) (gO .i64 ((gO .i64 ((gO .i64 (gP s_0.1 5))+1))+(gO .i64 ((gO .i64 (gP s_0.2.1 4))+1))))) - (gO .i64 ((gO .i64 (gP s_0.1 5))+1)))) ≤(gO .i64 ((gO .i64 ((gP (gO .i64 d) (gO .i64 ((gO .i64 ((gO .i64 (gP s_0.1 5))+1))+(gO .i64 ((gO .i64 (gP s_0.2.1 4))+1))))) - (gO .i64 ((gO .i64 (gP s_0.1 5))+1))))+1))∧(gO .i64 ((gO .i64 ((gP (gO .i64 d) (gO .i64 ((gO .i64 ((gO .i64 (gP s_0.1 5))+1))+(gO .i64 ((gO .i64 (gP s_0.2.1 4))+1))))) - (gO .i64 ((gO .i64 (gP s_0.1 5))+1))))+1)) ≤(gV {data:=#[83,84,85,86]} :Nat))<|some (gS {data:=#[83,84,85,86]} (gQ (gO .i64 ((gP (gO .i64 d) (gO .i64 ((gO .i64 ((gO .i64 (gP s_0.1 5))+1))+(gO .i64 ((gO .i64 (gP s_0.2.1 4))+1))))) - (gO .i64 ((gO .i64 (gP s_0.1 5))+1))))) (gQ (gO .i64 ((gO .i64 ((gP (gO .i64 d) (gO .i64 ((gO .i64 ((gO .i64 (gP s_0.1 5))+1))+(gO .i64 ((gO .i64 (gP s_0.2.1 4))+1))))) - (gO .i64 ((gO .i64 (gP s_0.1 5))+1))))+1))))) (some (gS {data:=#[97,98,99,100,101]} (gQ (gP (gP (gO .i64 d) (gO .i64 ((gO .i64 ((gO .i64 (gP s_0.1 5))+1))+(gO .i64 ((gO .i64 (gP s_0.2.1 4))+1))))) 5)) (gQ (gO .i64 ((gP (gP (gO .i64 d) (gO .i64 ((gO .i64 ((gO .i64 (gP s_0.1 5))+1))+(gO .i64 ((gO .i64 (gP s_0.2.1 4))+1))))) 5)+1)))))).bind λG=>(app j.2.2.1 ([G]:List gN)).bind λH=>some (iT ((gO .i64 (j.1+1)),((j.2.1),H,(j.2.2.2.1),(j.2.2.2.2))))) (some (iR j.2))).bind λI=>some I) (some ((gS {data:=#[83,84,85,86]} (gQ (gP (gO .i64 m) (gO .i64 ((gO .i64 (gP s_0.2.1 4))+1)))) (gQ (gO .i64 ((gP (gO .i64 n) (gO .i64 ((gO .i64 (gP s_0.2.1 4))+1)))+1)))),([]:List gN),{data:=#[]},{data:=#[]}))).bind λo=>(cond (decide (f< (s_0.2.2.2.2.1.length:Int))) ((idx s_0.2.2.2.2.1 f).bind λi=>need ((gO .i64 ((g.2.2.1.length:Int)+1))≠0)<|(cond (decide ((gP (gO .i64 i) (gO .i64 ((g.2.2.1.length:Int)+1))) >0)) (need (0≤(gO .i64 ((gP (gO .i64 i) (gO .i64 ((g.2.2.1.length:Int)+1))) - 1))∧(gO .i64 ((gP (gO .i64 i) (gO .i64 ((g.2.2.1.length:Int)+1))) - 1)) ≤(gP (gO .i64 i) (gO .i64 ((g.2.2.1.length:Int)+1)))∧(gP (gO .i64 i) (gO .i64 ((g.2.2.1.length:Int)+1))) ≤(gV {data:=#[112,113,114,115,116]} :Nat))<|some ((o.1),o.2.1,(gS {data:=#[112,113,114,115,116]} (gQ (gO .i64 ((gP (gO .i64 i) (gO .i64 ((g.2.2.1.length:Int)+1))) - 1))) (gQ (gP (gO .i64 i) (gO .i64 ((g.2.2.1.length:Int)+1))))),(o.2.2.2))) (some o)).bind λJ=>some J) (some o)).bind λr=>(app g.2.2.2.2 ([((r.1),r.2.1,(r.2.2.1),(r.2.2.2))]:List Db)).bind λK=>some (g.1,g.2.1,g.2.2.1,(g.2.2.2.1),K)).bind λL=>(forS (σ:=FV) 0 (gO .i64 ((gO .i64 (gP s_0.2.1 4))+1)) L λe k=>need (0≤e∧e≤(gO .i64 (e+1))∧(gO .i64 (e+1)) ≤(gV {data:=#[83,84,85,86]} :Nat))<|(loop (σ:=(Int×Bool)) (β:=Bool) (0,false) λp=>cond (decide (p.1< (k.2.2.2.2.length:Int))) ((cond p.2 (some true) ((idx k.2.2.2.2 p.1).bind λy=>some (gT y.1==gT (gS {data:=#[83,84,85,86]} (gQ e) (gQ (gO .i64 (e+1))))))).bind λM=>some (iT ((gO .i64 (p.1+1)),M))) (some (iR p.2))).bind λN=>(cond (!N) ((app k.2.2.2.2 ([((gS {data:=#[83,84,85,86]} (gQ e) (gQ (gO .i64 (e+1)))),([]:List gN),{data:=#[]},{data:=#[]})]:List Db)).bind λO=>some (k.1,k.2.1,k.2.2.1,(k.2.2.2.1),O)) (some k)).bind λP=>some P).bind λq=>some (q.1,q.2.1,q.2.2.1,(q.2.2.2.1),q.2.2.2.2)
theorem Fh {s_0:Int×Int×Slc×Slc×Slc×Slc×Slc×Unit}{c3:gM}{c4:List gM}{c5:gM}{c6:gM}{c7:gM}(c8:Ro.SliceIs (hQ .u8) φ s_0.2.2.1 c3) (c9:Ro.SliceIs (oA (hQ .u8)) φ s_0.2.2.2.1 c4) (de:Ro.SliceIs (hQ .u8) φ s_0.2.2.2.2.1 c5) (df:Ro.SliceIs (hQ .u8) φ s_0.2.2.2.2.2.1 c6) (dg:Ro.SliceIs (hQ .u8) φ s_0.2.2.2.2.2.2.1 c7) (s0:St φ (F) h) {r:(List Gh×List Hq×List FH×gN×List Db)}(hd:B9 (s_0.1,s_0.2.1,c3,c4,c5,c6,c7)=some r):
 CallsH gR 23 [(.agg #[(.int .u8 s_0.1),(.int .u8 s_0.2.1),(sv s_0.2.2.1),(sv s_0.2.2.2.1),(sv s_0.2.2.2.2.1),(sv s_0.2.2.2.2.2.1),(sv s_0.2.2.2.2.2.2.1)])] h (Ap λv h'=>∃ψ:AD,∃y:Slc×Slc×Slc×gN×Slc×Unit,∃dh:List Gh,∃di:List Hq,∃dj:List FH,∃dk:List Db,Sub φ ψ∧v=((.one (.agg [.slice,.slice,.slice,.string,.slice])):Sh).val y∧(dh,di,dj,y.2.2.2.1,dk)=r∧Ro.SliceIs Gi ψ y.1 dh∧Ro.SliceIs Mf ψ y.2.1 di∧Ro.SliceIs GN ψ y.2.2.1 dj∧Ro.SliceIs Fx ψ y.2.2.2.2.1 dk∧St ψ (F) h'):=by
 refine AY mixed Tryz.func23 (Ff ..) ?_;have dl:s_0.2.2.1.2.1=iB c3:=c8.length;have fs:s_0.2.2.2.1.2.1=iB c4:=c9.length;have ft:s_0.2.2.2.2.1.2.1=iB c5:=de.length;have dm:s_0.2.2.2.2.2.1.2.1=iB c6:=df.length;have fu:s_0.2.2.2.2.2.2.1.2.1=iB c7:=dg.length;refine AV (vs:=[.int .u8 s_0.1,.int .u8 s_0.2.1,sv s_0.2.2.1,sv s_0.2.2.2.1,sv s_0.2.2.2.2.1,sv s_0.2.2.2.2.2.1,sv s_0.2.2.2.2.2.2.1]) s0 λr1 n2 fv=>AV (vs:=[.slice none 0 0,.slice none 0 0,.slice none 0 0,.string ({data:=#[]}),.slice none 0 0]) fv λD n3 ch=>AA ch.at1 rfl<|C7 hd id λn4 hd=>AA ch.at1 rfl<|C7 hd id λn5 hd=>AV (vs:=[.slice none 0 0,.slice none 0 0,.slice none 0 0,.string ({data:=#[]}),.slice none 0 0]) ch λA n6 fw=>AQ fw rfl rfl λn7 fx=>AQ fx rfl rfl λn8 fy=>AQ fy rfl rfl λn9 fz=>AQ fz rfl rfl λna g0=>AQ g0 rfl rfl λnb g1=> ?_;have g2:=GL (t0:=((none,0,0):Slc)) (t1:=((none,0,0):Slc)) (t2:=((none,0,0):Slc)) (t4:=((none,0,0):Slc)) (x1:=([]:List Hq)) (x3:={data:=#[83]}) (((g1.nil 127 Gi).nil 130 GN).nil 123 Fx).at3.at3.at3.at3 (hU Mf φ);have⟨nc,g3,hd⟩:=bS hd;refine BM g3 (λg4 y w_ g=>∃ψ:AD,∃dn:FV,Sub φ ψ∧y.1=g4∧dn=g∧St ψ (cO 66 IU (fH A) dn::Wq4 D::Wq0 r1 s_0::F) w_) ((0:Int),()) rfl ⟨φ,(([]:List Gh),[],[],{data:=#[83]},([]:List Db)),sb,rfl,rfl,g2.at2.at2.at2⟩ ?_ ?_ ?_
 ·rintro _ I nd _ _ ⟨g5,T,nf,rfl,rfl,dp⟩ u ng g6 g7;refine AA dp.at2 rfl<|Ac (dT dm g6) ?_;have⟨g8,nh,ni,nj,nk,dq,g9,bj⟩:=IV dp;obtain rfl:A=g8:=by simpa using dq
  clear dq;refine AA bj.at3 rfl<|AA bj.at5 rfl ?_;have⟨cl,ga,u⟩:=bS u;obtain⟨nl,nm,gb,gc,gd,dr⟩:=(df.up (ψ:=g5)).get ga;refine AF _ gb (Ah gc ?_);obtain rfl:=gd;refine AG (x:=cl) (AJ (iG sb bj.sub) (dr 0 _ rfl)) rfl<|C7 u id λnn u=>C7 u id λnp u=>GJ bj λJ nq nr bl=>AN (AJ (iG sb bl.sub) (dr 0 _ rfl))<|AN (iH (b:=r1) (j:=5) bl.at6 rfl)<|AN (iH (b:=A) (j:=2) bl.at4 rfl)<|AV (vs:=[.int .i64 (gO .i64 ((gO .i64 (gP cl (3:Int)))+(1:Int))),.slice (fH J) 1 1]) bl λu3 ns ds=>AN (iH (b:=A) (j:=2) ds.at5 rfl) ?_;have ge:=kT (r:=gW) (l:=([(gS {data:=#[112,113,114,115,116]} (gQ I.1) (gQ (wN I.1)))]:List gN)) (n:=1) ds.at1 (.cons (a:=[_]) rfl .nil) rfl (by decide);have⟨gf,nt,gg,dt⟩:=iE (t:=((some ⟨J,0,none⟩,1,1):Slc)) ge;have⟨gh,gi,u⟩:=bS u;refine AX (r:=GN) (ms:=([((gO .i64 ((gO .i64 (gP cl (3:Int)))+(1:Int))),([(gS {data:=#[112,113,114,115,116]} (gQ I.1) (gQ (wN I.1)))]:List gN))]:List FH)) Tt dt.tail.at1 rfl (iY dt) (.cons (a:=[_,_]) ⟨[_],_,rfl,rfl,⟨((some ⟨J,0,none⟩,1,1):Slc),rfl,gg⟩⟩ .nil) rfl gi ?_;intro u4 nu gj;refine AQ gj.at3 rfl rfl λnv gk=> ?_;obtain rfl:=iS u;exact AZ ((wN I.1),()) _ rfl rfl ⟨gf,(T.1,T.2.1,gh,(T.2.2.2.1),T.2.2.2.2),sb,g7,rfl,((((GL (x1:=T.2.1) (x3:=(T.2.2.2.1)) gk.at3.at2.at3.at3.at3.at3.at3 g9.up).at2).at2).at2)⟩
 ·rintro _ I nw ⟨gl,gm,nx,rfl,rfl,du⟩ gn;refine AA du.at2 rfl<|AU (dF dm gn)<|AI (AL (I.1,()) rfl ⟨_,gl,gm,sb,rfl,rfl,du.at2.at2.at2⟩)
 rintro z6 ny ⟨_,dv,go,nz,_,rfl,gp⟩;have⟨o0,gq,hd⟩:=bS hd;refine BM gq (λgr y w_ g=>∃ψ:AD,∃dw:FV,Sub dv ψ∧y.1=gr∧dw=g∧St ψ (cO 66 IU (fH A) dw::Wq4 D::Wq0 r1 s_0::F) w_) ((0:Int),()) rfl ⟨dv,go,sb,rfl,rfl,gp.at2.at2.at2⟩ ?_ ?_ ?_
 ·rintro _ B o1 _ _ ⟨bn,e,o2,rfl,rfl,gs⟩ K o3 gt gu;refine Ac (by exact gC gt)<|C7 K id λo4 K=> ?_;have⟨gv,o5,o6,o7,o8,dx,gw,dy⟩:=IV gs;obtain rfl:A=gv:=by simpa using dx
  clear dx;refine AA dy.at3 rfl<|AV (vs:=[.string (gS {data:=#[97,98,99,100,101]} (gQ B.1) (gQ (wN B.1))),.string (gS {data:=#[97,98,99,100,101]} (gQ B.1) (gQ (wN B.1))),.string ({data:=#[]}),.bool false]) dy λu5 o9 dz=> ?_;have⟨b8,gy,K⟩:=bS K;refine AX (r:=Gi) (ms:=([((gS {data:=#[97,98,99,100,101]} (gQ B.1) (gQ (wN B.1))),(gS {data:=#[97,98,99,100,101]} (gQ B.1) (gQ (wN B.1))),{data:=#[]},false)]:List Gh)) Ts dz.tail.at2 rfl (iY dz) (.cons (a:=[_,_,_,_]) ⟨[_],_,rfl,rfl,⟨[_],_,rfl,rfl,⟨[_],_,rfl,rfl,rfl⟩⟩⟩ .nil) rfl gy ?_;intro u6 oa gz;refine AQ gz.at3 rfl rfl λob e0=>AA e0.at5 rfl ?_;have bp:=GL (x1:=e.2.1) (x3:=(e.2.2.2.1)) e0.at1.at3.at3.at3.at3.at3.at3 gw;have⟨h0,q,K⟩:=bS K;refine Aa (λy w_ g=>∃ψ:AD,∃e1:FV,Sub bn ψ∧e1=g∧St ψ (cO 66 IU (fH A) e1::Wq4 D::Wq0 r1 s_0::F) w_) (g:=h0) ?_ ?_
  ·refine AH q (by rw[fu] <;>rfl) (λ_ q=> ?_) (λ_ q=> ?_)
   ·refine AA bp.at2 rfl<|gx dg q bp λoc q=> ?_;have⟨h1,od,oe,og,oh,e2,h2,cm⟩:=IV bp;obtain rfl:A=h1:=by simpa using e2
    clear e2;have w:=(cm.at1).rowLen;refine AA cm.at3 rfl<|C7 q (by rw[w];exact id) λoi q=> ?_;have e3:=GL (x1:=e.2.1) (x3:=((e.2.2.2.1))) cm.at2.at2.at2.at3.at3.at3.at3 h2;have⟨h3,d,q⟩:=bS q;refine Aa (λy w_ g=>∃ψ:AD,∃e4:FV,Sub bn ψ∧e4=g∧St ψ (cO 66 IU (fH A) e4::Wq4 D::Wq0 r1 s_0::F) w_) (g:=h3) ?_ ?_
    ·refine AH d (by rw[w] <;>rfl) (λ_ d=> ?_) (λ_ d=> ?_)
     ·have⟨h4,oj,ok,ol,om,e5,cp,b9⟩:=IV e3;obtain rfl:A=h4:=by simpa using e5
      clear e5;refine AA b9.at3 rfl<|AA b9.at3 rfl ?_;have⟨cw,e6,d⟩:=bS d;rw[←w]at e6;obtain⟨on,oo,h5,h6,h7,ba⟩:=(b9.at1).get e6;refine AF _ h5 (Ah h6 ?_);obtain⟨_,_,rfl,rfl,⟨hb,rfl,bq⟩⟩:=h7;have cx:=bq.length;refine AG (x:=hb) (by rw[An];exact(ba 1 _ rfl)) rfl<|DY ?_ ?_
      ·refine GJ b9 λu7 op e7 bb=>AN (by rw[An];exact(e7 _ _ (ba 1 _ rfl)))<|AN (iH (b:=A) (j:=2) bb.at4 rfl)<|AN (iH (b:=A) (j:=2) bb.at4 rfl)<|DY ?_ ?_
       ·have⟨oq,hc,he⟩:=bq.heap bb.sub;have hf:=kT (r:=gW) (l:=([]:List gN)) (n:=0) bb .nil rfl (by decide);have⟨os,hg,d⟩:=bS d;refine AX (r:=gW) (ms:=cw.2) Cj hf rfl he hc cx.symm hg ?_;intro u9 ot e8;refine AN (iH (b:=A) (j:=2) e8.at4 rfl)<|AV (vs:=[.string (gS {data:=#[97,98,99,100,101]} (gQ B.1) (gQ (wN B.1)))]) e8 λv0 ou d0=>AN (iH (b:=A) (j:=2) d0.at5 rfl) ?_;have⟨ov,hh,d⟩:=bS d;refine AX (r:=gW) (ms:=([(gS {data:=#[97,98,99,100,101]} (gQ B.1) (gQ (wN B.1)))]:List gN)) Cj d0.tail rfl (iY d0) (.cons (a:=[_]) rfl .nil) rfl hh ?_;intro h8 ow d1;refine AN (iH (b:=A) (j:=2) d1.at4 rfl) ?_;have⟨ox,d2,d⟩:=bS d;rw[←w]at d2;obtain⟨oy,oz,e9,hi,hj,p0⟩:=(d1.at2).get d2;refine AF _ e9 (Ah hi ?_);obtain⟨_,_,rfl,rfl,⟨p1,rfl,p2⟩⟩:=hj;have⟨hm,p3,hn,ho⟩:=iE (t:=h8) d1;have⟨hp,ea,d⟩:=bS d;rw[←w]at ea;refine Q9 (j:=1) ho.at1 d2 ea (by rintro _ ⟨_,_,rfl,rfl,⟨t1,rfl,q1⟩⟩;exact⟨[_],_,rfl,rfl,⟨h8,rfl,hn⟩⟩) rfl rfl e9 (by rw[An];rfl) λp4 hq=> ?_;obtain rfl:=iS d;exact AO (()) rfl ⟨hm,(b8,e.2.1,hp,(((e.2.2.2.1))),e.2.2.2.2),sb,rfl,((((GL (x1:=e.2.1) (x3:=(((e.2.2.2.1)))) hq.at2.at1.at2.at3.at3.at3.at3 cp.up).at2).at2).at2)⟩
       ·refine GJ bb λv1 p5 hr bs=>AN (by rw[An];exact(hr _ _ (e7 _ _ (ba 1 _ rfl))))<|AN (iH (b:=A) (j:=2) bs.at5 rfl)<|AN (iH (b:=A) (j:=2) bs.at5 rfl) ?_;have⟨p6,hs,ht⟩:=bq.heap bs.sub;have hu:=kT (r:=gW) (l:=([]:List gN)) (n:=0) bs.at1 .nil rfl (by decide);have⟨p7,hv,d⟩:=bS d;refine AX (r:=gW) (ms:=cw.2) Cj hu rfl ht hs cx.symm hv ?_;intro v2 p8 d3;refine AN (iH (b:=A) (j:=2) d3.at5 rfl) ?_;have⟨p9,hw,d⟩:=bS d;refine AX (r:=gW) (ms:=([(gS {data:=#[97,98,99,100,101]} (gQ B.1) (gQ (wN B.1)))]:List gN)) Cj d3.at1.tail rfl (iY d3.at1) (.cons (a:=[_]) rfl .nil) rfl hw ?_;intro h9 pa d4;refine AN (iH (b:=A) (j:=2) d4.at4 rfl) ?_;have⟨pb,d5,d⟩:=bS d;rw[←w]at d5;obtain⟨pc,pd,eb,hx,hy,pe⟩:=(d4.at2).get d5;refine AF _ eb (Ah hx ?_);obtain⟨_,_,rfl,rfl,⟨pf,rfl,pg⟩⟩:=hy;have⟨i1,ph,i2,i3⟩:=iE (t:=h9) d4;have⟨i4,ec,d⟩:=bS d;rw[←w]at ec;refine Q9 (j:=1) i3.at1 d5 ec (by rintro _ ⟨_,_,rfl,rfl,⟨t1,rfl,q1⟩⟩;exact⟨[_],_,rfl,rfl,⟨h9,rfl,i2⟩⟩) rfl rfl eb (by rw[An];rfl) λpi i5=> ?_;obtain rfl:=iS d;exact AO (()) rfl ⟨i1,(b8,e.2.1,i4,(((e.2.2.2.1))),e.2.2.2.2),sb,rfl,((((GL (x1:=e.2.1) (x3:=(((e.2.2.2.1)))) i5.at2.at1.at2.at3.at3.at3.at3 cp.up).at2).at2).at2)⟩
      ·refine GJ b9 λv3 pj ed d6=>AN (by rw[An];exact(ed _ _ (ba 1 _ rfl)))<|AN (iH (b:=A) (j:=2) d6.at4 rfl)<|AN (iH (b:=A) (j:=2) d6.at4 rfl)<|GJ d6 λv4 pk i6 bt=>AN (by rw[An];exact(i6 _ _ (ed _ _ (ba 1 _ rfl))))<|AN (iH (b:=A) (j:=2) bt.at5 rfl)<|AN (iH (b:=A) (j:=2) bt.at5 rfl) ?_;have⟨pl,i7,i8⟩:=bq.heap bt.sub;have i9:=kT (r:=gW) (l:=([]:List gN)) (n:=0) bt .nil rfl (by decide);have⟨pm,ia,d⟩:=bS d;refine AX (r:=gW) (ms:=cw.2) Cj i9 rfl i8 i7 cx.symm ia ?_;intro v5 pn d7;refine AN (iH (b:=A) (j:=2) d7.at5 rfl) ?_;have⟨po,ib,d⟩:=bS d;refine AX (r:=gW) (ms:=([(gS {data:=#[97,98,99,100,101]} (gQ B.1) (gQ (wN B.1)))]:List gN)) Cj d7.at1.tail rfl (iY d7.at1) (.cons (a:=[_]) rfl .nil) rfl ib ?_;intro i0 pp d8;refine AN (iH (b:=A) (j:=2) d8.at4 rfl) ?_;have⟨pq,d9,d⟩:=bS d;rw[←w]at d9;obtain⟨pr,ps,ee,ic,ie,pt⟩:=(d8.at2).get d9;refine AF _ ee (Ah ic ?_);obtain⟨_,_,rfl,rfl,⟨pu,rfl,pv⟩⟩:=ie;have⟨ii,pw,ij,ik⟩:=iE (t:=i0) d8;have⟨il,ef,d⟩:=bS d;rw[←w]at ef;refine Q9 (j:=1) ik.at1 d9 ef (by rintro _ ⟨_,_,rfl,rfl,⟨t1,rfl,q1⟩⟩;exact⟨[_],_,rfl,rfl,⟨i0,rfl,ij⟩⟩) rfl rfl ee (by rw[An];rfl) λpx im=> ?_;obtain rfl:=iS d;exact AO (()) rfl ⟨ii,(b8,e.2.1,il,(((e.2.2.2.1))),e.2.2.2.2),sb,rfl,((((GL (x1:=e.2.1) (x3:=(((e.2.2.2.1)))) im.at2.at1.at2.at3.at3.at3.at3 cp.up).at2).at2).at2)⟩
     obtain rfl:=iS d;exact AO (()) rfl ⟨bn,(b8,e.2.1,e.2.2.1,((e.2.2.2.1)),e.2.2.2.2),sb,rfl,e3.at2.at2.at2⟩
    rintro v6 py ⟨io,ip,pz,rfl,iq⟩;obtain rfl:=iS q;exact AO (()) rfl ⟨io,ip,sb,rfl,iq.at2.at2.at2⟩
   obtain rfl:=iS q;exact AO (()) rfl ⟨bn,(b8,e.2.1,e.2.2.1,(e.2.2.2.1),e.2.2.2.2),sb,rfl,bp.at2.at2.at2⟩
  rintro v7 q0 ⟨ir,it,q2,rfl,iu⟩;obtain rfl:=iS K;exact AZ ((wN B.1),()) _ rfl rfl ⟨ir,it,sb,gu,rfl,iu.at2.at2.at2⟩
 ·rintro _ B q3 ⟨iv,iw,q4,rfl,rfl,ix⟩ iy;refine AU (by exact gB (kQ.2 iy))<|AI (AL (B.1,()) rfl ⟨_,iv,iw,sb,rfl,rfl,ix.at2.at2.at2⟩)
 rintro v8 q5 ⟨_,eg,iz,q6,_,rfl,j0⟩;have⟨q7,j1,hd⟩:=bS hd;refine BM j1 (λj2 y w_ g=>∃ψ:AD,∃eh:FV,Sub eg ψ∧y.1=j2∧eh=g∧St ψ (cO 66 IU (fH A) eh::Wq4 D::Wq0 r1 s_0::F) w_) ((0:Int),()) rfl ⟨eg,iz,sb,rfl,rfl,j0.at2.at2.at2⟩ ?_ ?_ ?_
 ·rintro _ L q8 _ _ ⟨z,c,q9,rfl,rfl,U⟩ k qa j3 j4;refine AA U.at2 rfl<|Ac (dT dl j3)<|AA U.at2 rfl ?_;have⟨V,j5,k⟩:=bS k;obtain⟨qb,qc,j6,j7,j8,ei⟩:=(c8.up (ψ:=z)).get j5;refine AF _ j6 (Ah j7 ?_);obtain rfl:=j8;refine AG (x:=V) (AJ (iG sb U.sub) (ei 0 _ rfl)) rfl<|C7 k id λqd k=>AA U.at2 rfl ?_;have⟨W,j9,k⟩:=bS k;obtain⟨qe,qf,ja,jb,jc,ej⟩:=(c8.up (ψ:=z)).get j9;refine AF _ ja (Ah jb ?_);obtain rfl:=jc;refine AG (x:=W) (AJ (iG sb U.sub) (ej 0 _ rfl)) rfl<|C7 k id λqg k=>C7 k id λqh k=>GJ U λC qi qj bd=>AN (AJ (iG sb bd.sub) (ej 0 _ rfl))<|AN (iH (b:=r1) (j:=2) bd.at3 rfl)<|AN (AJ (iG sb bd.sub) (ei 0 _ rfl))<|AN (iH (b:=r1) (j:=2) bd.at3 rfl)<|AQ bd rfl rfl λqk jd=>AQ jd rfl rfl λql je=>AQ je rfl rfl λqm jf=>AQ jf rfl rfl λqn ek=>AA ek.at3 rfl ?_;have jg:=jE (r:=gW) (cs:=[.string ({data:=#[]})]) (x:={data:=#[]}) (jE (r:=gW) (cs:=[.string ({data:=#[]})]) (x:={data:=#[]}) (ek.nil 9 gW) rfl) rfl;have jh:=jE (r:=gW) (cs:=[.string (gS {data:=#[83,84,85,86]} (gQ (gP (gO .i64 V) (gO .i64 ((gO .i64 (gP s_0.2.1 (4:Int)))+(1:Int))))) (gQ (gO .i64 ((gP (gO .i64 W) (gO .i64 ((gO .i64 (gP s_0.2.1 (4:Int)))+(1:Int))))+(1:Int)))))]) (x:=(gS {data:=#[83,84,85,86]} (gQ (gP (gO .i64 V) (gO .i64 ((gO .i64 (gP s_0.2.1 (4:Int)))+(1:Int))))) (gQ (gO .i64 ((gP (gO .i64 W) (gO .i64 ((gO .i64 (gP s_0.2.1 (4:Int)))+(1:Int))))+(1:Int)))))) (iU ((iU jg).at1)) rfl;have el:St z (cO 123 Rq0 (fH C) ((gS {data:=#[83,84,85,86]} (gQ (gP (gO .i64 V) (gO .i64 ((gO .i64 (gP s_0.2.1 (4:Int)))+(1:Int))))) (gQ (gO .i64 ((gP (gO .i64 W) (gO .i64 ((gO .i64 (gP s_0.2.1 (4:Int)))+(1:Int))))+(1:Int))))),[],{data:=#[]},{data:=#[]})::cO 66 IU (fH A) c::Wq4 D::Wq0 r1 s_0::F) _:=lT (iU jh).at1;have⟨ji,M,k⟩:=bS k;refine Aa (λy w_ g=>∃ψ:AD,∃em:Db,Sub z ψ∧em=g∧St ψ (cO 123 Rq0 (fH C) em::cO 66 IU (fH A) c::Wq4 D::Wq0 r1 s_0::F) w_) (g:=ji) ?_ ?_
  ·refine AH M (by rw[fs] <;>rfl) (λ_ M=> ?_) (λ_ M=> ?_)
   ·have jj:=el.at3;have⟨jk,jl,M⟩:=bS M;refine Ag (λy w_ g=>∃ψ:AD,∃en:Db,Sub z ψ∧en=g∧St ψ (cO 123 Rq0 (fH C) en::cO 66 IU (fH A) c::Wq4 D::Wq0 r1 s_0::F) w_) (g:=jk) ?_ ?_
    ·refine CA jl (λy w_ g=>∃ψ:AD,∃eo:Db,Sub z ψ∧(y.1,eo)=g∧St ψ (cO 123 Rq0 (fH C) eo::cO 66 IU (fH A) c::Wq4 D::Wq0 r1 s_0::F) w_) ((0:Int),()) rfl ⟨z,((gS {data:=#[83,84,85,86]} (gQ (gP (gO .i64 V) (gO .i64 ((gO .i64 (gP s_0.2.1 (4:Int)))+(1:Int))))) (gQ (gO .i64 ((gP (gO .i64 W) (gO .i64 ((gO .i64 (gP s_0.2.1 (4:Int)))+(1:Int))))+(1:Int))))),[],{data:=#[]},{data:=#[]}),sb,rfl,jj.at3.at3.at3⟩ ?_
     ·rintro u0 qo _ _ ⟨bx,i,qp,rfl,a0⟩ f jm;refine AA a0.at3 rfl<|gxS c9 f a0 λqq qr jn f=> ?_;have jo:=jn.length;refine AH f (by rw[jo] <;>rfl) (λ_ f=> ?_) (λ_ f=> ?_)
      ·refine AA a0.at3 rfl<|gxS c9 f a0 λqs qt jp f=>gx jp f a0 λbz f=>C7 f id λqu f=>C7 f id λqv f=>C7 f id λqw f=>C7 f id λqx f=> ?_;have⟨jq,N,f⟩:=bS f;refine Aa (λy w_ g=>∃ψ:AD,Sub bx ψ∧y.1=g∧St ψ (cO 123 Rq0 (fH C) i::cO 66 IU (fH A) c::Wq4 D::Wq0 r1 s_0::F) w_) (g:=jq) ?_ ?_
       ·refine AH N rfl (λ_ N=> ?_) (λ_ N=> ?_)
        ·refine C7 N id λqy N=> ?_;obtain rfl:=iS N;exact AO ((gS {data:=#[83,84,85,86]} (gQ (gO .i64 ((gP (gO .i64 bz) (gO .i64 ((gO .i64 ((gO .i64 (gP s_0.1 (5:Int)))+(1:Int)))+(gO .i64 ((gO .i64 (gP s_0.2.1 (4:Int)))+(1:Int)))))) - (gO .i64 ((gO .i64 (gP s_0.1 (5:Int)))+(1:Int)))))) (gQ (gO .i64 ((gO .i64 ((gP (gO .i64 bz) (gO .i64 ((gO .i64 ((gO .i64 (gP s_0.1 (5:Int)))+(1:Int)))+(gO .i64 ((gO .i64 (gP s_0.2.1 (4:Int)))+(1:Int)))))) - (gO .i64 ((gO .i64 (gP s_0.1 (5:Int)))+(1:Int)))))+(1:Int))))),()) rfl ⟨bx,sb,rfl,a0.at3.at3.at3.at3⟩
        obtain rfl:=iS N;exact AO ((gS {data:=#[97,98,99,100,101]} (gQ (gP (gP (gO .i64 bz) (gO .i64 ((gO .i64 ((gO .i64 (gP s_0.1 (5:Int)))+(1:Int)))+(gO .i64 ((gO .i64 (gP s_0.2.1 (4:Int)))+(1:Int)))))) (5:Int))) (gQ (gO .i64 ((gP (gP (gO .i64 bz) (gO .i64 ((gO .i64 ((gO .i64 (gP s_0.1 (5:Int)))+(1:Int)))+(gO .i64 ((gO .i64 (gP s_0.2.1 (4:Int)))+(1:Int)))))) (5:Int))+(1:Int))))),()) rfl ⟨bx,sb,rfl,a0.at3.at3.at3.at3⟩
       rintro u1 qz ⟨da,r0,rfl,jr⟩;obtain⟨js,r3,ep,r4,jt⟩:=jr.open;obtain rfl:C=js:=by simpa using ep
       clear ep;obtain⟨r6,r7,rfl,r8,ju⟩:=jt.at1.pair;obtain⟨jv,jw⟩:=ju.ro;subst jv;obtain⟨r9,ra,rfl,rb,er⟩:=jw.pair;obtain⟨es,jx⟩:=er.rowCs;subst jx;obtain⟨rc,rd,rfl,re,jy⟩:=er.at1.pair;obtain⟨jz,k0⟩:=jy.ro;subst jz;obtain⟨k1,k2⟩:=k0.ro;subst k1;have eu:St da (cR 9 gW es i.2.1::cW 123 C [.string (i.1),sv es,.string (i.2.2.1),.string (i.2.2.2)]::cO 66 IU (fH A) c::Wq4 D::Wq0 r1 s_0::F) _:=k2;refine AA eu.at1 rfl<|AV (vs:=[.string u1.1]) eu λv9 rf ev=> ?_;have⟨ew,k3,f⟩:=bS f;refine AX (r:=gW) (ms:=([u1.1]:List gN)) Cj ev.tail rfl (iY ev) (.cons (a:=[_]) rfl .nil) rfl k3 ?_;intro w0 rg k4;refine AQ k4.at1 rfl rfl λrh k5=> ?_;have k6:=jE (r:=gW) (cs:=[.string (i.2.2.1)]) (x:=(i.2.2.1)) (jE (r:=gW) (cs:=[.string (i.2.2.2)]) (x:=(i.2.2.2)) k5.at1 rfl) rfl;have k7:St da (cO 123 Rq0 (fH C) ((i.1),ew,(i.2.2.1),(i.2.2.2))::cO 66 IU (fH A) c::Wq4 D::Wq0 r1 s_0::F) _:=lT (iU (jE (r:=gW) (cs:=[.string (i.1)]) (x:=(i.1)) (iU ((iU k6).at1)) rfl)).at1;obtain rfl:=iS f;exact AZ ((wN u0.1),()) _ rfl rfl ⟨da,((i.1),ew,(i.2.2.1),(i.2.2.2)),sb,rfl,k7.at3.at3.at3.at3⟩
      obtain rfl:=iS f;obtain rfl:=jm _ rfl;exact AI (AL (u0.1,()) rfl ⟨bx,i,sb,rfl,a0.at3.at3.at3.at3⟩)
    rintro w1 ri ⟨k8,k9,rj,rfl,ka⟩;obtain rfl:=iS M;exact AO (()) rfl ⟨k8,k9,sb,rfl,ka.at3.at3.at3.at3⟩
   obtain rfl:=iS M;exact AO (()) rfl ⟨z,((gS {data:=#[83,84,85,86]} (gQ (gP (gO .i64 V) (gO .i64 ((gO .i64 (gP s_0.2.1 (4:Int)))+(1:Int))))) (gQ (gO .i64 ((gP (gO .i64 W) (gO .i64 ((gO .i64 (gP s_0.2.1 (4:Int)))+(1:Int))))+(1:Int))))),[],{data:=#[]},{data:=#[]}),sb,rfl,el.at3.at3.at3.at3⟩
  rintro w2 rk ⟨O,o,rl,rfl,bf⟩;refine AA bf.at3 rfl ?_;have⟨kb,s,k⟩:=bS k;refine Aa (λy w_ g=>∃ψ:AD,∃ex:Db,Sub O ψ∧ex=g∧St ψ (cO 123 Rq0 (fH C) ex::cO 66 IU (fH A) c::Wq4 D::Wq0 r1 s_0::F) w_) (g:=kb) ?_ ?_
  ·refine AH s (by rw[ft] <;>rfl) (λ_ s=> ?_) (λ_ s=> ?_)
   ·refine AA bf.at3 rfl<|gx de s bf λG s=> ?_;have⟨kc,X,db,H,Y,ey,kd,c0⟩:=IV bf.at1;obtain rfl:A=kc:=by simpa using ey
    clear ey;have c1:=(c0.at1).rowLen;refine AA c0.at3 rfl<|C7 s (by rw[c1];exact id) λrm s=> ?_;have⟨ke,P,s⟩:=bS s;refine Aa (λy w_ g=>∃ψ:AD,∃ez:Db,Sub O ψ∧ez=g∧St ψ (cO 123 Rq0 (fH C) ez::cR 123 Fx Y c.2.2.2.2::cR 130 GN H c.2.2.1::cR 127 Gi X c.1::cW 66 A [sv X,sv db,sv H,.string (c.2.2.2.1),sv Y]::Wq4 D::Wq0 r1 s_0::F) w_) (g:=ke) ?_ ?_
    ·refine AH P (by rw[c1] <;>rfl) (λ_ P=> ?_) (λ_ P=> ?_)
     ·refine C7 P (by rw[c1];exact id) λrn P=> ?_;obtain⟨kf,rp,f0,rq,kg⟩:=c0.at4.open;obtain rfl:C=kf:=by simpa using f0
      clear f0;obtain⟨rr,rs,rfl,rt,kh⟩:=kg.at1.pair;obtain⟨ki,kj⟩:=kh.ro;subst ki;obtain⟨ru,rv,rfl,rx,f1⟩:=kj.pair;obtain⟨f2,kk⟩:=f1.rowCs;subst kk;obtain⟨ry,rz,rfl,s1,kl⟩:=f1.at1.pair;obtain⟨km,kn⟩:=kl.ro;subst km;obtain⟨ko,kp⟩:=kn.ro;subst ko;have kq:St O (cR 9 gW f2 o.2.1::cW 123 C [.string (o.1),sv f2,.string (o.2.2.1),.string (o.2.2.2)]::cR 123 Fx Y c.2.2.2.2::cR 130 GN H c.2.2.1::cR 127 Gi X c.1::cW 66 A [sv X,sv db,sv H,.string (c.2.2.2.1),sv Y]::Wq4 D::Wq0 r1 s_0::F) _:=kp;refine AQ kq.at1 rfl rfl λs2 kr=> ?_;have ks:=jE (r:=gW) (cs:=[.string (gS {data:=#[112,113,114,115,116]} (gQ (gO .i64 ((gP (gO .i64 G) (gO .i64 ((H.2.1:Int)+(1:Int)))) - (1:Int)))) (gQ (gP (gO .i64 G) (gO .i64 ((H.2.1:Int)+(1:Int))))))]) (x:=(gS {data:=#[112,113,114,115,116]} (gQ (gO .i64 ((gP (gO .i64 G) (gO .i64 ((c.2.2.1.length:Int)+(1:Int)))) - (1:Int)))) (gQ (gP (gO .i64 G) (gO .i64 ((c.2.2.1.length:Int)+(1:Int))))))) (jE (r:=gW) (cs:=[.string (o.2.2.2)]) (x:=(o.2.2.2)) kr.at1 rfl) (show _=_ by rw[c1];rfl);have kt:St O (cO 123 Rq0 (fH C) ((o.1),o.2.1,(gS {data:=#[112,113,114,115,116]} (gQ (gO .i64 ((gP (gO .i64 G) (gO .i64 ((c.2.2.1.length:Int)+(1:Int)))) - (1:Int)))) (gQ (gP (gO .i64 G) (gO .i64 ((c.2.2.1.length:Int)+(1:Int)))))),(o.2.2.2))::cR 123 Fx Y c.2.2.2.2::cR 130 GN H c.2.2.1::cR 127 Gi X c.1::cW 66 A [sv X,sv db,sv H,.string (c.2.2.2.1),sv Y]::Wq4 D::Wq0 r1 s_0::F) _:=lT (iU (jE (r:=gW) (cs:=[.string (o.1)]) (x:=(o.1)) (iU ((iU ks).at1)) rfl)).at1;obtain rfl:=iS P;exact AO (()) rfl ⟨O,((o.1),o.2.1,(gS {data:=#[112,113,114,115,116]} (gQ (gO .i64 ((gP (gO .i64 G) (gO .i64 ((c.2.2.1.length:Int)+(1:Int)))) - (1:Int)))) (gQ (gP (gO .i64 G) (gO .i64 ((c.2.2.1.length:Int)+(1:Int)))))),(o.2.2.2)),sb,rfl,kt.at6.at6.at6.at6.at6.at6.at6⟩
     obtain rfl:=iS P;exact AO (()) rfl ⟨O,o,sb,rfl,c0.at6.at6.at5.at5.at5.at5.at6⟩
    rintro w3 s3 ⟨ku,kv,s4,rfl,kw⟩;obtain rfl:=iS s;exact AO (()) rfl ⟨ku,kv,sb,rfl,(((((GL (x1:=c.2.1) (x3:=(c.2.2.2.1)) kw.at3.at3.at3.at4.at3.at3.at3 kd.up).at3).at3).at2).at3)⟩
   obtain rfl:=iS s;exact AO (()) rfl ⟨O,o,sb,rfl,bf.at3.at3.at3.at3⟩
  rintro w4 s5 ⟨kx,p,s6,rfl,ky⟩;have⟨kz,f3,l0,f4,f5,f6,l1,f7⟩:=IV ky.at1;obtain rfl:A=kz:=by simpa using f6
  clear f6;refine AA f7.at3 rfl ?_;obtain⟨l2,s7,f8,s8,l3⟩:=f7.at4.open;obtain rfl:C=l2:=by simpa using f8
  clear f8;obtain⟨s9,sa,rfl,sc,l4⟩:=l3.at1.pair;obtain⟨l5,l6⟩:=l4.ro;subst l5;obtain⟨sd,se,rfl,sf,f9⟩:=l6.pair;obtain⟨bg,l7⟩:=f9.rowCs;subst l7;obtain⟨sg,sh,rfl,si,l8⟩:=f9.at1.pair;obtain⟨l9,la⟩:=l8.ro;subst l9;obtain⟨lb,lc⟩:=la.ro;subst lb;have bi:St kx (cR 9 gW bg p.2.1::cW 123 C [.string (p.1),sv bg,.string (p.2.2.1),.string (p.2.2.2)]::cR 123 Fx f5 c.2.2.2.2::cR 130 GN f4 c.2.2.1::cR 127 Gi f3 c.1::cW 66 A [sv f3,sv l0,sv f4,.string (c.2.2.2.1),sv f5]::Wq4 D::Wq0 r1 s_0::F) _:=lc;refine AA (x:=(p.1)) bi.at1 rfl<|AA bi.at1 rfl<|AA (x:=(p.2.2.1)) bi.at1 rfl<|AA (x:=(p.2.2.2)) bi.at1 rfl<|AV (vs:=[.string (p.1),sv bg,.string (p.2.2.1),.string (p.2.2.2)]) bi λw5 sj ld=> ?_;have⟨le,sk,lf,fa⟩:=iE (t:=bg) ld.at1;have⟨lg,lh,k⟩:=bS k;refine AX (r:=Fx) (ms:=([((p.1),p.2.1,(p.2.2.1),(p.2.2.2))]:List Db)) Oy fa.tail.at1 rfl (iY fa) (.cons (a:=[_,_,_,_]) ⟨[_],_,rfl,rfl,⟨[_],_,rfl,⟨bg,rfl,lf⟩,⟨[_],_,rfl,rfl,rfl⟩⟩⟩ .nil) rfl lh ?_;intro w6 sl li;refine AQ li.at4 rfl rfl λsm lj=> ?_;have lk:=((((GL (x1:=c.2.1) (x3:=(c.2.2.2.1)) lj.at4.at4.at3.at3.at3.at3.at3 l1.up).at1.tail).at2).at2).at2;obtain rfl:=iS k;exact AZ ((wN L.1),()) _ rfl rfl ⟨le,(c.1,c.2.1,c.2.2.1,(c.2.2.2.1),lg),sb,j4,rfl,lk⟩
 ·rintro _ L sn ⟨ll,lm,so,rfl,rfl,fb⟩ ln;refine AA fb.at2 rfl<|AU (dF dl ln)<|AI (AL (L.1,()) rfl ⟨_,ll,lm,sb,rfl,rfl,fb.at2.at2.at2⟩)
 rintro w7 sp ⟨_,fc,lo,sq,_,rfl,lp⟩;have⟨sr,lq,hd⟩:=bS hd;refine BM lq (λlr y w_ g=>∃ψ:AD,∃fd:FV,Sub fc ψ∧y.1=lr∧fd=g∧St ψ (cO 66 IU (fH A) fd::Wq4 D::Wq0 r1 s_0::F) w_) ((0:Int),()) rfl ⟨fc,lo,sb,rfl,rfl,lp.at2.at2.at2⟩ ?_ ?_ ?_
 ·rintro _ E ss _ _ ⟨dc,m,st,rfl,rfl,ls⟩ Q su lt lu;refine Ac (by exact gC lt)<|C7 Q id λsw Q=> ?_;have⟨lv,lw,Q⟩:=bS Q;refine Ag (λy w_ g=>∃ψ:AD,Sub dc ψ∧y.2.1=g∧St ψ (cO 66 IU (fH A) m::Wq4 D::Wq0 r1 s_0::F) w_) (g:=lv) ?_ ?_
  ·refine CA lw (λy w_ g=>∃ψ:AD,Sub dc ψ∧(y.1,y.2.1)=g∧St ψ (cO 66 IU (fH A) m::Wq4 D::Wq0 r1 s_0::F) w_) ((0:Int),false,()) rfl ⟨dc,sb,rfl,ls.at2.at2.at2⟩ ?_
   ·rintro R sx _ _ ⟨c2,sy,rfl,lx⟩ S ly;have⟨lz,fe,m0,ff,fg,fh,fi,ad⟩:=IV lx;obtain rfl:A=lz:=by simpa using fh
    clear fh;have m1:=(ad).rowLen;refine AA ad.at3 rfl<|AH S (by rw[m1] <;>rfl) (λ_ S=> ?_) (λ_ S=> ?_)
    ·have⟨m2,al,S⟩:=bS S;refine Aa (λy w_ g=>∃ψ:AD,Sub c2 ψ∧y.1=g∧St ψ (cR 123 Fx fg m.2.2.2.2::cR 130 GN ff m.2.2.1::cR 127 Gi fe m.1::cW 66 A [sv fe,sv m0,sv ff,.string (m.2.2.2.1),sv fg]::Wq4 D::Wq0 r1 s_0::F) w_) (g:=m2) ?_ ?_
     ·refine AH al rfl (λ_ al=> ?_) (λ_ al=> ?_)
      ·have m3:=ad.at5;obtain rfl:=iS al;exact AO (true,()) rfl ⟨c2,sb,rfl,m3.at5.at5.at5.at5.at5⟩
      refine AA ad.at3 rfl<|dO RB ad al λm4 al=> ?_;obtain rfl:=iS al;exact AO ((gT m4.1==gT (gS {data:=#[83,84,85,86]} (gQ E.1) (gQ (wN E.1)))),()) rfl ⟨c2,sb,rfl,ad.at5.at5.at5.at5.at5.at5⟩
     rintro u2 sz ⟨m5,t3,rfl,m6⟩;obtain rfl:=iS S;exact AZ ((wN R.1),u2.1,()) _ rfl rfl ⟨m5,sb,rfl,((((GL (x1:=m.2.1) (x3:=(m.2.2.2.1)) m6.at2.at2.at2.at3.at3.at3.at3 fi.up).at2).at2).at2)⟩
    obtain rfl:=iS S;obtain rfl:=ly _ rfl;exact AI (AL (R.1,R.2.1,()) rfl ⟨c2,sb,rfl,((((GL (x1:=m.2.1) (x3:=(m.2.2.2.1)) ad.at2.at2.at2.at3.at3.at3.at3 fi).at2).at2).at2)⟩)
  rintro w8 t5 ⟨dd,t6,rfl,fj⟩;have⟨m7,ap,Q⟩:=bS Q;refine Aa (λy w_ g=>∃ψ:AD,∃fk:FV,Sub dd ψ∧fk=g∧St ψ (cO 66 IU (fH A) fk::Wq4 D::Wq0 r1 s_0::F) w_) (g:=m7) ?_ ?_
  ·refine AH ap rfl (λ_ ap=> ?_) (λ_ ap=> ?_)
   ·have⟨m8,t7,t8,t9,ta,fl,m9,fm⟩:=IV fj;obtain rfl:A=m8:=by simpa using fl
    clear fl;refine AA fm.at3 rfl<|AV (vs:=[.string (gS {data:=#[83,84,85,86]} (gQ E.1) (gQ (wN E.1))),.slice none 0 0,.string ({data:=#[]}),.string ({data:=#[]})]) fm λw9 tb fn=> ?_;have⟨ma,mb,ap⟩:=bS ap;refine AX (r:=Fx) (ms:=([((gS {data:=#[83,84,85,86]} (gQ E.1) (gQ (wN E.1))),[],{data:=#[]},{data:=#[]})]:List Db)) Oy fn.tail rfl (iY fn) (.cons (a:=[_,_,_,_]) ⟨[_],_,rfl,rfl,⟨[_],_,rfl,⟨((none,0,0):Slc),rfl,hU _ _⟩,⟨[_],_,rfl,rfl,rfl⟩⟩⟩ .nil) rfl mb ?_;intro x0 tc mc;refine AQ mc.at3 rfl rfl λtd md=> ?_;obtain rfl:=iS ap;exact AO (()) rfl ⟨dd,(m.1,m.2.1,m.2.2.1,(m.2.2.2.1),ma),sb,rfl,((((GL (x1:=m.2.1) (x3:=(m.2.2.2.1)) md.at3.at3.at3.at3.at3.at3.at3 m9).at2).at2).at2)⟩
   obtain rfl:=iS ap;exact AO (()) rfl ⟨dd,m,sb,rfl,fj.at2.at2.at2⟩
  rintro x2 te ⟨me,mf,tf,rfl,mg⟩;obtain rfl:=iS Q;exact AZ ((wN E.1),()) _ rfl rfl ⟨me,mf,sb,lu,rfl,mg.at2.at2.at2⟩
 ·rintro _ E tg ⟨mh,mi,th,rfl,rfl,mj⟩ mk;refine AU (by exact gB (kQ.2 mk))<|AI (AL (E.1,()) rfl ⟨_,mh,mi,sb,rfl,rfl,mj.at2.at2.at2⟩)
 rintro x4 ti ⟨_,tj,ax,tk,_,rfl,ml⟩;have⟨mm,fo,mn,fp,fq,fr,mo,Z⟩:=IV ml;obtain rfl:A=mm:=by simpa using fr
 clear fr;refine AA Z.at3 rfl<|AA Z.at3 rfl<|AA Z.at3 rfl<|AA (x:=(ax.2.2.2.1)) Z.at3 rfl<|AA Z.at3 rfl<|AQ Z.at4 rfl rfl λtl mp=>AQ mp rfl rfl λtm mq=>AQ mq rfl rfl λtn mr=>AQ mr rfl rfl λtp mu=>AQ mu rfl rfl λtq b7=>AA b7 rfl<|AA b7 rfl<|AA b7 rfl<|AA (x:=(ax.2.2.2.1)) b7 rfl<|AA b7 rfl ?_;have⟨tr,ts,mv,mw⟩:=iE (t:=fo) b7.at3;have⟨tt,tu,mx,my⟩:=iE (t:=fp) mw.at2;have⟨mz,tv,n0,n1⟩:=iE (t:=fq) my.at1;obtain rfl:=iS hd;exact AC ⟨mz,(fo,mn,fp,(ax.2.2.2.1),fq,()),ax.1,ax.2.1,ax.2.2.1,ax.2.2.2.2,sb,rfl,rfl,mv.up,mo.up,mx.up,n0,n1.tail.tail.tail⟩
end
section
variable {φ:AD}{h:AE}{F:List Chk}
theorem Tu:Fv gR 29 29 95 3:=⟨mS,.inl mS,⟨Tryz.t95,by kernel_rfl,rfl,⟨_,rfl,rfl⟩,by decide,by decide⟩,by decide⟩
theorem B0:Fv gR 30 30 3 1:=⟨iV,.inl iV,⟨Tryz.t3,by kernel_rfl,rfl,⟨_,rfl,rfl⟩,by decide,by decide⟩,by decide⟩
noncomputable def Dw (g_0:FV):Option (List gN×List gN×List Ax×gM×gM×List gN×Int×gN):=
 (DI (g_0.1,g_0.2.1,g_0.2.2.1,g_0.2.2.2.1,g_0.2.2.2.2)).bind λt8=>
 cond (!t8)
 (some (([]:List gN),[],[],[],[],[],1,{data:=#[]}))
 ((forS (σ:=Au) 0 (g_0.2.2.2.2.length:Int) (([{data:=#[36,101,110,100]}]:List gN),[],[],([(0:Int)]:gM),([(0:Int)]:gM),([{data:=#[]}]:List gN)) λi a=>
  (idx g_0.2.2.2.2 i).bind λB=>
  (BC a.2.1 B.1).bind λR=>
  (cond (decide (R< 0))
  ((idx g_0.2.2.2.2 i).bind λC=>
   (app (a.1,a.2.1,a.2.2.1,a.2.2.2.1,a.2.2.2.2.1,a.2.2.2.2.2).2.1 ([C.1]:List gN)).bind λS=>
   some ((a.1,a.2.1,a.2.2.1,a.2.2.2.1,a.2.2.2.2.1,a.2.2.2.2.2).1,S,(a.1,a.2.1,a.2.2.1,a.2.2.2.1,a.2.2.2.2.1,a.2.2.2.2.2).2.2.1,(a.1,a.2.1,a.2.2.1,a.2.2.2.1,a.2.2.2.2.1,a.2.2.2.2.2).2.2.2.1,(a.1,a.2.1,a.2.2.1,a.2.2.2.1,a.2.2.2.2.1,a.2.2.2.2.2).2.2.2.2.1,(a.1,a.2.1,a.2.2.1,a.2.2.2.1,a.2.2.2.2.1,a.2.2.2.2.2).2.2.2.2.2))
  (some (a.1,a.2.1,a.2.2.1,a.2.2.2.1,a.2.2.2.2.1,a.2.2.2.2.2))).bind λn=>
  (idx g_0.2.2.2.2 i).bind λD=>
  (app n.2.2.2.2.2 ([D.2.2.2]:List gN)).bind λT=>
  some (n.1,n.2.1,n.2.2.1,n.2.2.2.1,n.2.2.2.2.1,T)).bind λU=>
  (DE (σ:=(Au×Au)) (β:=(List gN×List gN×List Ax×gM×gM×List gN×Int×gN)) 0 (g_0.1.length:Int) ((([]:List gN),[],[],[],[],([]:List gN)),U) λe g=>
   (idx g_0.1 e).bind λE=>
   (BC g.2.2.1 E.1).bind λV=>
   cond (decide (V≥ 0))
   ((idx g_0.1 e).bind λF=>
    some (iR (([]:List gN),[],[],[],[],[],15,F.1)))
   ((idx g_0.1 e).bind λG=>
    (app g.2.1 ([G.1]:List gN)).bind λW=>
    (idx g_0.1 e).bind λH=>
    (Cd (g_0.1,g_0.2.1,g_0.2.2.1,g_0.2.2.2.1,g_0.2.2.2.2) H.1).bind λX=>
    (app g.2.2.2.2.1 ([X]:gM)).bind λY=>
    some (iT (g.1,(W,g.2.2.1,g.2.2.2.1,Y,g.2.2.2.2.2.1,g.2.2.2.2.2.2))))).bind λt=>match t with
  |.next I=>
   (forS (σ:=Au) 0 (g_0.2.2.1.length:Int) I.2 λu o=>
    (idx g_0.2.2.1 u).bind λJ=>
    (app o.2.2.2.2.1 ([J.1]:gM)).bind λZ=>
    some (o.1,o.2.1,o.2.2.1,o.2.2.2.1,Z,o.2.2.2.2.2)).bind λf=>
   (Bs (f.1,f.2.1) g_0.2.2.2.1).bind λa0=>
   (DE (σ:=(Au×Au)) (β:=(List gN×List gN×List Ax×gM×gM×List gN×Int×gN)) 0 (g_0.2.2.2.2.length:Int) (I.1,(f.1,f.2.1,([((gO .i64 ((f.1.length:Int)+(f.2.1.length:Int))),([a0]:gM),0)]:List Ax),f.2.2.2.1,f.2.2.2.2.1,f.2.2.2.2.2)) λv b=>
    (idx g_0.2.2.2.2 v).bind λd=>
    (Bs (b.2.1,b.2.2.1) d.1).bind λK=>
    (DE (σ:=(Au×Ax)) (β:=(List gN×List gN×List Ax×gM×gM×List gN×Int×gN)) 0 (d.2.1.length:Int) (b.1,(K,[],0)) λk c=>
     (idx d.2.1 k).bind λL=>
     (Bs (b.2.1,b.2.2.1) L).bind λl=>
     cond (decide (l< 0))
     ((idx d.2.1 k).bind λM=>
      some (iR (([]:List gN),[],[],[],[],[],16,M)))
     ((app c.2.2.1 ([l]:gM)).bind λp=>
      (cond (decide (l< (b.2.1.length:Int)))
      ((idx b.2.2.2.2.1 l).bind λN=>
       some ((((c.2.1),p,(c.2.2.2)).1),((c.2.1),p,(c.2.2.2)).2.1,N))
      (some ((c.2.1),p,(c.2.2.2)))).bind λO=>
      some (iT (c.1,O)))).bind λq=>match q with
    |.next h=>
     ((cond (!(gT d.2.2.1==gT {data:=#[]}))
     ((Cd (g_0.1,g_0.2.1,g_0.2.2.1,g_0.2.2.2.1,g_0.2.2.2.2) d.2.2.1).bind λs=>
      cond (s==0)
      (some (iR (([]:List gN),[],[],[],[],[],16,d.2.2.1)))
      (some (iT (((h.2.1),h.2.2.1,s),h.1))))
     (some (iT (h.2,h.1)))):Option (AW (Ax×Au) (List gN×List gN×List Ax×gM×gM×List gN×Int×gN))).bind λr=>match r with
     |.next m=>
      (app b.2.2.2.1 ([((m.1.1),m.1.2.1,(m.1.2.2))]:List Ax)).bind λP=>
      some (iT (m.2,(b.2.1,b.2.2.1,P,b.2.2.2.2.1,b.2.2.2.2.2.1,b.2.2.2.2.2.2)))
     |.done w=>some (iR w)
    |.done x=>some (iR x)).bind λy=>match y with
   |.next j=>
    (BC j.2.2.1 g_0.2.2.2.1).bind λQ=>
    cond (decide (Q< 0))
    (some (([]:List gN),[],[],[],[],[],16,g_0.2.2.2.1))
    (some (j.2.1,j.2.2.1,j.2.2.2.1,j.2.2.2.2.1,j.2.2.2.2.2.1,j.2.2.2.2.2.2,0,{data:=#[]}))
   |.done z=>some z
  |.done A=>some A)
theorem LP {g_0:Slc×Slc×Slc×gN×Slc×Unit}{cp:List Gh}{da:List Hq}{cw:List FH}{cx:List Db}(b4:Ro.SliceIs Gi φ g_0.1 cp) (d0:Ro.SliceIs Mf φ g_0.2.1 da) (bn:Ro.SliceIs GN φ g_0.2.2.1 cw) (b5:Ro.SliceIs Fx φ g_0.2.2.2.2.1 cx) (s0:St φ (F) h) {r:(List gN×List gN×List Ax×gM×gM×List gN×Int×gN)}(hd:Dw (cp,da,cw,g_0.2.2.2.1,cx)=some r):
 CallsH gR 22 [(.agg #[(sv g_0.1),(sv g_0.2.1),(sv g_0.2.2.1),(.string g_0.2.2.2.1),(sv g_0.2.2.2.2.1)])] h (Ap λv h'=>∃ψ:AD,∃y:(Pl6)×Int×gN×Unit,∃db:List gN,∃dc:List gN,∃dd:List Ax,∃de:gM,∃df:gM,∃dg:List gN,Sub φ ψ∧v=((.tuple [(.agg [.slice,.slice,.slice,.slice,.slice,.slice]),aI,(.atom .string)]):Sh).val y∧(db,dc,dd,de,df,dg,y.2.1,y.2.2.1)=r∧Ro.SliceIs gW ψ y.1.1 db∧Ro.SliceIs gW ψ y.1.2.1 dc∧Ro.SliceIs CI ψ y.1.2.2.1 dd∧Ro.SliceIs (hQ .i64) ψ y.1.2.2.2.1 de∧Ro.SliceIs (hQ .i64) ψ y.1.2.2.2.2.1 df∧Ro.SliceIs gW ψ y.1.2.2.2.2.2.1 dg∧St ψ (F) h'):=by
 refine AY mixed Tryz.func22 (LG ..) ?_;have dh:g_0.1.2.1=iB cp:=b4.length;have di:g_0.2.2.1.2.1=iB cw:=bn.length;have bz:g_0.2.2.2.2.1.2.1=iB cx:=b5.length;refine AV (vs:=[sv g_0.1,sv g_0.2.1,sv g_0.2.2.1,.string g_0.2.2.2.1,sv g_0.2.2.2.2.1]) s0 λr1 nk fr=>AV (vs:=[.slice none 0 0,.slice none 0 0,.slice none 0 0,.slice none 0 0,.slice none 0 0,.slice none 0 0]) fr λE nl bi=>AA bi.at1 rfl<|AA bi.at1 rfl<|AA bi.at1 rfl<|AA bi.at1 rfl<|AA bi.at1 rfl ?_;have⟨nm,fs,hd⟩:=bS hd;refine AK (If (g_0:=(g_0.1,g_0.2.1,g_0.2.2.1,g_0.2.2.2.1,g_0.2.2.2.2.1,())) b4 d0 bn b5 bi fs) ?_;rintro _ nn ⟨ad,t8,np,rfl,rfl,dj⟩;refine⟨t8,rfl,?_⟩;refine AH hd rfl (λ_ hd=> ?_) (λ_ hd=> ?_)
 ·refine AQ dj rfl rfl λnq ft=>AQ ft rfl rfl λnr fu=>AQ fu rfl rfl λns fv=>AQ fv rfl rfl λnt fw=>AQ fw rfl rfl λnu fx=>AQ fx rfl rfl λnv b9=>AA (x:=((none,0,0):Slc)) b9 rfl<|AA (x:=((none,0,0):Slc)) b9 rfl<|AA (x:=((none,0,0):Slc)) b9 rfl<|AA (x:=((none,0,0):Slc)) b9 rfl<|AA (x:=((none,0,0):Slc)) b9 rfl<|AA (x:=((none,0,0):Slc)) b9 rfl ?_;obtain rfl:=iS hd;exact AC ⟨ad,((((none,0,0):Slc),((none,0,0):Slc),((none,0,0):Slc),((none,0,0):Slc),((none,0,0):Slc),((none,0,0):Slc),()),(1:Int),{data:=#[]},()),[],[],[],[],[],[],sb,rfl,rfl,(hU gW ad),(hU gW ad),(hU CI ad),(hU (hQ .i64) ad),(hU (hQ .i64) ad),(hU gW ad),b9.tail.tail⟩
 refine AV (vs:=[.string ({data:=#[36,101,110,100]})]) dj λw7 nw fy=>AV (vs:=[.int .i64 (0:Int)]) fy λw8 nx fz=>AV (vs:=[.int .i64 (0:Int)]) fz λw9 ny g0=>AV (vs:=[.string ({data:=#[]})]) g0 λx0 nz g1=>AV (vs:=[.slice none 0 0,.slice none 0 0,.slice none 0 0,.slice none 0 0,.slice none 0 0,.slice none 0 0]) g1 λA o0 g2=>AQ g2 rfl rfl λo1 g3=>AQ g3 rfl rfl λo2 g4=>AQ g4 rfl rfl λo3 g5=>AQ g5 rfl rfl λo4 g6=>AQ g6 rfl rfl λo5 g7=>AQ g7 rfl rfl λo6 g8=> ?_;have g9:=kT (r:=gW) (l:=([{data:=#[36,101,110,100]}]:List gN)) (n:=1) g8.at4 (.cons (a:=[_]) rfl .nil) rfl (by decide);have ga:=kT (r:=(hQ .i64)) (l:=([(0:Int)]:gM)) (n:=1) ((g9.nil 9 gW).nil 95 CI).at6 (.cons (a:=[_]) rfl .nil) rfl (by decide);have gb:=kT (r:=(hQ .i64)) (l:=([(0:Int)]:gM)) (n:=1) ga.at6 (.cons (a:=[_]) rfl .nil) rfl (by decide);have gc:=kT (r:=gW) (l:=([{data:=#[]}]:List gN)) (n:=1) gb.at6 (.cons (a:=[_]) rfl .nil) rfl (by decide);have gd:=IT (t0:=((some ⟨w7,0,none⟩,1,1):Slc)) (t1:=((none,0,0):Slc)) (t2:=((none,0,0):Slc)) (t3:=((some ⟨w8,0,none⟩,1,1):Slc)) (t4:=((some ⟨w9,0,none⟩,1,1):Slc)) (t5:=((some ⟨x0,0,none⟩,1,1):Slc)) gc.at6.at6.at6.at6.at6.at6.at6;have⟨o7,ge,hd⟩:=bS hd;refine BM ge (λgf y w_ g=>∃ψ:AD,∃dk:Au,Sub ad ψ∧y.1=gf∧dk=g∧St ψ (cO 32 HZ (fH A) dk::Wq5 E::Wq1 r1 g_0::F) w_) ((0:Int),()) rfl ⟨ad,(([{data:=#[36,101,110,100]}]:List gN),[],[],([(0:Int)]:gM),([(0:Int)]:gM),([{data:=#[]}]:List gN)),sb,rfl,rfl,gd.at2.at2.at2⟩ ?_ ?_ ?_
 ·rintro _ w1 o8 _ _ ⟨o9,N,oa,rfl,rfl,dl⟩ O ob gg gh;refine AA dl.at2 rfl<|Ac (dT bz gg) ?_;have⟨gi,oc,od,oe,og,oh,oi,dm,c0⟩:=Fe dl;obtain rfl:A=gi:=by simpa using dm
  clear dm;refine AA c0.at6 rfl<|AA c0.at8 rfl<|IS RB b5 O c0 λoj O=> ?_;have⟨ok,gj,O⟩:=bS O;refine AK (Br c0.at4 gj) ?_;rintro _ ol ⟨d1,x1,om,rfl,rfl,gk⟩;refine⟨x1,rfl,?_⟩;have dn:=IT gk.at5.at1.at5.at5.at5.at5.at6.at6.at6.at6.at6.at6.at6;have⟨gl,al,O⟩:=bS O;refine Aa (λy w_ g=>∃ψ:AD,∃dp:Au,Sub d1 ψ∧dp=g∧St ψ (cO 32 HZ (fH A) dp::Wq5 E::Wq1 r1 g_0::F) w_) (g:=gl) ?_ ?_
  ·refine AH al rfl (λ_ al=> ?_) (λ_ al=> ?_)
   ·have⟨gm,on,oo,op,oq,os,ot,dq,c1⟩:=Fe dn;obtain rfl:A=gm:=by simpa using dq
    clear dq;refine AA c1.at6 rfl<|AA c1.at8 rfl<|IS RB b5 al c1 λdr al=>AV (vs:=[.string dr.1]) c1 λx9 ou d2=>AN (iH (b:=A) (j:=1) d2.at7 rfl) ?_;have⟨gn,go,al⟩:=bS al;refine AX (r:=gW) (ms:=([dr.1]:List gN)) Cj d2.tail.at4 rfl (iY d2) (.cons (a:=[_]) rfl .nil) rfl go ?_;intro y0 ov gp;refine AQ gp.at6 rfl rfl λow gq=> ?_;obtain rfl:=iS al;exact AO (()) rfl ⟨d1,(N.1,gn,N.2.2.1,N.2.2.2.1,N.2.2.2.2.1,N.2.2.2.2.2),sb,rfl,((((IT gq.at6.at2.at6.at6.at6.at6.at6.at6.at6.at6.at6.at6.at6).at2).at2).at2)⟩
   obtain rfl:=iS al;exact AO (()) rfl ⟨d1,(N.1,N.2.1,N.2.2.1,N.2.2.2.1,N.2.2.2.2.1,N.2.2.2.2.2),sb,rfl,dn.at2.at2.at2⟩
  rintro y1 ox ⟨gr,bp,oy,rfl,gs⟩;have⟨gt,oz,p0,p1,p2,p3,p4,ds,c2⟩:=Fe gs;obtain rfl:A=gt:=by simpa using ds
  clear ds;refine AA c2.at6 rfl<|AA c2.at8 rfl<|ixS Yy b5 O c2 λdt O=>AV (vs:=[.string dt.2.2.2]) c2 λy2 p5 d3=>AN (iH (b:=A) (j:=5) d3.at7 rfl) ?_;have⟨gu,gv,O⟩:=bS O;refine AX (r:=gW) (ms:=([dt.2.2.2]:List gN)) Cj d3.tail rfl (iY d3) (.cons (a:=[_]) rfl .nil) rfl gv ?_;intro y3 p6 gw;refine AQ gw.at6 rfl rfl λp7 gy=> ?_;obtain rfl:=iS O;exact AZ ((wN w1.1),()) _ rfl rfl ⟨gr,(bp.1,bp.2.1,bp.2.2.1,bp.2.2.2.1,bp.2.2.2.2.1,gu),sb,gh,rfl,((((IT gy.at6.at6.at6.at6.at6.at6.at6.at6.at6.at6.at6.at6.at6).at2).at2).at2)⟩
 ·rintro _ w1 p8 ⟨gz,h0,p9,rfl,rfl,du⟩ h1;refine AA du.at2 rfl<|AU (dF bz h1)<|AI (AL (w1.1,()) rfl ⟨_,gz,h0,sb,rfl,rfl,du.at2.at2.at2⟩)
 rintro y4 pa ⟨_,dv,h2,pb,_,rfl,h3⟩;have h4:=IT (t0:=((none,0,0):Slc)) (t1:=((none,0,0):Slc)) (t2:=((none,0,0):Slc)) (t3:=((none,0,0):Slc)) (t4:=((none,0,0):Slc)) (t5:=((none,0,0):Slc)) ((((((h3.nil 9 gW).nil 9 gW).nil 95 CI).nil 3 (hQ .i64)).nil 3 (hQ .i64)).nil 9 gW).at7.at6.at6.at6.at6.at6.at6;have⟨pc,h5,hd⟩:=bS hd;refine BZ h5 (λh6 y w_ g=>∃ψ:AD,∃dw:Au,∃dx:Au,Sub dv ψ∧y.1=h6∧(dw,dx)=g∧St ψ (cO 32 HZ (fH E) dw::cO 32 HZ (fH A) dx::Wq1 r1 g_0::F) w_) ((0:Int),{data:=#[]},(0:Int),()) rfl ⟨dv,(([]:List gN),[],[],[],[],([]:List gN)),h2,sb,rfl,rfl,h4.at2.at2.at2⟩ ?_ ?_ ?_
 ·rintro _ I pd _ _ ⟨pe,h7,c3,pf,rfl,rfl,dy⟩ p pg h8 h9 hb;refine AA dy.at2 rfl<|Ac (dT dh h8) ?_;have⟨hc,ph,pi,pj,pk,pl,pm,dz,c4⟩:=Fe dy.at1;obtain rfl:A=hc:=by simpa using dz
  clear dz;refine AA c4.at6 rfl<|AA c4.at8 rfl<|IS OV b4 p c4 λpn p=> ?_;have⟨po,he,p⟩:=bS p;refine AK (Br c4.at4 he) ?_;rintro _ pp ⟨b6,x2,pq,rfl,rfl,ba⟩;refine⟨x2,rfl,?_⟩;refine AH p rfl (λ_ p=> ?_) (λ_ p=> ?_)
  ·refine AA ba.at8 rfl ?_;have⟨e0,hf,p⟩:=bS p;obtain⟨pr,ps,hg,hh,hi,e1⟩:=(b4.up (ψ:=b6)).get hf;refine AF _ hg (Ah hh ?_);obtain⟨_,_,rfl,rfl,⟨_,_,rfl,rfl,⟨_,_,rfl,rfl,rfl⟩⟩⟩:=hi;refine AG (x:=e0.1) (AJ (iG sb ba.sub) (e1 0 _ rfl)) rfl ?_;have⟨hp,pt,pu,pv,pw,px,py,e2,hq⟩:=Fe ba.at7;obtain rfl:E=hp:=by simpa using e2
   clear e2;refine AQ hq.at6 rfl rfl λpz hr=>AQ hr rfl rfl λq0 hs=>AQ hs rfl rfl λq1 ht=>AQ ht rfl rfl λq2 hu=>AQ hu rfl rfl λq3 hv=>AQ hv rfl rfl λq4 ap=>AN (AJ (iG sb ap.sub) (e1 0 _ rfl))<|AN (iH (b:=r1) (j:=0) ap.at14 rfl)<|AA (x:=((none,0,0):Slc)) ap rfl<|AA (x:=((none,0,0):Slc)) ap rfl<|AA (x:=((none,0,0):Slc)) ap rfl<|AA (x:=((none,0,0):Slc)) ap rfl<|AA (x:=((none,0,0):Slc)) ap rfl<|AA (x:=((none,0,0):Slc)) ap rfl ?_;obtain rfl:=iS p;obtain rfl:=hb _ rfl;obtain rfl:=iS hd;exact Aj (Al (AC ⟨b6,((((none,0,0):Slc),((none,0,0):Slc),((none,0,0):Slc),((none,0,0):Slc),((none,0,0):Slc),((none,0,0):Slc),()),(15:Int),e0.1,()),[],[],[],[],[],[],sb,rfl,rfl,(hU gW b6),(hU gW b6),(hU CI b6),(hU (hQ .i64) b6),(hU (hQ .i64) b6),(hU gW b6),ap.tail.tail.tail.tail.tail.tail.tail.tail.tail.tail.tail.tail.tail.tail.tail⟩))
  refine AA ba.at6 rfl<|AA ba.at8 rfl<|IS OV b4 p ba λe3 p=>AV (vs:=[.string e3.1]) ba λy5 q5 d4=>AN (iH (b:=A) (j:=0) d4.at7 rfl) ?_;have⟨hw,hx,p⟩:=bS p;refine AX (r:=gW) (ms:=([e3.1]:List gN)) Cj d4.tail.at5 rfl (iY d4) (.cons (a:=[_]) rfl .nil) rfl hx ?_;intro y6 q6 hy;refine AQ hy.at6 rfl rfl λq7 ax=>AA ax rfl<|AA ax.at8 rfl<|AA ax.at8 rfl<|AA ax.at8 rfl<|AA ax.at8 rfl<|AA ax.at8 rfl<|AA ax.at8 rfl<|IS OV b4 p ax λq8 p=> ?_;have⟨q9,hz,p⟩:=bS p;refine AK (FL (g_0:=(g_0.1,g_0.2.1,g_0.2.2.1,g_0.2.2.2.1,g_0.2.2.2.2.1,())) b4.up d0.up bn.up b5.up ax hz) ?_;rintro _ qa ⟨i0,w2,qb,rfl,rfl,e4⟩;refine⟨w2,rfl,?_⟩;refine AN (iH (b:=A) (j:=3) e4 rfl)<|AV (vs:=[.int .i64 w2]) e4 λy7 qc d5=>AN (iH (b:=A) (j:=3) d5.at1 rfl) ?_;have⟨i1,i2,p⟩:=bS p;refine AX (r:=(hQ .i64)) (ms:=([w2]:gM)) B0 d5.tail.at5 rfl (iY d5) (.cons (a:=[_]) rfl .nil) rfl i2 ?_;intro y8 qd i3;refine AQ i3.at1 rfl rfl λqe i4=> ?_;obtain rfl:=iS p;exact AZ ((wN I.1),I.2.1,I.2.2.1,()) _ rfl rfl ⟨i0,h7,(hw,c3.2.1,c3.2.2.1,i1,c3.2.2.2.2.1,c3.2.2.2.2.2),sb,h9,rfl,((((IT i4.at2.at3.at6.at4.at6.at6.at6.at6.at6.at6.at6.at6.at6).at2).at1).at2)⟩
 ·rintro _ I qf _ ⟨i5,i6,i7,qg,rfl,rfl,e5⟩ i8 i9;subst i9;refine AA e5.at2 rfl<|AU (dF dh i8)<|AI (AL (I.1,I.2.1,I.2.2.1,()) rfl ⟨_,rfl,_,i5,i6,i7,sb,rfl,rfl,e5.at2.at2.at2⟩)
 rintro w5 qh ⟨_,rfl,_,e6,e7,ia,qi,_,rfl,ib⟩;have⟨qj,ic,hd⟩:=bS hd;refine BM ic (λie y w_ g=>∃ψ:AD,∃e8:Au,Sub e6 ψ∧y.1=ie∧e8=g∧St ψ (cO 32 HZ (fH A) e8::cO 32 HZ (fH E) e7::Wq1 r1 g_0::F) w_) ((0:Int),()) rfl ⟨e6,ia,sb,rfl,rfl,ib.at2.at1.at2⟩ ?_ ?_ ?_
 ·rintro _ w3 qk _ _ ⟨ig,bq,ql,rfl,rfl,e9⟩ bs qm ih ii;refine AA e9.at2 rfl<|Ac (dT di ih) ?_;have⟨ij,qn,qo,qp,qq,qr,qs,ea,c5⟩:=Fe e9;obtain rfl:A=ij:=by simpa using ea
  clear ea;refine AA c5.at6 rfl<|AA c5.at8 rfl<|IS Yw bn bs c5 λeb bs=>AV (vs:=[.int .i64 eb.1]) c5 λy9 qt d6=>AN (iH (b:=A) (j:=4) d6.at7 rfl) ?_;have⟨ik,il,bs⟩:=bS bs;refine AX (r:=(hQ .i64)) (ms:=([eb.1]:gM)) B0 d6.tail.at1 rfl (iY d6) (.cons (a:=[_]) rfl .nil) rfl il ?_;intro z0 qu im;refine AQ im.at6 rfl rfl λqv io=> ?_;obtain rfl:=iS bs;exact AZ ((wN w3.1),()) _ rfl rfl ⟨ig,(bq.1,bq.2.1,bq.2.2.1,bq.2.2.2.1,ik,bq.2.2.2.2.2),sb,ii,rfl,((((IT io.at6.at6.at6.at6.at5.at6.at6.at6.at6.at6.at6.at6.at6).at2).at2).at2)⟩
 ·rintro _ w3 qw ⟨ip,iq,qx,rfl,rfl,ec⟩ ir;refine AA ec.at2 rfl<|AU (dF di ir)<|AI (AL (w3.1,()) rfl ⟨_,ip,iq,sb,rfl,rfl,ec.at2.at2.at2⟩)
 rintro z1 qy ⟨_,qz,q,r0,_,rfl,it⟩;have⟨iu,ed,ee,z,iv,iw,ix,ef,L⟩:=Fe it;obtain rfl:A=iu:=by simpa using ef
 clear ef;have iy:=(L.at5).rowLen;have iz:=(L.at4).rowLen;refine AA L.at6 rfl<|AA L.at6 rfl<|AA L.at6 rfl<|AA L.at6 rfl<|AA L.at6 rfl<|AA L.at6 rfl<|AA L.at6 rfl<|AA L.at6 rfl<|AA L.at8 rfl ?_;have⟨r3,j0,hd⟩:=bS hd;refine AK (DS (p_0:=(ed,ee,z,iv,iw,ix,())) L.at5.at5.at1 j0) ?_;rintro _ r4 ⟨r5,P,r6,rfl,rfl,j1⟩;refine⟨P,rfl,?_⟩;refine AV (vs:=[.int .i64 P]) j1 λw4 r7 j2=>AV (vs:=[.int .i64 (gO .i64 ((ed.2.1:Int)+(ee.2.1:Int))),.slice (fH w4) 1 1,.int .i64 (0:Int)]) j2 λx3 r8 j3=>AQ j3.at8 rfl rfl λr9 j4=> ?_;have j5:=kT (r:=(hQ .i64)) (l:=([P]:gM)) (n:=1) j4.at3.at4.at4 (.cons (a:=[_]) rfl .nil) rfl (by decide);have⟨eg,ra,j6,j7⟩:=iE (t:=((some ⟨w4,0,none⟩,1,1):Slc)) j5;have j8:=kT (r:=CI) (l:=([((gO .i64 ((q.1.length:Int)+(q.2.1.length:Int))),([P]:gM),(0:Int))]:List Ax)) (n:=1) j7.at3 (.cons (a:=[_,_,_]) ⟨[_],_,rfl,(show _=_ by rw[iy,iz];rfl),⟨[_],_,rfl,⟨((some ⟨w4,0,none⟩,1,1):Slc),rfl,j6⟩,rfl⟩⟩ .nil) rfl (by decide);have j9:=((((IT (t2:=((some ⟨x3,0,none⟩,1,1):Slc)) j8.at6.at6.at6.at6.at6.at6.at6.at6.at6.at6).at3).at2).at2).at3;have⟨rb,ja,hd⟩:=bS hd;refine BZ ja (λjb y w_ g=>∃ψ:AD,∃eh:Au,∃ei:Au,Sub eg ψ∧y.1=jb∧(eh,ei)=g∧St ψ (cO 32 HZ (fH E) eh::cO 32 HZ (fH A) ei::cR 95 CI z q.2.2.1::Wq1 r1 g_0::F) w_) ((0:Int),w5.2.1,w5.2.2.1,()) rfl ⟨eg,e7,(q.1,q.2.1,([((gO .i64 ((q.1.length:Int)+(q.2.1.length:Int))),([P]:gM),(0:Int))]:List Ax),q.2.2.2.1,q.2.2.2.2.1,q.2.2.2.2.2),sb,rfl,rfl,j9⟩ ?_ ?_ ?_
 ·rintro _ J rc _ _ ⟨jc,ej,c,rd,rfl,rfl,bb⟩ a0 re jd je ek;refine AA bb.at3 rfl<|Ac (dT bz jd)<|AA bb.at3 rfl ?_;have⟨d,jf,a0⟩:=bS a0;obtain⟨rf,rg,jg,jh,ji,c6⟩:=(b5.up (ψ:=jc)).get jf;refine AF _ jg (Ah jh ?_);obtain⟨_,_,rfl,rfl,⟨_,_,rfl,⟨M,rfl,d7⟩,jm⟩⟩:=ji;have el:=d7.length;obtain⟨_,_,rfl,rfl,rfl⟩:=jm;refine AG (x:=d.1) (AJ (iG sb bb.sub) (c6 0 _ rfl)) rfl<|AG (x:=M) (by rw[An];exact(AJ (iG sb bb.sub) (c6 1 _ rfl))) rfl<|AG (x:=d.2.2.1) (by rw[An];exact(AJ (iG sb bb.sub) (c6 2 _ rfl))) rfl<|AG (x:=d.2.2.2) (by rw[An];exact(AJ (iG sb bb.sub) (c6 3 _ rfl))) rfl<|AV (vs:=[.string ({data:=#[]}),.slice none 0 0,.string ({data:=#[]}),.string ({data:=#[]})]) bb λC rh jp=>AQ jp rfl rfl λri jq=>AQ jq rfl rfl λrj jr=>AQ jr rfl rfl λrk js=>AQ js rfl rfl λrl jt=> ?_;have⟨ju,e,f,i,k,m,o,em,W⟩:=Fe jt.at2;obtain rfl:A=ju:=by simpa using em
  clear em;have jv:=(W.at5).rowLen;refine AA W.at6 rfl<|AA W.at6 rfl<|AA W.at6 rfl<|AA W.at6 rfl<|AA W.at6 rfl<|AA W.at6 rfl<|AA W.at7 rfl ?_;have⟨rm,jw,a0⟩:=bS a0;refine AK (DS (p_0:=(e,f,i,k,m,o,())) W.at5.at5.at1 jw) ?_;rintro _ rn ⟨d8,G,rp,rfl,rfl,jx⟩;refine⟨G,rfl,?_⟩;refine AV (vs:=[.int .i64 (0:Int),.slice none 0 0,.int .i64 (0:Int)]) jx λB rq jy=>AQ jy rfl rfl λrr jz=>AQ jz rfl rfl λrs k0=>AQ k0 rfl rfl λrt k1=> ?_;have k2:=iU ((jE (r:=(hQ .i64)) (cs:=[.int .i64 (0:Int)]) (x:=(0:Int)) (k1.nil 3 (hQ .i64)) rfl).at1);have k3:St d8 (cO 95 Rq1 (fH B) (G,[],(0:Int))::cR 9 gW e c.1::cR 9 gW f c.2.1::cR 9 gW o c.2.2.2.2.2::cR 3 (hQ .i64) m c.2.2.2.2.1::cR 3 (hQ .i64) k c.2.2.2.1::cR 95 CI i c.2.2.1::cW 32 A [sv e,sv f,sv i,sv k,sv m,sv o]::cW 123 C [.string d.1,sv M,.string d.2.2.1,.string d.2.2.2]::cO 32 HZ (fH E) ej::cR 95 CI z q.2.2.1::Wq1 r1 g_0::F) _:=lT (iU (jE (r:=(hQ .i64)) (cs:=[.int .i64 G]) (x:=G) k2 rfl)).at1;have⟨ru,k4,a0⟩:=bS a0;refine BZ k4 (λk5 y w_ g=>∃ψ:AD,∃en:Au,∃eo:Ax,Sub d8 ψ∧y.1=k5∧(en,eo)=g∧St ψ (cO 32 HZ (fH E) en::cO 95 Rq1 (fH B) eo::cR 9 gW e c.1::cR 9 gW f c.2.1::cR 9 gW o c.2.2.2.2.2::cR 3 (hQ .i64) m c.2.2.2.2.1::cR 3 (hQ .i64) k c.2.2.2.1::cR 95 CI i c.2.2.1::cW 32 A [sv e,sv f,sv i,sv k,sv m,sv o]::cW 123 C [.string d.1,sv M,.string d.2.2.1,.string d.2.2.2]::cR 95 CI z q.2.2.1::Wq1 r1 g_0::F) w_) ((0:Int),J.2.1,J.2.2.1,()) rfl ⟨d8,ej,(G,[],(0:Int)),sb,rfl,rfl,k3.at11.at11.at10.at10.at10.at10.at10.at10.at10.at10.at10.at11⟩ ?_ ?_ ?_
  ·rintro _ D rv _ _ ⟨rx,bj,s,ry,rfl,rfl,S⟩ u rz k6 k7 k8;refine AA S.at9 rfl<|Ac (dT el k6)<|AA S.at8 rfl<|AA S.at8 rfl<|AA S.at8 rfl<|AA S.at8 rfl<|AA S.at8 rfl<|AA S.at8 rfl<|AA S.at9 rfl<|gx d7 u S λs1 u=> ?_;have⟨s2,k9,u⟩:=bS u;refine AK (DS (p_0:=(e,f,i,k,m,o,())) S.at2.at3.at1 k9) ?_;rintro _ s3 ⟨w,Q,s4,rfl,rfl,c7⟩;refine⟨Q,rfl,?_⟩;refine AH u rfl (λ_ u=> ?_) (λ_ u=> ?_)
   ·refine AA c7.at9 rfl ?_;have⟨ep,ka,u⟩:=bS u;obtain⟨s5,s6,kb,kc,kd,er⟩:=(d7.up (ψ:=w)).get ka;refine AF _ kb (Ah kc ?_);obtain rfl:=kd;refine AG (x:=ep) (AJ (iG sb c7.sub) (er 0 _ rfl)) rfl ?_;have⟨ke,s7,s8,s9,sa,sc,sd,es,kf⟩:=Fe c7.at2;obtain rfl:E=ke:=by simpa using es
    clear es;refine AQ kf.at6 rfl rfl λse kg=>AQ kg rfl rfl λsf kh=>AQ kh rfl rfl λsg ki=>AQ ki rfl rfl λsh kj=>AQ kj rfl rfl λsi kk=>AQ kk rfl rfl λsj X=>AN (AJ (iG sb X.sub) (er 0 _ rfl))<|AN (iH (b:=C) (j:=1) X.at15 rfl)<|AA (x:=((none,0,0):Slc)) X rfl<|AA (x:=((none,0,0):Slc)) X rfl<|AA (x:=((none,0,0):Slc)) X rfl<|AA (x:=((none,0,0):Slc)) X rfl<|AA (x:=((none,0,0):Slc)) X rfl<|AA (x:=((none,0,0):Slc)) X rfl ?_;obtain rfl:=iS u;obtain rfl:=k8 _ rfl;obtain rfl:=iS a0;obtain rfl:=ek _ rfl;obtain rfl:=iS hd;exact Aj (Al (Aj (Al (AC ⟨w,((((none,0,0):Slc),((none,0,0):Slc),((none,0,0):Slc),((none,0,0):Slc),((none,0,0):Slc),((none,0,0):Slc),()),(16:Int),ep,()),[],[],[],[],[],[],sb,rfl,rfl,(hU gW w),(hU gW w),(hU CI w),(hU (hQ .i64) w),(hU (hQ .i64) w),(hU gW w),X.tail.tail.tail.tail.tail.tail.tail.tail.tail.tail.tail.tail.tail.tail.tail.tail.tail.tail⟩))))
   obtain⟨kl,sk,eu,sl,km⟩:=c7.at3.open;obtain rfl:B=kl:=by simpa using eu
   clear eu;obtain⟨sm,sn,rfl,so,kn⟩:=km.at1.pair;obtain⟨ko,kp⟩:=kn.ro;subst ko;obtain⟨sp,sq,rfl,sr,ev⟩:=kp.pair;obtain⟨ew,kq⟩:=ev.rowCs;subst kq;obtain⟨kr,ks⟩:=ev.at1.ro;subst kr;have ex:St w (cR 3 (hQ .i64) ew s.2.1::cW 95 B [.int .i64 (s.1),sv ew,.int .i64 (s.2.2)]::cR 9 gW e c.1::cR 9 gW f c.2.1::cO 32 HZ (fH E) bj::cR 9 gW o c.2.2.2.2.2::cR 3 (hQ .i64) m c.2.2.2.2.1::cR 3 (hQ .i64) k c.2.2.2.1::cR 95 CI i c.2.2.1::cW 32 A [sv e,sv f,sv i,sv k,sv m,sv o]::cW 123 C [.string d.1,sv M,.string d.2.2.1,.string d.2.2.2]::cR 95 CI z q.2.2.1::Wq1 r1 g_0::F) _:=ks;refine AA ex.at1 rfl<|AV (vs:=[.int .i64 Q]) ex λx4 ss ey=> ?_;have⟨bt,kt,u⟩:=bS u;refine AX (r:=(hQ .i64)) (ms:=([Q]:gM)) B0 ey.tail rfl (iY ey) (.cons (a:=[_]) rfl .nil) rfl kt ?_;intro x5 st ku;refine AQ ku.at1 rfl rfl λsu ez=>AA ez.at9 rfl ?_;have kv:=jE (r:=(hQ .i64)) (cs:=[.int .i64 (s.1)]) (x:=(s.1)) (iU ((jE (r:=(hQ .i64)) (cs:=[.int .i64 (s.2.2)]) (x:=(s.2.2)) ez.at1 rfl).at1)) rfl;have c8:St w (cO 95 Rq1 (fH B) ((s.1),bt,(s.2.2))::cR 9 gW e c.1::cR 9 gW f c.2.1::cO 32 HZ (fH E) bj::cR 9 gW o c.2.2.2.2.2::cR 3 (hQ .i64) m c.2.2.2.2.1::cR 3 (hQ .i64) k c.2.2.2.1::cR 95 CI i c.2.2.1::cW 32 A [sv e,sv f,sv i,sv k,sv m,sv o]::cW 123 C [.string d.1,sv M,.string d.2.2.1,.string d.2.2.2]::cR 95 CI z q.2.2.1::Wq1 r1 g_0::F) _:=lT (iU kv).at1;have⟨kw,bd,u⟩:=bS u;refine Aa (λy w_ g=>∃ψ:AD,∃f0:Ax,Sub w ψ∧f0=g∧St ψ (cO 95 Rq1 (fH B) f0::cR 9 gW e c.1::cR 9 gW f c.2.1::cO 32 HZ (fH E) bj::cR 9 gW o c.2.2.2.2.2::cR 3 (hQ .i64) m c.2.2.2.2.1::cR 3 (hQ .i64) k c.2.2.2.1::cR 95 CI i c.2.2.1::cW 32 A [sv e,sv f,sv i,sv k,sv m,sv o]::cW 123 C [.string d.1,sv M,.string d.2.2.1,.string d.2.2.2]::cR 95 CI z q.2.2.1::Wq1 r1 g_0::F) w_) (g:=kw) ?_ ?_
   ·refine AH bd (by rw[jv] <;>rfl) (λ_ bd=> ?_) (λ_ bd=> ?_)
    ·refine AA c8.at8 rfl<|gxO c8.at6 bd λc9 bd=> ?_;obtain⟨kx,sw,f1,sx,ky⟩:=c8.open;obtain rfl:B=kx:=by simpa using f1
     clear f1;obtain⟨sy,sz,rfl,t6,kz⟩:=ky.at1.pair;obtain⟨l0,l1⟩:=kz.ro;subst l0;obtain⟨t7,t9,rfl,ta,f2⟩:=l1.pair;obtain⟨f3,l2⟩:=f2.rowCs;subst l2;obtain⟨l3,l4⟩:=f2.at1.ro;subst l3;have l5:St w (cR 3 (hQ .i64) f3 bt::cW 95 B [.int .i64 ((s.1)),sv f3,.int .i64 ((s.2.2))]::cR 9 gW e c.1::cR 9 gW f c.2.1::cO 32 HZ (fH E) bj::cR 9 gW o c.2.2.2.2.2::cR 3 (hQ .i64) m c.2.2.2.2.1::cR 3 (hQ .i64) k c.2.2.2.1::cR 95 CI i c.2.2.1::cW 32 A [sv e,sv f,sv i,sv k,sv m,sv o]::cW 123 C [.string d.1,sv M,.string d.2.2.1,.string d.2.2.2]::cR 95 CI z q.2.2.1::Wq1 r1 g_0::F) _:=l4;refine AQ l5.at1 rfl rfl λtb l6=> ?_;have l7:=jE (r:=(hQ .i64)) (cs:=[.int .i64 ((s.1))]) (x:=((s.1))) (iU ((jE (r:=(hQ .i64)) (cs:=[.int .i64 c9]) (x:=c9) l6.at1 rfl).at1)) rfl;have l8:St w (cO 95 Rq1 (fH B) (((s.1)),bt,c9)::cR 9 gW e c.1::cR 9 gW f c.2.1::cO 32 HZ (fH E) bj::cR 9 gW o c.2.2.2.2.2::cR 3 (hQ .i64) m c.2.2.2.2.1::cR 3 (hQ .i64) k c.2.2.2.1::cR 95 CI i c.2.2.1::cW 32 A [sv e,sv f,sv i,sv k,sv m,sv o]::cW 123 C [.string d.1,sv M,.string d.2.2.1,.string d.2.2.2]::cR 95 CI z q.2.2.1::Wq1 r1 g_0::F) _:=lT (iU l7).at1;obtain rfl:=iS bd;exact AO (()) rfl ⟨w,(((s.1)),bt,c9),sb,rfl,l8.at11.at11.at11.at11.at11.at11.at11.at11.at11.at11.at11.at11⟩
    obtain rfl:=iS bd;exact AO (()) rfl ⟨w,((s.1),bt,(s.2.2)),sb,rfl,c8.at11.at11.at11.at11.at11.at11.at11.at11.at11.at11.at11.at11⟩
   rintro x6 tc ⟨l9,la,td,rfl,lb⟩;obtain rfl:=iS u;exact AZ ((wN D.1),D.2.1,D.2.2.1,()) _ rfl rfl ⟨l9,bj,la,sb,k7,rfl,lb.at11.at11.at11.at11.at11.at11.at11.at11.at10.at10.at10.at11⟩
  ·rintro _ D te _ ⟨lc,ld,le,tf,rfl,rfl,f4⟩ lf lg;subst lg;refine AA f4.at9 rfl<|AU (dF el lf)<|AI (AL (D.1,D.2.1,D.2.2.1,()) rfl ⟨_,rfl,_,lc,ld,le,sb,rfl,rfl,f4.at11.at11.at11.at11.at11.at11.at11.at11.at11.at11.at11.at11⟩)
  rintro K tg ⟨_,rfl,_,f5,ch,T,th,_,rfl,Y⟩;refine AA Y.at9 rfl ?_;have⟨lh,R,a0⟩:=bS a0;refine Aa (λy w_ g=>∃ψ:AD,∃f6:Ax,∃f7:Au,Sub f5 ψ∧iT (f6,f7)=g∧St ψ (cO 95 Rq1 (fH B) f6::cO 32 HZ (fH E) f7::cR 9 gW e c.1::cR 9 gW f c.2.1::cR 9 gW o c.2.2.2.2.2::cR 3 (hQ .i64) m c.2.2.2.2.1::cR 3 (hQ .i64) k c.2.2.2.1::cR 95 CI i c.2.2.1::cW 32 A [sv e,sv f,sv i,sv k,sv m,sv o]::cW 123 C [.string d.1,sv M,.string d.2.2.1,.string d.2.2.2]::cR 95 CI z q.2.2.1::Wq1 r1 g_0::F) w_) (g:=lh) ?_ ?_
  ·refine AH R rfl (λ_ R=> ?_) (λ_ R=> ?_)
   ·refine AA Y.at11 rfl<|AA Y.at11 rfl<|AA Y.at11 rfl<|AA Y.at11 rfl<|AA Y.at11 rfl<|AA Y.at9 rfl ?_;have⟨ti,li,R⟩:=bS R;refine AK (FL (g_0:=(g_0.1,g_0.2.1,g_0.2.2.1,g_0.2.2.2.1,g_0.2.2.2.2.1,())) b4.up d0.up bn.up b5.up Y li) ?_;rintro _ tj ⟨U,H,tk,rfl,rfl,lj⟩;refine⟨H,rfl,?_⟩;obtain⟨lk,tl,f8,tm,ll⟩:=lj.at1.open;obtain rfl:B=lk:=by simpa using f8
    clear f8;obtain⟨tn,tp,rfl,tq,lm⟩:=ll.at1.pair;obtain⟨ln,lo⟩:=lm.ro;subst ln;obtain⟨tr,ts,rfl,tt,f9⟩:=lo.pair;obtain⟨fa,lp⟩:=f9.rowCs;subst lp;obtain⟨lq,lr⟩:=f9.at1.ro;subst lq;have ls:St U (cR 3 (hQ .i64) fa T.2.1::cW 95 B [.int .i64 (T.1),sv fa,.int .i64 (T.2.2)]::cO 32 HZ (fH E) ch::cR 9 gW e c.1::cR 9 gW f c.2.1::cR 9 gW o c.2.2.2.2.2::cR 3 (hQ .i64) m c.2.2.2.2.1::cR 3 (hQ .i64) k c.2.2.2.1::cR 95 CI i c.2.2.1::cW 32 A [sv e,sv f,sv i,sv k,sv m,sv o]::cW 123 C [.string d.1,sv M,.string d.2.2.1,.string d.2.2.2]::cR 95 CI z q.2.2.1::Wq1 r1 g_0::F) _:=lr;refine AQ ls.at1 rfl rfl λtu cl=>AA cl rfl<|AH R rfl (λ_ R=> ?_) (λ_ R=> ?_)
    ·refine AA cl.at10 rfl ?_;have⟨lt,tv,tw,tx,ty,tz,u0,fb,lu⟩:=Fe cl.at2;obtain rfl:E=lt:=by simpa using fb
     clear fb;refine AQ lu.at6 rfl rfl λu1 lv=>AQ lv rfl rfl λu2 lw=>AQ lw rfl rfl λu3 lx=>AQ lx rfl rfl λu4 ly=>AQ ly rfl rfl λu5 lz=>AQ lz rfl rfl λu6 b7=>AN (iH (b:=C) (j:=2) b7.at16 rfl)<|AA (x:=((none,0,0):Slc)) b7 rfl<|AA (x:=((none,0,0):Slc)) b7 rfl<|AA (x:=((none,0,0):Slc)) b7 rfl<|AA (x:=((none,0,0):Slc)) b7 rfl<|AA (x:=((none,0,0):Slc)) b7 rfl<|AA (x:=((none,0,0):Slc)) b7 rfl ?_;obtain rfl:=iS R;obtain rfl:=iS a0;obtain rfl:=ek _ rfl;obtain rfl:=iS hd;exact Wm (Aj (Al (AC ⟨U,((((none,0,0):Slc),((none,0,0):Slc),((none,0,0):Slc),((none,0,0):Slc),((none,0,0):Slc),((none,0,0):Slc),()),(16:Int),d.2.2.1,()),[],[],[],[],[],[],sb,rfl,rfl,(hU gW U),(hU gW U),(hU CI U),(hU (hQ .i64) U),(hU (hQ .i64) U),(hU gW U),b7.tail.tail.tail.tail.tail.tail.tail.tail.tail.tail.tail.tail.tail.tail.tail.tail.tail.tail.tail⟩)))
    have m0:=jE (r:=(hQ .i64)) (cs:=[.int .i64 (T.1)]) (x:=(T.1)) (iU ((jE (r:=(hQ .i64)) (cs:=[.int .i64 H]) (x:=H) cl.at1 rfl).at1)) rfl;have m1:St U (cO 95 Rq1 (fH B) ((T.1),T.2.1,H)::cO 32 HZ (fH E) ch::cR 9 gW e c.1::cR 9 gW f c.2.1::cR 9 gW o c.2.2.2.2.2::cR 3 (hQ .i64) m c.2.2.2.2.1::cR 3 (hQ .i64) k c.2.2.2.1::cR 95 CI i c.2.2.1::cW 32 A [sv e,sv f,sv i,sv k,sv m,sv o]::cW 123 C [.string d.1,sv M,.string d.2.2.1,.string d.2.2.2]::cR 95 CI z q.2.2.1::Wq1 r1 g_0::F) _:=lT (iU m0).at1;obtain rfl:=iS R;exact AO (K.2.1,K.2.2.1,()) rfl ⟨U,((T.1),T.2.1,H),ch,sb,rfl,m1.at11.at11.at11.at11.at11.at11.at11.at11.at11.at11.at11.at11⟩
   obtain rfl:=iS R;exact AO (K.2.1,K.2.2.1,()) rfl ⟨f5,T,ch,sb,rfl,Y.at11.at11.at11.at11.at11.at11.at11.at11.at11.at11.at10.at11⟩
  rintro w0 u7 ⟨m2,V,fc,u8,rfl,fd⟩;refine AA fd.at8 rfl ?_;obtain⟨m3,u9,fe,ua,m4⟩:=fd.open;obtain rfl:B=m3:=by simpa using fe
  clear fe;obtain⟨ub,uc,rfl,ud,m5⟩:=m4.at1.pair;obtain⟨m6,m7⟩:=m5.ro;subst m6;obtain⟨ue,uf,rfl,ug,ff⟩:=m7.pair;obtain⟨bx,m8⟩:=ff.rowCs;subst m8;obtain⟨m9,ma⟩:=ff.at1.ro;subst m9;have cm:St m2 (cR 3 (hQ .i64) bx V.2.1::cW 95 B [.int .i64 (V.1),sv bx,.int .i64 (V.2.2)]::cO 32 HZ (fH E) fc::cR 9 gW e c.1::cR 9 gW f c.2.1::cR 9 gW o c.2.2.2.2.2::cR 3 (hQ .i64) m c.2.2.2.2.1::cR 3 (hQ .i64) k c.2.2.2.1::cR 95 CI i c.2.2.1::cW 32 A [sv e,sv f,sv i,sv k,sv m,sv o]::cW 123 C [.string d.1,sv M,.string d.2.2.1,.string d.2.2.2]::cR 95 CI z q.2.2.1::Wq1 r1 g_0::F) _:=ma;refine AA (x:=(V.1)) cm.at1 rfl<|AA cm.at1 rfl<|AA (x:=(V.2.2)) cm.at1 rfl<|AV (vs:=[.int .i64 (V.1),sv bx,.int .i64 (V.2.2)]) cm λx7 uh mb=> ?_;have⟨mc,ui,md,fg⟩:=iE (t:=bx) mb.at1;have⟨me,mf,a0⟩:=bS a0;refine AX (r:=CI) (ms:=([((V.1),V.2.1,(V.2.2))]:List Ax)) Tu fg.tail.at7 rfl (iY fg) (.cons (a:=[_,_,_]) ⟨[_],_,rfl,rfl,⟨[_],_,rfl,⟨bx,rfl,md⟩,rfl⟩⟩ .nil) rfl mf ?_;intro x8 uj mg;refine AQ mg.at8 rfl rfl λuk mh=> ?_;obtain rfl:=iS a0;exact AZ ((wN J.1),w0.1,w0.2.1,()) _ rfl rfl ⟨mc,fc,(c.1,c.2.1,me,c.2.2.2.1,c.2.2.2.2.1,c.2.2.2.2.2),sb,je,rfl,(((((((IT mh.at4.at5.at3.at8.at8.at8.at6.at6.at6.at6.at6.at6.at6).at1.tail).at2.tail).at3).at3).at2).at3)⟩
 ·rintro _ J ul _ ⟨mi,mj,mk,um,rfl,rfl,fh⟩ ml mm;subst mm;refine AA fh.at3 rfl<|AU (dF bz ml)<|AI (AL (J.1,J.2.1,J.2.2.1,()) rfl ⟨_,rfl,_,mi,mj,mk,sb,rfl,rfl,fh.at3.at3.at3.at3⟩)
 rintro z2 un ⟨_,rfl,_,uo,uq,bl,ur,_,rfl,mn⟩;have⟨mo,fi,fj,fk,fl,fm,fn,fo,d9⟩:=Fe mn.at1;obtain rfl:A=mo:=by simpa using fo
 clear fo;refine AA d9.at6 rfl<|AA d9.at9 rfl ?_;have⟨us,mp,hd⟩:=bS hd;refine AK (Br d9.at4 mp) ?_;rintro _ ut ⟨bf,w6,uu,rfl,rfl,Z⟩;refine⟨w6,rfl,?_⟩;refine AH hd rfl (λ_ hd=> ?_) (λ_ hd=> ?_)
 ·refine AA Z.at9 rfl ?_;have⟨mq,uv,uw,ux,uy,uz,v0,fp,mr⟩:=Fe Z.at7;obtain rfl:E=mq:=by simpa using fp
  clear fp;refine AQ mr.at6 rfl rfl λv1 mu=>AQ mu rfl rfl λv2 mv=>AQ mv rfl rfl λv3 mw=>AQ mw rfl rfl λv4 mx=>AQ mx rfl rfl λv5 my=>AQ my rfl rfl λv6 b8=>AN (iH (b:=r1) (j:=3) b8.at15 rfl)<|AA (x:=((none,0,0):Slc)) b8 rfl<|AA (x:=((none,0,0):Slc)) b8 rfl<|AA (x:=((none,0,0):Slc)) b8 rfl<|AA (x:=((none,0,0):Slc)) b8 rfl<|AA (x:=((none,0,0):Slc)) b8 rfl<|AA (x:=((none,0,0):Slc)) b8 rfl ?_;obtain rfl:=iS hd;exact AC ⟨bf,((((none,0,0):Slc),((none,0,0):Slc),((none,0,0):Slc),((none,0,0):Slc),((none,0,0):Slc),((none,0,0):Slc),()),(16:Int),g_0.2.2.2.1,()),[],[],[],[],[],[],sb,rfl,rfl,(hU gW bf),(hU gW bf),(hU CI bf),(hU (hQ .i64) bf),(hU (hQ .i64) bf),(hU gW bf),b8.tail.tail.tail.tail.tail.tail.tail.tail.tail.tail.tail.tail.tail.tail.tail.tail⟩
 refine AA Z.at6 rfl<|AA Z.at6 rfl<|AA Z.at6 rfl<|AA Z.at6 rfl<|AA Z.at6 rfl<|AA Z.at6 rfl ?_;have⟨mz,v7,v8,v9,va,vb,vc,fq,n0⟩:=Fe Z.at7;obtain rfl:E=mz:=by simpa using fq
 clear fq;refine AQ n0.at6 rfl rfl λvd n1=>AQ n1 rfl rfl λve n2=>AQ n2 rfl rfl λvf n3=>AQ n3 rfl rfl λvg n4=>AQ n4 rfl rfl λvh n5=>AQ n5 rfl rfl λvi bg=>AA bg rfl<|AA bg rfl<|AA bg rfl<|AA bg rfl<|AA bg rfl<|AA bg rfl ?_;have⟨vj,vk,n6,n7⟩:=iE (t:=fi) bg.at12;have⟨vl,vm,n8,n9⟩:=iE (t:=fj) n7.at7;have⟨vn,vo,na,nb⟩:=iE (t:=fk) n9.at10;have⟨vp,vq,nc,nd⟩:=iE (t:=fl) nb.at9;have⟨vr,vt,nf,ng⟩:=iE (t:=fm) nd.at8;have⟨nh,vu,ni,nj⟩:=iE (t:=fn) ng.at7;obtain rfl:=iS hd;exact AC ⟨nh,((fi,fj,fk,fl,fm,fn,()),(0:Int),{data:=#[]},()),bl.1,bl.2.1,bl.2.2.1,bl.2.2.2.1,bl.2.2.2.2.1,bl.2.2.2.2.2,sb,rfl,rfl,n6.up,n8.up,na.up,nc.up,nf.up,ni,nj.tail.tail.tail.tail.tail.tail.tail.tail.tail.tail⟩
noncomputable def Bb (s_0:NT):Option (List gN×List gN×List Ax×gM×gM×List gN):=(B9 (s_0.1,s_0.2.1,s_0.2.2.1,s_0.2.2.2.1,s_0.2.2.2.2.1,s_0.2.2.2.2.2.1,s_0.2.2.2.2.2.2)).bind λb=>(Dw (b.1,b.2.1,b.2.2.1,b.2.2.2.1,b.2.2.2.2)).bind λa=>some (a.1,a.2.1,a.2.2.1,a.2.2.2.1,a.2.2.2.2.1,a.2.2.2.2.2.1)
theorem Dx {s_0:Int×Int×Slc×Slc×Slc×Slc×Slc×Unit}{d:gM}{e:List gM}{f:gM}{g:gM}{i:gM}(p:Ro.SliceIs (hQ .u8) φ s_0.2.2.1 d) (q:Ro.SliceIs (oA (hQ .u8)) φ s_0.2.2.2.1 e) (s:Ro.SliceIs (hQ .u8) φ s_0.2.2.2.2.1 f) (t:Ro.SliceIs (hQ .u8) φ s_0.2.2.2.2.2.1 g) (u:Ro.SliceIs (hQ .u8) φ s_0.2.2.2.2.2.2.1 i) (C:St φ (F) h) {r:(List gN×List gN×List Ax×gM×gM×List gN)}(hd:Bb (s_0.1,s_0.2.1,d,e,f,g,i)=some r):
 CallsH gR 6 [(.agg #[(.int .u8 s_0.1),(.int .u8 s_0.2.1),(sv s_0.2.2.1),(sv s_0.2.2.2.1),(sv s_0.2.2.2.2.1),(sv s_0.2.2.2.2.2.1),(sv s_0.2.2.2.2.2.2.1)])] h (Ap λv h'=>∃ψ:AD,∃y:Pl6,∃j:List gN,∃k:List gN,∃l:List Ax,∃m:gM,∃n:gM,∃o:List gN,Sub φ ψ∧v=((.one (.agg [.slice,.slice,.slice,.slice,.slice,.slice])):Sh).val y∧(j,k,l,m,n,o)=r∧Ro.SliceIs gW ψ y.1 j∧Ro.SliceIs gW ψ y.2.1 k∧Ro.SliceIs CI ψ y.2.2.1 l∧Ro.SliceIs (hQ .i64) ψ y.2.2.2.1 m∧Ro.SliceIs (hQ .i64) ψ y.2.2.2.2.1 n∧Ro.SliceIs gW ψ y.2.2.2.2.2.1 o∧St ψ (F) h'):=by
 refine AY mixed Tryz.func6 (GT ..)<|AV (vs:=[.int .u8 s_0.1,.int .u8 s_0.2.1,sv s_0.2.2.1,sv s_0.2.2.2.1,sv s_0.2.2.2.2.1,sv s_0.2.2.2.2.2.1,sv s_0.2.2.2.2.2.2.1]) C λr1 bj w=>AV (vs:=[.slice none 0 0,.slice none 0 0,.slice none 0 0,.slice none 0 0,.slice none 0 0,.slice none 0 0]) w λY bl a=>AA a.at1 rfl<|AA a.at1 rfl<|AA a.at1 rfl<|AA a.at1 rfl<|AA a.at1 rfl<|AA a.at1 rfl<|AA a.at1 rfl ?_;have⟨bn,x,hd⟩:=bS hd;refine AK (Fh (s_0:=(s_0.1,s_0.2.1,s_0.2.2.1,s_0.2.2.2.1,s_0.2.2.2.2.1,s_0.2.2.2.2.2.1,s_0.2.2.2.2.2.2.1,())) p q s t u a x) ?_;rintro _ bp ⟨bq,B,bs,bt,bx,bz,Z,rfl,rfl,z,a0,D,E,G⟩;refine⟨B,rfl,?_⟩;have⟨c1,H,hd⟩:=bS hd;refine AK (LP (g_0:=(B.1,B.2.1,B.2.2.1,B.2.2.2.1,B.2.2.2.2.1,())) z a0 D E G H) ?_;rintro _ c2 ⟨I,A,J,K,L,M,ad,al,c3,rfl,rfl,ap,ax,N,O,P,Q,R⟩;refine⟨A,rfl,?_⟩;refine AV (vs:=[.slice none 0 0,.slice none 0 0,.slice none 0 0,.slice none 0 0,.slice none 0 0,.slice none 0 0]) R λS c4 T=>AQ T rfl rfl λc5 U=>AQ U rfl rfl λc6 V=>AQ V rfl rfl λc7 W=>AQ W rfl rfl λc8 X=>AQ X rfl rfl λc9 ba=>AQ ba rfl rfl λch b=>AA b rfl<|AA b rfl<|AA b rfl<|AA b rfl<|AA b rfl<|AA b rfl<|AQ b.at1 rfl rfl λcl bb=>AQ bb rfl rfl λcm bd=>AQ bd rfl rfl λcp bf=>AQ bf rfl rfl λcs bg=>AQ bg rfl rfl λcw bi=>AQ bi rfl rfl λcx c=>AA c rfl<|AA c rfl<|AA c rfl<|AA c rfl<|AA c rfl<|AA c rfl ?_;obtain rfl:=iS hd;exact AC ⟨I,(A.1.1,A.1.2.1,A.1.2.2.1,A.1.2.2.2.1,A.1.2.2.2.2.1,A.1.2.2.2.2.2.1,()),J,K,L,M,ad,al,sb,rfl,rfl,ap,ax,N,O,P,Q,c.tail.tail.tail⟩
end
end Go.Proofs.YtkfgeafgfeppfaaGreatDoor
namespace Go.Eng
open Go
theorem CK {α:Type}(l:List α) (k:Nat):idx l (k:Int)=l[k]? :=by
 unfold idx;rw[gF (by omega),iK]
theorem Ku {α:Type}{l:List α}{i:Int}(a:0≤i) (b:i.toNat<l.length):idx l i=some l[i.toNat]:=by
 unfold idx;rw[gF a,gU b]
theorem Gl {α:Type}{l:List α}{k:Nat}(h:k<l.length):idx l (k:Int)=some l[k]:=by
 rw[CK,gU h]
theorem Fi {α:Type}{l m:List α}(h:l.length+m.length≤1099512676352):app l m=some (l++m):=by unfold app;rw[gF h]
theorem RH {α:Type}{l:List α}{a b:Int}(c:0≤a) (d:a≤b) (e:b≤(l.length:Int)):cut l a b=some ((l.take b.toNat).drop a.toNat):=by unfold cut;rw[gF ⟨c,d,e⟩]
theorem HM {α:Type}{l:List α}{i:Int}{x:α}(a:0≤i) (b:i< (l.length:Int)):DB l i x=some (l.set i.toNat x):=by unfold DB;rw[gF ⟨a,b⟩]
theorem FN {α:Type}{p:Prop}[Decidable p] (h:p) (k:Option α):need p k=k:=by unfold need;rw[gF h]
theorem Oz {σ:Type}{f:Int→σ→Option σ}(I:Int→σ→Prop):∀(n:Nat) (i:Int) (s:σ),I i s→(∀j s,i≤j→j<i+n→I j s→ ∃s',f j s=some s'∧I (j+1) s')→ ∃s',L7 f n i s=some s'∧I (i+n) s':=by
 intro n
 induction n with
 |zero=>intro i s hI _;exact⟨s,rfl,by simpa using hI⟩
 |succ n ih=>
  intro i s hI hs;obtain⟨s',a,b⟩:=hs i s (nU _) (by omega) hI;obtain⟨s'',c,d⟩:=ih (i+1) s' b λj s hj hj'=>hs j s (by omega) (by omega);refine⟨s'',by simp only[L7];rw[a];exact c,?_⟩;rw[show i+(n+1:Nat)=i+1+n by omega];exact d
theorem CL {σ:Type}{f:Int→σ→Option σ}{n:Nat}(I:Nat→σ→Prop) (hn:n≤9223372036854775807) {s:σ}(c:I 0 s) (hs:∀k s,k<n→I k s→ ∃s',f (k:Int) s=some s'∧I (k+1) s'):∃s',forS 0 (n:Int) s f=some s'∧I n s':=by
 unfold forS;rw[gF ⟨by omega,by omega⟩];obtain⟨s',b,a⟩:=Oz (f:=f) (λi s=>I i.toNat s) ((n:Int) - 0).toNat 0 s (by simpa using c) λj s hj hj' hI=>by
  obtain⟨s',b,a⟩:=hs j.toNat s (by omega) hI;refine⟨s',by rw[←b,show(j.toNat:Int)=j by omega],by rw[show(j+1).toNat=j.toNat+1 by omega];exact a⟩
 refine⟨s',b,?_⟩;have e:((0:Int)+(((n:Int) - 0).toNat:Nat)).toNat=n:=by omega
 rw[e]at a;exact a
theorem Vj {σ β:Type}{f:Int→σ→Option (AW σ β)}(I:Int→σ→Prop) (B:β→Prop):∀(n:Nat) (i:Int) (s:σ),I i s→(∀j s,i≤j→j<i+n→I j s→(∃s',f j s=some (.next s')∧I (j+1) s')∨ ∃b,f j s=some (.done b)∧B b)→
 (∃s',JJ f n i s=some (.next s')∧I (i+n) s')∨ ∃b,JJ f n i s=some (.done b)∧B b:=by
 intro n
 induction n with
 |zero=>intro i s hI _;exact .inl ⟨s,rfl,by simpa using hI⟩
 |succ n ih=>
  intro i s hI hs;rcases hs i s (nU _) (by omega) hI with⟨s',a,c⟩|⟨b,a,c⟩
  ·rcases ih (i+1) s' c λj s hj hj'=>hs j s (by omega) (by omega) with⟨s'',d,e⟩|⟨b,d,e⟩
   ·left
    refine⟨s'',by simp only[JJ];rw[a];exact d,?_⟩;rw[show i+(n+1:Nat)=i+1+n by omega];exact e
   ·exact .inr ⟨b,by simp only[JJ];rw[a];exact d,e⟩
  ·exact .inr ⟨b,by simp only[JJ];rw[a];rfl,c⟩
theorem SJ {σ β:Type}{f:Int→σ→Option (AW σ β)}{n:Nat}(I:Nat→σ→Prop) (B:β→Prop) (hn:n≤9223372036854775807) {s:σ}(d:I 0 s)
 (hs:∀k s,k<n→I k s→(∃s',f (k:Int) s=some (.next s')∧I (k+1) s')∨ ∃b,f (k:Int) s=some (.done b)∧B b):
 (∃s',DE 0 (n:Int) s f=some (.next s')∧I n s')∨ ∃b,DE 0 (n:Int) s f=some (.done b)∧B b:=by
 unfold DE;rw[gF ⟨by omega,by omega⟩];rcases Vj (λi s=>I i.toNat s) B ((n:Int) - 0).toNat 0 s (by simpa using d) (λj s hj hj' hI=>by
  have e:(j.toNat:Int)=j:=by omega
  rcases hs j.toNat s (by omega) hI with⟨s',c,a⟩|⟨b,c,a⟩
  ·exact .inl ⟨s',by rw[←c,e],by rw[show(j+1).toNat=j.toNat+1 by omega];exact a⟩
  ·exact .inr ⟨b,by rw[←c,e],a⟩) with⟨s',c,a⟩|h
 ·left
  refine⟨s',c,?_⟩;have e:((0:Int)+(((n:Int) - 0).toNat:Nat)).toNat=n:=by omega
  rw[e]at a;exact a
 ·exact .inr h
theorem Wt {σ β:Type}{f:Int→σ→Option (AW σ β)}{n:Nat}(I:Nat→σ→Prop) (hn:n≤9223372036854775807) {s:σ}(a:I 0 s)
 (hs:∀k s,k<n→I k s→ ∃s',f (k:Int) s=some (.next s')∧I (k+1) s'):∃s',DE 0 (n:Int) s f=some (.next s')∧I n s':=by
 rcases SJ I (λ_=>False) hn a (λk s hk hI=>.inl (hs k s hk hI)) with h | ⟨_,_,h⟩
 ·exact h
 ·exact h.elim
theorem Wu {σ β:Type}{f:σ→Option (AW σ β)}(I:σ→Prop) (μ:σ→Nat) (B:β→Prop) (hs:∀s,I s→(∃s',f s=some (.next s')∧I s'∧μ s'<μ s)∨ ∃b,f s=some (.done b)∧B b):∀ {s:σ},I s→ ∃b,loop s f=some b∧B b:=by
 intro s
 generalize hm:μ s=m
 induction m using Nat.strongRecOn generalizing s with
 |ind m ih=>
  intro hI;rw[Q6];rcases hs s hI with⟨s',a,c,d⟩|⟨b,a,c⟩
  ·rw[a];exact ih (μ s') (by omega) rfl c
  ·rw[a];exact⟨b,rfl,c⟩
def Ok {α:Type}(o:Option α) (P:α→Prop):Prop:= ∃x,o=some x∧P x
section
variable {α β γ σ:Type}{P:γ→Prop}{k:α→Option γ}
theorem Ok.eq {o:Option α}{x:α}(h:Ok o (· =x)):o=some x:=by obtain⟨y,a,b⟩:=h;rw[a];exact gH some b
theorem Ok.of {o:Option α}{x:α}{Q:α→Prop}(h:o=some x) (hq:Q x):Ok o Q:=⟨x,h,hq⟩
theorem Ok.mono {o:Option α}{Q R:α→Prop}(h:Ok o Q) (hq:∀x,Q x→R x):Ok o R:=by obtain⟨x,a,b⟩:=h;exact⟨x,a,hq x b⟩
theorem AB {x:γ}(h:P x):Ok (some x) P:=⟨x,rfl,h⟩
theorem AM {o:Option α}{Q:α→Prop}(h:Ok o Q) (hk:∀x,Q x→Ok (k x) P):Ok (o.bind k) P:=by
 obtain⟨x,a,b⟩:=h;rw[a];exact hk x b
theorem AP {o:Option α}{x:α}(h:o=some x) (hk:Ok (k x) P):Ok (o.bind k) P:=by rw[h];exact hk
theorem Bp {p:Prop}{d:Decidable p}{o:Option γ}(h:p) (hk:Ok o P):Ok (@need γ p d o) P:=by
 have: @need γ p d o=o:=by unfold need;exact gF h
 rw[this];exact hk
theorem BK {c:Bool}{x y:Option γ}(h:c=true) (hk:Ok x P):Ok (cond c x y) P:=by subst h;exact hk
theorem Af {c:Bool}{x y:Option γ}(h:c=false) (hk:Ok y P):Ok (cond c x y) P:=by subst h;exact hk
theorem AR {c:Bool}{x y:Option γ}(a:c=true→Ok x P) (b:c=false→Ok y P):Ok (cond c x y) P:=by
 cases c with
 |true=>exact a rfl
 |false=>exact b rfl
theorem Ck {l:List α}{i:Int}{x:α}(a:0≤i) (h:l[i.toNat]? =some x) (hk:Ok (k x) P):Ok ((idx l i).bind k) P:=by
 unfold idx;rw[gF a,h];exact hk
theorem AS {l:List α}{i:Nat}{x:α}(h:l[i]? =some x) (hk:Ok (k x) P):Ok ((idx l (i:Int)).bind k) P:=by
 rw[CK,h];exact hk
theorem BI {l m:List α}{k:List α→Option γ}(h:l.length+m.length≤1099512676352) (hk:Ok (k (l++m)) P):Ok ((app l m).bind k) P:=by
 rw[Fi h];exact hk
theorem ER {l:List α}{i:Int}{x:α}{k:List α→Option γ}(a:0≤i) (b:i< (l.length:Int)) (hk:Ok (k (l.set i.toNat x)) P):Ok ((DB l i x).bind k) P:=by
 rw[HM a b];exact hk
theorem BV {f:Int→σ→Option σ}{n:Nat}{s:σ}{k:σ→Option γ}(I:Nat→σ→Prop) (hn:n≤9223372036854775807) (a:I 0 s) (hs:∀j s,j<n→I j s→Ok (f (j:Int) s) (I (j+1))) (hk:∀s',I n s'→Ok (k s') P):
 Ok ((forS 0 (n:Int) s f).bind k) P:=by
 obtain⟨s',b,c⟩:=CL I hn a hs;rw[b];exact hk s' c
theorem FO {f:Int→σ→Option (AW σ β)}{n:Nat}{s:σ}{k:AW σ β→Option γ}(I:Nat→σ→Prop) (hn:n≤9223372036854775807) (c:I 0 s) (hs:∀j s,j<n→I j s→Ok (f (j:Int) s) (λe=>∃s',e= .next s'∧I (j+1) s')) (hk:∀s',I n s'→Ok (k (.next s')) P):
 Ok ((DE 0 (n:Int) s f).bind k) P:=by
 obtain⟨s',a,b⟩:=Wt I hn c (λj s hj hI=>by
  obtain⟨e,a,s',rfl,b⟩:=hs j s hj hI;exact⟨s',a,b⟩)
 rw[a];exact hk s' b
theorem F6 {f:Int→σ→Option (AW σ β)}{n:Nat}{s:σ}{k:AW σ β→Option γ}(I:Nat→σ→Prop) (B:β→Prop) (hn:n≤9223372036854775807) (d:I 0 s) (hs:∀j s,j<n→I j s→Ok (f (j:Int) s) (λe=>(∃s',e= .next s'∧I (j+1) s')∨ ∃b,e= .done b∧B b))
 (hk:∀s',I n s'→Ok (k (.next s')) P) (hb:∀b,B b→Ok (k (.done b)) P):
 Ok ((DE 0 (n:Int) s f).bind k) P:=by
 rcases SJ I B hn d (λj s hj hI=>by
  have⟨e,c,a⟩:=hs j s hj hI;rcases a with⟨s',rfl,a⟩|⟨b,rfl,a⟩
  ·exact .inl ⟨s',c,a⟩
  ·exact .inr ⟨b,c,a⟩) with⟨s',c,a⟩|⟨b,c,a⟩
 ·rw[c];exact hk s' a
 ·rw[c];exact hb b a
theorem Bq {f:σ→Option (AW σ β)}{s:σ}{k:β→Option γ}(I:σ→Prop) (μ:σ→Nat) (B:β→Prop) (d:I s) (hs:∀s,I s→Ok (f s) (λe=>(∃s',e= .next s'∧I s'∧μ s'<μ s)∨ ∃b,e= .done b∧B b)) (hk:∀b,B b→Ok (k b) P):
 Ok ((loop s f).bind k) P:=by
 obtain⟨b,c,a⟩:=Wu I μ B (λs hI=>by
  have⟨e,c,a⟩:=hs s hI;rcases a with⟨s',rfl,a⟩|⟨b,rfl,a⟩
  ·exact .inl ⟨s',c,a⟩
  ·exact .inr ⟨b,c,a⟩) d
 rw[c];exact hk b a
theorem Fq {s:σ}{Q:σ→Prop}(h:Q s):Ok (some (iT s:AW σ β)) (λe=>∃s',e= .next s'∧Q s'):=⟨_,rfl,s,rfl,h⟩
theorem BJ {s:σ}{Q:σ→Prop}{B:β→Prop}(h:Q s):Ok (some (iT s:AW σ β)) (λe=>(∃s',e= .next s'∧Q s')∨ ∃b,e= .done b∧B b):=⟨_,rfl,.inl ⟨s,rfl,h⟩⟩
theorem As {b:β}{Q:σ→Prop}{B:β→Prop}(h:B b):Ok (some (iR b:AW σ β)) (λe=>(∃s',e= .next s'∧Q s')∨ ∃b,e= .done b∧B b):=⟨_,rfl,.inr ⟨b,rfl,h⟩⟩
end
theorem Mo {α β γ:Type}{P:γ→Prop}{f:Int→Unit→Option (AW Unit β)}{k:AW Unit β→Option γ}(l:List α) (q:Nat→α→Bool) (d:Nat→α→β) (hl:l.length≤9223372036854775807)
 (hf:∀(j:Nat) x,l[j]? =some x→f (j:Int) ()=some (if q j x then .done (d j x) else .next ()))
 (a:(∀(j:Nat) x,l[j]? =some x→q j x=false)→Ok (k (.next ())) P) (c:∀(j:Nat) x,l[j]? =some x→q j x=true→(∀(i:Nat) y,i<j→l[i]? =some y→q i y=false)→Ok (k (.done (d j x))) P):
 Ok ((DE (0:Int) (l.length:Int) () f).bind k) P:=by
 refine F6 (λi _=>∀(j:Nat) y,j<i→l[j]? =some y→q j y=false) (λb=>∃(j:Nat) (x:α),l[j]? =some x∧q j x=true∧(∀(i:Nat) y,i<j→l[i]? =some y→q i y=false)∧b=d j x) hl (λj y h=>by omega) (λi _ hi hI=> ?_) (λ_ h=>a λj x hx=>h j x (lC.1 hx).1 hx) (λb ⟨j,x,e,g,m,n⟩=>by rw[n];exact c j x e g m);have hx:=gU hi;rw[hf i _ hx];cases hq:q i l[i]with
 |true=>exact⟨_,rfl,.inr ⟨_,rfl,i,_,hx,hq,hI,rfl⟩⟩
 |false=>
  refine⟨_,rfl,.inl ⟨(),rfl,λj y hj hy=> ?_⟩⟩;rcases jK.1 hj with h | rfl
  ·exact hI j y h hy
  ·rw[hx]at hy;cases hy;exact hq
end Go.Eng
namespace Go.Proofs.YtkfgeafgfeppfaaGreatDoor
open Go Go.Eng
theorem OA (b:gN):b.toList=b.data.toList:=by
 have hsz:b.size=b.data.toList.length:=by rw[Array.length_toList];rfl
 have key:∀(n i:Nat) (r:List UInt8),b.size - i=n→ByteArray.toList.loop b i r=r.reverse++b.data.toList.drop i:=by
  intro n
  induction n with
  |zero=>
   intro i r h;rw[ByteArray.toList.loop.eq_1,gG (by omega),List.drop_eq_nil_of_le (by omega),List.append_nil]
  |succ n ih=>
   intro i r h;have hi:i<b.size:=by omega
   rw[ByteArray.toList.loop.eq_1,gF hi,ih (i+1) _ (by omega)];have hi':i<b.data.toList.length:=by omega
   rw[List.drop_eq_getElem_cons hi',List.reverse_cons,mT]
   have:b.get! i=b.data.toList[i]:=by
    cases b with
    |mk a=>
     show a[i]! =_;rw[getElem!_pos a i (by simpa using hi')];rw[Array.getElem_toList]
   rw[this];rfl
 unfold gT;rw[key _ 0 [] rfl];rfl
theorem EE (a b:gN):(a.toList==b.toList)=decide (a=b):=by
 rw[OA,OA];by_cases h:a=b
 ·subst h;simp
 ·rw[gB h];refine beq_eq_false_iff_ne.2 λe=>h ?_;cases a;cases b;simp only[ByteArray.mk.injEq];exact Array.toList_inj.1 e
theorem Gm {l:List gN}{s:gN}(hl:l.length≤9223372036854775807):Ok (BC l s) λk=>(k= -1∧s∉l)∨ ∃j:Nat,k=j∧l[j]? =some s:=by
 unfold BC;refine Mo l (λ_ x=>decide (x=s)) (λk _=>k) hl (λk x hx=> ?_) (λh=> ?_) λj x hx hq _=> ?_
 ·rw[CK,hx,iI,EE];cases decide (x=s) <;>rfl
 ·refine AB (.inl ⟨rfl,λhm=> ?_⟩);obtain⟨j,hj⟩:=jY hm
  have:=h j s hj
  simp at this
 ·refine AB (.inr ⟨j,rfl,?_⟩);rw[hx,gD hq]
def nm (c i:Nat):gN:=⟨#[lD (c+i)]⟩
theorem MN {c i d j:Nat}(a:c+i<256) (b:d+j<256) (h:nm c i=nm d j):c+i=d+j:=by
 unfold nm at h;simp only[ByteArray.mk.injEq,Array.mk.injEq,List.cons.injEq,and_true]at h
 have:=gH iN h
 simp at this;omega
theorem an {i:Nat}(h:i<5):gS {data:=#[97,98,99,100,101]} i (i+1)=nm 97 i:=by
 match i,h with
 | 0,_ | 1,_ | 2,_ | 3,_ | 4,_=>decide
theorem ao {i:Nat}(h:i<5):gS {data:=#[112,113,114,115,116]} i (i+1)=nm 112 i:=by
 match i,h with
 | 0,_ | 1,_ | 2,_ | 3,_ | 4,_=>decide
theorem aq {i:Nat}(h:i<4):gS {data:=#[83,84,85,86]} i (i+1)=nm 83 i:=by
 match i,h with
 | 0,_ | 1,_ | 2,_ | 3,_=>decide
inductive Nm:gN→Prop
 |tok {i:Nat} :i<5→Nm (nm 97 i)
 |lev {i:Nat} :i<5→Nm (nm 112 i)
 |var {i:Nat} :i<4→Nm (nm 83 i)
theorem Ut {c i:Nat}(h:(65≤c+i∧c+i≤90)∨(97≤c+i∧c+i≤122)):BU (nm c i)=some true:=by
 generalize e:c+i=n at h
 have:nm c i=⟨#[lD n]⟩:=by unfold nm;rw[e]
 rw[this];have all:∀m:Fin 123,((65≤m.1∧m.1≤90)∨(97≤m.1∧m.1≤122))→(Cz ((iN (lD m.1):Nat):Int))=some true:=by
  have:∀m:Fin 123,((65≤m.1∧m.1≤90)∨(97≤m.1∧m.1≤122))→(match Cz ((iN (lD m.1):Nat):Int) with | some true=>true | _=>false)=true:=by
   decide+kernel
  intro m hm
  have:=this m hm
  split at this
  ·assumption
  ·cases this
 have hl:=all ⟨n,by omega⟩ h;refine Ok.eq ?_;unfold BU EY;have hs:gV {data:=#[lD n]} =1:=rfl;rw[hs];refine AM (Q:=λx=>x=true) (BK rfl (AM (Q:=λx=>x=true) ?_ λ_ h=>AB h)) λ_ h=>AB h;refine FO (λ_ _=>True) (by omega) trivial (λj s hj _=> ?_) λs _=> ?_
 ·obtain rfl:j=0:=by omega
  refine AM (Q:=λx=>x=false) (Bp (by omega) (AP hl (Af rfl (AB rfl)))) λ_ h=> ?_;subst h;exact Fq trivial
 ·rw[EE,gB (λh=>by simp at h)];exact AB rfl
theorem Nm.name {s:gN}(h:Nm s):BU s=some true:=by
 cases h with
 |tok h | lev h | var h=>exact Ut (by omega)
theorem Nm.ne {s:gN}(h:Nm s):s≠⟨#[]⟩:=by
 cases h with
 |tok h | lev h | var h=>intro e;unfold nm at e;simp at e
theorem Nm.size {s:gN}(h:Nm s):s.size=1:=by
 cases h with
 |tok h | lev h | var h=>rfl
theorem Tv:(gT {data:=#[]} ==gT {data:=#[]})=true:=by rw[EE];rfl
theorem Mp:C1 {data:=#[]} =some true:=by rfl
theorem RI {s:gN}(h:Nm s):CJ (s,{data:=#[]},false)=some true:=by
 unfold CJ;dsimp only;have e:=h.size;rw[Tv,EE,gB h.ne,e];rfl
theorem Uu {l:List gN}(hl:l.length≤9223372036854775807) (h:∀x∈l,Nm x) (hn:l.Nodup):Bz l=some true:=by
 refine Ok.eq ?_;unfold Bz;refine FO (λ_ _=>True) hl trivial (λk s hk _=> ?_) λ_ _=>AB rfl;have hk':=gU hk;refine AS hk' (AP (h _ (iL hk)).name ?_);refine Af rfl<|FO (λ_ _=>True) (by omega) trivial (λj s hj _=> ?_) λ_ _=>Fq trivial;have hj':=gU (show j<l.length by omega);refine AS hj' (AS hk' ?_);rw[EE,gB (List.pairwise_iff_getElem.1 (List.nodup_iff_pairwise_ne.1 hn) j k (by omega) hk hj)];exact Fq trivial
theorem wr {x:Int}(h: -1000000≤x∧x≤1000000):gO .i64 x=x:=w64 (by omega) (by omega)
theorem tm {x n:Int}(h:0≤x):gP x n=x % n:=kU h
theorem Wv {i:Int}(a:0≤i) (b:i<5):gS {data:=#[112,113,114,115,116]} (gQ i) (gQ (i+1))=nm 112 i.toNat:=by
 rw[show gQ (i+1)=i.toNat+1 by omega,ao (by omega)]
theorem Ww {i:Int}(a:0≤i) (b:i<5):gS {data:=#[97,98,99,100,101]} (gQ i) (gQ (i+1))=nm 97 i.toNat:=by
 rw[show gQ (i+1)=i.toNat+1 by omega,an (by omega)]
theorem Tw {i:Int}(a:0≤i) (b:i<4):gS {data:=#[83,84,85,86]} (gQ i) (gQ (i+1))=nm 83 i.toNat:=by
 rw[show gQ (i+1)=i.toNat+1 by omega,aq (by omega)]
def Fj (L:List FH):List gN:=L.flatMap (·.2)
structure Lv (nl nk:Nat) (L:List FH):Prop where
 len:L.length=nl
 each:∀(j:Nat) x,L[j]? =some x→1≤x.1∧x.1≤3∧nm 112 j∈x.2
 names:∀x∈Fj L,(∃i,i<nl∧x=nm 112 i)∨ ∃i,i<nk∧x=nm 97 i
 once:(Fj L).Nodup
 room:(Fj L).length≤nl+nk
def Tk (n:Nat) (l:List Gh):Prop:=l.length=n∧ ∀j,j<n→l[j]? =some (nm 97 j,nm 97 j,{data:=#[]},false)
structure Ru1 (nt nv nl:Nat) (r:Db):Prop where
 left:∃i,i<nv∧r.1=nm 83 i
 few:r.2.1.length≤8
 right:∀x∈r.2.1,(∃i,i<nt∧x=nm 97 i)∨ ∃i,i<nv∧x=nm 83 i
 prec:r.2.2.1= {data:=#[]} ∨ ∃i,i<nl∧r.2.2.1=nm 112 i
 act:r.2.2.2= {data:=#[]}
theorem Lv.snoc {k:Nat}{L:List FH}{a:Int}(H:Lv k 0 L) (ha:1≤a∧a≤3) (hk:k<5):Lv (k+1) 0 (L++ [(a,[nm 112 k])]):=by
 have e:Fj (L++ [(a,[nm 112 k])])=Fj L++ [nm 112 k]:=by unfold Fj;rw[List.flatMap_append];rfl
 refine⟨by simp[H.len],λj x hj=> ?_,λx hx=> ?_,?_,?_⟩
 ·rcases jH j L.length with g | g
  ·rw[jB g]at hj;exact H.each j x hj
  ·rw[jG g]at hj
   have:j - L.length=0:=by
    rcases Nat.eq_zero_or_pos (j - L.length) with q | q
    ·exact q
    ·rw[jA (by simp;omega)]at hj;cases hj
   rw[this]at hj;simp at hj;subst hj
   have:j=k:=by have:=H.len;omega
   subst this;exact⟨ha.1,ha.2,by simp⟩
 ·rw[e]at hx;rcases kH.1 hx with h | h
  ·rcases H.names x h with⟨i,c,b⟩|⟨i,c,b⟩
   ·exact .inl ⟨i,by omega,b⟩
   ·omega
  ·exact .inl ⟨k,by omega,by simpa using h⟩
 ·rw[e];refine List.nodup_append.2 ⟨H.once,by simp,λx hx y hy hxy=> ?_⟩;have hy:y=nm 112 k:=by simpa using hy
  subst hy;rcases H.names x hx with⟨i,c,b⟩|⟨i,c,b⟩
  ·rw[b]at hxy
   have:=MN (by omega) (by omega) hxy
   omega
  ·omega
 ·rw[e,iZ]
  have:=H.room
  simp;omega
theorem Wx {L:List FH}{q:Nat}{a:Int}{ns:List gN}{y:gN}(h:L[q]? =some (a,ns)):(Fj (L.set q (a,ns++ [y]))).Perm (y::Fj L):=by
 induction L generalizing q with
 |nil=>simp at h
 |cons x L ih=>
  cases q with
  |zero=>
   simp at h;subst h;show(ns++ [y] ++Fj L).Perm (y::(ns++Fj L));rw[mT];exact nI
  |succ q=>
   have:=ih (q:=q) (by simpa using h)
   show(x.2++Fj (L.set q (a,ns++ [y]))).Perm (y::(x.2++Fj L));exact(this.append_left x.2).trans nI
theorem Lv.put {nl k:Nat}{L:List FH}{q:Nat}{a:Int}{ns:List gN}(H:Lv nl k L) (hk:k<5) (hn:nl≤5) (h:L[q]? =some (a,ns)):Lv nl (k+1) (L.set q (a,ns++ [nm 97 k])):=by
 have hp:=Wx (y:=nm 97 k) h;refine⟨by simp[H.len],λj x hj=> ?_,λx hx=> ?_,?_,?_⟩
 ·by_cases hq:j=q
  ·subst hq;rw[List.getElem?_set_self (lC.1 h).1]at hj;cases hj;have⟨c,b,d⟩:=H.each j _ h;exact⟨c,b,lM _ d⟩
  ·rw[List.getElem?_set_ne (λe=>hq e.symm)]at hj;exact H.each j x hj
 ·rcases lH.1 (hp.mem_iff.1 hx) with rfl | h
  ·exact .inr ⟨k,by omega,rfl⟩
  ·rcases H.names x h with h | ⟨i,c,b⟩
   ·exact .inl h
   ·exact .inr ⟨i,by omega,b⟩
 ·rw[hp.nodup_iff];refine List.nodup_cons.2 ⟨λhm=> ?_,H.once⟩;rcases H.names _ hm with⟨i,c,b⟩|⟨i,c,b⟩
  ·have:=MN (by omega) (by omega) b
   omega
  ·have:=MN (by omega) (by omega) b
   omega
 ·rw[hp.length_eq,nJ]
  have:=H.room
  omega
theorem Lv.up {nl k:Nat}{L:List FH}(H:Lv nl k L):Lv nl (k+1) L:=⟨H.len,H.each,λx hx=>by
 rcases H.names x hx with h | ⟨i,b,a⟩
 ·exact .inl h
 ·exact .inr ⟨i,by omega,a⟩,H.once,by have:=H.room;omega⟩
theorem Tk.snoc {k:Nat}{l:List Gh}(H:Tk k l):Tk (k+1) (l++ [(nm 97 k,nm 97 k,{data:=#[]},false)]):=by
 refine⟨by simp[H.1],λj hj=> ?_⟩;rcases jH j k with g | g
 ·rw[jB (by rw[H.1];exact g)];exact H.2 j g
 ·have:j=k:=by omega
  subst this;rw[jG (by rw[H.1];omega),H.1];simp
structure Sg (nt nv nl:Nat) (g:FV):Prop where
 nt1:1≤nt
 nt5:nt≤5
 nv1:1≤nv
 nv4:nv≤4
 nl5:nl≤5
 toks:Tk nt g.1
 skips:g.2.1= []
 levs:Lv nl nt g.2.2.1
 start:g.2.2.2.1=nm 83 0
 rules:∀r∈g.2.2.2.2,Ru1 nt nv nl r
 all:∀v,v<nv→ ∃r∈g.2.2.2.2,r.1=nm 83 v
 room:g.2.2.2.2.length≤24
structure SmG (s:NT):Prop where
 t0:0≤s.1∧s.1<256
 v0:0≤s.2.1∧s.2.1<256
 lefts:s.2.2.1.length≤9223372036854775807∧ ∀x∈s.2.2.1,0≤x∧x<256
 rights:s.2.2.2.1.length≤9223372036854775807∧ ∀l∈s.2.2.2.1,l.length≤9223372036854775807∧ ∀x∈l,0≤x∧x<256
 precs:s.2.2.2.2.1.length≤9223372036854775807∧ ∀x∈s.2.2.2.2.1,0≤x∧x<256
 assocs:s.2.2.2.2.2.1.length≤9223372036854775807∧ ∀x∈s.2.2.2.2.2.1,0≤x∧x<256
 levels:s.2.2.2.2.2.2.length≤9223372036854775807∧ ∀x∈s.2.2.2.2.2.2,0≤x∧x<256
structure SmF (n m:Nat) (s:NT):Prop where
 lefts:s.2.2.1.length≤n
 assocs:s.2.2.2.2.2.1.length≤5
 rights:∀l∈s.2.2.2.1,l.length≤m
theorem SmF.up {s:NT}(F:SmF 12 5 s):SmF 20 8 s:=⟨by have:=F.lefts;omega,F.assocs,λl hl=>by have:=F.rights l hl;omega⟩
theorem ar {s:NT}(G:SmG s) (n m:Nat):Ok (CY s (n:Int) (m:Int)) λb=>b=true→SmF n m s:=by
 unfold CY;refine AM (Q:=λc=>c=false→s.2.2.1.length≤n∧s.2.2.2.2.2.1.length≤5) (AR (λh=>AB (by simp)) λh=>AB λh'=> ?_) λc hc=> ?_
 ·have h:=gE h;have h':=gE h';omega
 refine AR (λ_=>AB (by simp)) λh=> ?_;have⟨a,d⟩:=hc h;refine Mo s.2.2.2.1 (λ_ l=>decide ((l.length:Int) >(m:Int))) (λ_ _=>false) (by have:=G.rights.1;omega) (λj x hx=> ?_) (λh=>AB λ_=>⟨a,d,λl hl=> ?_⟩) λj x hx hq _=>AB (by simp)
 ·rw[CK,hx,iI];cases decide ((x.length:Int) >(m:Int)) <;>rfl
 ·obtain⟨j,hj⟩:=jY hl
  have:=gE (h j l hj)
  omega
theorem Tx {s:NT}(G:SmG s) (F:SmF 20 8 s):Ok (B9 s) (Sg (s.1.toNat % 5+1) (s.2.1.toNat % 4+1) s.2.2.2.2.2.1.length):=by
 obtain⟨tk,vr,lefts,rights,precs,assocs,levels⟩:=s;obtain⟨L,M,N,O,P,S,T⟩:=G;obtain⟨f1,f2,U⟩:=F;dsimp only at *;unfold B9;dsimp only;have et:gO .i64 ((gO .i64 (gP tk (5:Int)))+(1:Int))=((tk.toNat % 5+1:Nat):Int):=by
  rw[tm L.1,wr (show -1000000≤tk % 5∧tk % 5≤1000000 by omega),wr (by omega)];omega
 have ev:gO .i64 ((gO .i64 (gP vr (4:Int)))+(1:Int))=((vr.toNat % 4+1:Nat):Int):=by
  rw[tm M.1,wr (show -1000000≤vr % 4∧vr % 4≤1000000 by omega),wr (by omega)];omega
 rw[et,ev]
 generalize hnt:tk.toNat % 5+1=nt
 generalize hnv:vr.toNat % 4+1=nv
 have V:(gV {data:=#[112,113,114,115,116]} :Nat)=5:=rfl;have u:(gV {data:=#[97,98,99,100,101]} :Nat)=5:=rfl;have W:(gV {data:=#[83,84,85,86]} :Nat)=4:=rfl;rw[V,u,W];refine Bp (by decide) (Bp (by decide) ?_);refine BV (λk (z:FV)=>z.1= [] ∧z.2.1= [] ∧Lv k 0 z.2.2.1∧z.2.2.2.1=nm 83 0∧z.2.2.2.2= []) (by omega) ⟨rfl,rfl,⟨rfl,λj x h=>by simp at h,λx h=>by simp[Fj]at h,by simp[Fj],by simp[Fj]⟩,rfl,rfl⟩ (λk z hk h=> ?_) λz hz=> ?_
 ·obtain⟨t,y,c,A,B⟩:=z;obtain⟨rfl,rfl,h,rfl,rfl⟩:=h;have hx:=gU hk;have hb:=S.2 _ (iL hk);refine AS hx (Bp (by decide) (Bp ?_ ?_))
  ·rw[wr (by omega)];omega
  have hl:=h.len;dsimp only at hl ⊢;refine BI (by simp;omega) (AB ⟨rfl,rfl,?_,rfl,rfl⟩);rw[tm hb.1,wr (show -1000000≤assocs[k] % 3∧assocs[k] % 3≤1000000 by omega),wr (show -1000000≤assocs[k] % 3+1∧assocs[k] % 3+1≤1000000 by omega),wr (show -1000000≤(k:Int)+1∧(k:Int)+1≤1000000 by omega),Wv (by omega) (by omega)];exact h.snoc (by omega) (by omega)
 obtain⟨t,y,c,A,B⟩:=z;obtain⟨rfl,rfl,hz,rfl,rfl⟩:=hz;dsimp only at hz;refine BV (λk (z:FV)=>Tk k z.1∧z.2.1= [] ∧Lv assocs.length k z.2.2.1∧z.2.2.2.1=nm 83 0∧z.2.2.2.2= []) (by omega) ⟨⟨rfl,λj h=>by omega⟩,rfl,hz,rfl,rfl⟩ (λk z hk h=> ?_) λz hz=> ?_
 ·obtain⟨t,y,c,A,B⟩:=z;obtain⟨ht,rfl,hL,rfl,rfl⟩:=h;dsimp only at ht hL ⊢;have hl:=hL.len;have htl:=ht.1;refine Bp (by rw[wr (by omega)];omega) ?_;rw[wr (show -1000000≤(k:Int)+1∧(k:Int)+1≤1000000 by omega),Ww (by omega) (by omega),iK];refine BI (by simp;omega)<|AM (Q:=λ(z:FV)=>Tk (k+1) z.1∧z.2.1= [] ∧Lv assocs.length (k+1) z.2.2.1∧z.2.2.2.1=nm 83 0∧z.2.2.2.2= []) (AR (λhc=> ?_) λ_=>AB ⟨ht.snoc,rfl,hL.up,rfl,rfl⟩) λ_ h=>AB h;have hc:=gD hc;have hx:=gU (show k<levels.length by omega);have hb:=T.2 _ (iL (show k<levels.length by omega));refine AS hx (Bp (by rw[wr (by omega)];omega) ?_);have hm:0≤levels[k] % ((c.length:Int)+1)∧levels[k] % ((c.length:Int)+1) < (c.length:Int)+1:=⟨kJ _ (by omega),jO _ (by omega)⟩;rw[wr (show -1000000≤levels[k] ∧levels[k] ≤1000000 by omega),wr (show -1000000≤(c.length:Int)+1∧(c.length:Int)+1≤1000000 by omega),tm hb.1]
  generalize levels[k] % ((c.length:Int)+1)=q at hm
  refine AM (Q:=λ(z:FV)=>Tk (k+1) z.1∧z.2.1= [] ∧Lv assocs.length (k+1) z.2.2.1∧z.2.2.2.1=nm 83 0∧z.2.2.2.2= []) (AR (λhq=> ?_) λ_=>AB ⟨ht.snoc,rfl,hL.up,rfl,rfl⟩) λ_ h=>AB h;have hq:=gD hq;rw[wr (show -1000000≤q - 1∧q - 1≤1000000 by omega)];have hq':(q - 1).toNat<c.length:=by omega
  have hy:=gU hq';have hroom:c[(q - 1).toNat].2.length≤(Fj c).length:=(List.sublist_flatten_of_mem (List.mem_map_of_mem (iL hq'))).length_le;have hr:=hL.room;refine Ck (by omega) hy (BI (by simp only[List.length_nil];omega) (BI (by simp only[List.length_nil,iZ,nJ];omega) (Ck (by omega) hy (ER (by omega) (by omega) (AB ⟨ht.snoc,rfl,?_,rfl,rfl⟩)))));exact hL.put (by omega) (by omega) hy
 obtain⟨t,y,c,A,B⟩:=z;obtain⟨hT,rfl,hL,rfl,rfl⟩:=hz;dsimp only at hT hL;have hl:=hL.len;refine BV (λk (z:FV)=>z.1=t∧z.2.1= [] ∧z.2.2.1=c∧z.2.2.2.1=nm 83 0∧z.2.2.2.2.length=k∧ ∀r∈z.2.2.2.2,Ru1 nt nv assocs.length r) (by omega) ⟨rfl,rfl,rfl,rfl,rfl,by simp⟩ (λk z hk h=> ?_) λz hz=> ?_
 ·obtain⟨E,X,l,Y,Z⟩:=z;obtain⟨rfl,rfl,rfl,rfl,hlen,hr⟩:=h;dsimp only at hlen hr hl ⊢;have hx:=gU hk;have hb:=N.2 _ (iL hk);have hm:0≤lefts[k] % (nv:Int)∧lefts[k] % (nv:Int) < (nv:Int):=⟨kJ _ (by omega),jO _ (by omega)⟩;refine AS hx (Bp (by omega) (AS hx (Bp (by omega) ?_)));rw[wr (show -1000000≤lefts[k] ∧lefts[k] ≤1000000 by omega),tm hb.1]
  generalize lefts[k] % (nv:Int)=q at hm
  rw[wr (show -1000000≤q+1∧q+1≤1000000 by omega)];refine Bp (by omega) ?_;rw[Tw (by omega) (by omega)];refine AM (Q:=λ(x:Db)=>x.2.2.1= {data:=#[]} ∧Ru1 nt nv assocs.length x) (AR (λhc=> ?_) λ_=>AB ⟨rfl,⟨q.toNat,by omega,rfl⟩,by simp,by simp,.inl rfl,rfl⟩) λx hx'=> ?_
  ·have hc:=gD hc;have hR:=gU (show k<rights.length by omega);have hRm:=iL (show k<rights.length by omega);have C:=U _ hRm;have hRb:=(O.2 _ hRm).2
   generalize rights[k] =R at hR C hRb
   refine Bq (λ(z:Int×Db)=>0≤z.1∧z.1≤(R.length:Int)∧(z.2.2.1.length:Int)=z.1∧z.2.2.2.1= {data:=#[]} ∧Ru1 nt nv assocs.length z.2) (λz=>(R.length:Nat) - z.1.toNat) (λx=>x.2.2.1= {data:=#[]} ∧Ru1 nt nv assocs.length x) ⟨nU _,by dsimp only;omega,rfl,rfl,⟨q.toNat,by omega,rfl⟩,by simp,by simp,.inl rfl,rfl⟩ (λz hz=> ?_) λx hx=>AB hx;obtain⟨i,z⟩:=z;obtain⟨H,p,m,f,o⟩:=hz;dsimp only at H p m f o ⊢;refine AS hR (AR (λhc=> ?_) λhc=>As ⟨f,o⟩);have hc:=gD hc;have hi:i.toNat<R.length:=by omega
   have hy:=gU hi;have hyb:=hRb _ (iL hi);refine AS hR (Ck H hy ?_)
   generalize R[i.toNat] =e at hyb
   rw[wr (show -1000000≤e∧e≤1000000 by omega),wr (show -1000000≤(nt:Int)+(nv:Int)∧(nt:Int)+(nv:Int) ≤1000000 by omega),tm hyb.1];have g:0≤e % ((nt:Int)+(nv:Int))∧e % ((nt:Int)+(nv:Int)) < (nt:Int)+(nv:Int):=⟨kJ _ (by omega),jO _ (by omega)⟩
   generalize e % ((nt:Int)+(nv:Int))=w at g
   rw[tm g.1,wr (show -1000000≤w % 5+1∧w % 5+1≤1000000 by omega)];refine Bp (by omega) (Bp (by decide) (Bp (by decide) (Bp (by omega) ?_)));refine AM (Q:=λx=>(∃i,i<nt∧x=nm 97 i)∨ ∃i,i<nv∧x=nm 83 i) (AR (λhw=> ?_) λhw=>AB ?_) λx hx=> ?_
   ·have hw:=gD hw;rw[wr (show -1000000≤w - (nt:Int)∧w - (nt:Int) ≤1000000 by omega),wr (show -1000000≤w - (nt:Int)+1∧w - (nt:Int)+1≤1000000 by omega)];refine Bp (by omega) (AB ?_);rw[Tw (by omega) (by omega)];exact .inr ⟨_,by omega,rfl⟩
   ·have hw:=gE hw;rw[Ww (by omega) (by omega)];exact .inl ⟨_,by omega,rfl⟩
   ·refine BI (by simp;omega) (BJ ⟨⟨?_,?_,?_,f,⟨o.left,?_,?_,o.prec,o.act⟩⟩,?_⟩)
    ·rw[wr (by omega)];omega
    ·rw[wr (by omega)];omega
    ·rw[wr (by omega),iZ];simp;omega
    ·rw[iZ];simp;omega
    ·intro x' hx';rcases kH.1 hx' with h | h
     ·exact o.right _ h
     ·have:x'=x:=by simpa using h
      subst this;exact hx
    ·rw[wr (by omega)];omega
  ·obtain⟨hp,d⟩:=hx';obtain⟨x1,I,x3,J⟩:=x;dsimp only at hp ⊢;subst hp;refine AM (Q:=Ru1 nt nv assocs.length) (AR (λhc=> ?_) λ_=>AB d) λx hx=> ?_
   ·have hc:=gD hc;have hP:=gU (show k<precs.length by omega);have hPb:=P.2 _ (iL (show k<precs.length by omega));refine AS hP ?_
    generalize precs[k] =e at hPb
    rw[wr (show -1000000≤e∧e≤1000000 by omega),wr (show -1000000≤(l.length:Int)+1∧(l.length:Int)+1≤1000000 by omega),tm hPb.1];have g:0≤e % ((l.length:Int)+1)∧e % ((l.length:Int)+1) < (l.length:Int)+1:=⟨kJ _ (by omega),jO _ (by omega)⟩
    generalize e % ((l.length:Int)+1)=w at g
    refine Bp (by omega)<|AM (Q:=Ru1 nt nv assocs.length) (AR (λhw=> ?_) λ_=>AB d) λx hx=>AB hx;have hw:=gD hw;rw[wr (show -1000000≤w - 1∧w - 1≤1000000 by omega)];refine Bp (by omega) (AB ⟨d.left,d.few,d.right,.inr ⟨(w - 1).toNat,by omega,?_⟩,d.act⟩)
    have:=Wv (i:=w - 1) (by omega) (by omega)
    rw[show w - 1+1=w by omega]at this;exact this
   ·refine BI (by simp;omega) (AB ⟨rfl,rfl,rfl,rfl,by simp[hlen],λr hr'=> ?_⟩);rcases kH.1 hr' with h | h
    ·exact hr _ h
    ·have:r=x:=by simpa using h
     subst this;exact hx
 obtain⟨E,X,l,Y,Z⟩:=z;obtain⟨rfl,rfl,rfl,rfl,hlen,hr⟩:=hz;dsimp only at hlen hr;refine BV (λk (z:FV)=>z.1=E∧z.2.1= [] ∧z.2.2.1=l∧z.2.2.2.1=nm 83 0∧z.2.2.2.2.length≤lefts.length+k∧(∀r∈z.2.2.2.2,Ru1 nt nv assocs.length r)∧ ∀v,v<k→ ∃r∈z.2.2.2.2,r.1=nm 83 v) (by omega) ⟨rfl,rfl,rfl,rfl,by dsimp only;omega,hr,λv hv=>by omega⟩ (λk z hk h=> ?_) λz hz=> ?_
 ·obtain⟨x1,I,x3,J,n⟩:=z;obtain⟨rfl,rfl,rfl,rfl,p,m,f⟩:=h;dsimp only at p m f ⊢;refine Bp (by rw[wr (by omega)];omega) ?_;rw[wr (show -1000000≤(k:Int)+1∧(k:Int)+1≤1000000 by omega),Tw (by omega) (by omega),iK];refine Bq (λ(z:Int×Bool)=>0≤z.1∧z.1≤(n.length:Int)∧(z.2=true→ ∃r∈n,r.1=nm 83 k)) (λz=>n.length - z.1.toNat) (λb=>b=true→ ∃r∈n,r.1=nm 83 k) ⟨by decide,by dsimp only;omega,by simp⟩ (λz hz=> ?_) λb hb=> ?_
  ·obtain⟨i,b⟩:=z;obtain⟨K,j2,D⟩:=hz;dsimp only at K j2 D ⊢;refine AR (λhc=> ?_) λhc=>As D;have hc:=gD hc;have hi:i.toNat<n.length:=by omega
   have hy:=gU hi;refine AM (Q:=λb=>b=true→ ∃r∈n,r.1=nm 83 k) (AR (λhb=>AB λ_=>D hb) λ_=>Ck K hy (AB λhe=> ?_)) λb' hb'=> ?_
   ·rw[EE]at he;exact⟨_,iL hi,gD he⟩
   ·refine BJ ⟨⟨?_,?_,hb'⟩,?_⟩
    ·rw[wr (by omega)];omega
    ·rw[wr (by omega)];omega
    ·rw[wr (by omega)];omega
  ·refine AM (Q:=λ(z:FV)=>z.1=x1∧z.2.1= [] ∧z.2.2.1=x3∧z.2.2.2.1=nm 83 0∧z.2.2.2.2.length≤lefts.length+(k+1)∧(∀r∈z.2.2.2.2,Ru1 nt nv assocs.length r)∧ ∀v,v<k+1→ ∃r∈z.2.2.2.2,r.1=nm 83 v) (AR (λhc=> ?_) λhc=>AB ⟨rfl,rfl,rfl,rfl,by dsimp only;omega,m,λv hv=> ?_⟩) λz hz=>AB hz
   ·refine BI (by simp;omega) (AB ⟨rfl,rfl,rfl,rfl,by dsimp only;rw[iZ];simp;omega,λr hr'=> ?_,λv hv=> ?_⟩)
    ·rcases kH.1 hr' with h | h
     ·exact m _ h
     ·obtain rfl:=lW.1 h;exact⟨⟨k,hk,rfl⟩,by simp,by simp,.inl rfl,rfl⟩
    ·rcases jK.1 hv with h | rfl
     ·have⟨r,a,b⟩:=f v h;exact⟨r,lM _ a,b⟩
     ·exact⟨_,List.mem_append_right _ (lW.2 rfl),rfl⟩
   ·rcases jK.1 hv with h | rfl
    ·exact f v h
    ·exact hb (by simpa using hc)
 obtain⟨x1,I,x3,J,n⟩:=z;obtain⟨rfl,rfl,rfl,rfl,p,m,f⟩:=hz;dsimp only at p m f;exact AB ⟨by omega,by omega,by omega,by omega,by omega,hT,rfl,hL,rfl,m,f,by dsimp only;omega⟩
end Go.Proofs.YtkfgeafgfeppfaaGreatDoor
namespace Go.Proofs.YtkfgeafgfeppfaaGreatDoor
open Go Go.Shelf Go.Proofs
def BB:Ren:=⟨λx=>bif gY x 125 then 110 else bif gY x 128 then 133 else bif gY x 129 then 134 else bif gY x 189 then 84 else bif gY x 215 then 135 else bif gY x 216 then 142 else bif gY x 257 then 113 else bif gY x 294 then 136 else bif gY x 295 then 137 else bif gY x 296 then 138 else bif gY x 297 then 139 else bif gY x 298 then 140 else bif gY x 299 then 141 else bif gY x 300 then 143 else bif gY x 301 then 144 else bif gY x 328 then 156 else bif gY x 329 then 152 else bif gY x 330 then 153 else bif gY x 331 then 157 else bif gY x 332 then 158 else bif gY x 343 then 165 else 0,λx=>bif gY x 0 then 0 else bif gY x 3 then 3 else bif gY x 4 then 4 else bif gY x 5 then 5 else bif gY x 9 then 9 else bif gY x 28 then 30 else bif gY x 46 then 204 else bif gY x 51 then 223 else bif gY x 53 then 197 else bif gY x 131 then 143 else bif gY x 182 then 216 else bif gY x 183 then 217 else bif gY x 218 then 235 else bif gY x 222 then 239 else bif gY x 228 then 247 else bif gY x 229 then 248 else 0,λ_=>0⟩
theorem Mq:Lays.n189 gR BB where
 mixed:=by kernel_rfl
 f125:=Tryz.func110.trans (congrArg some (show Tryz.f110=Body.n125 BB by kernel_rfl))
 f128:=Tryz.func133.trans (congrArg some (show Tryz.f133=Body.n128 BB by kernel_rfl))
 f129:=Tryz.func134.trans (congrArg some (show Tryz.f134=Body.n129 BB by kernel_rfl))
 f189:=Tryz.func84.trans (congrArg some (show Tryz.f84=Body.n189 BB by kernel_rfl))
 f215:=Tryz.func135.trans (congrArg some (show Tryz.f135=Body.n215 BB by kernel_rfl))
 f216:=Tryz.func142.trans (congrArg some (show Tryz.f142=Body.n216 BB by kernel_rfl))
 f257:=Tryz.func113.trans (congrArg some (show Tryz.f113=Body.n257 BB by kernel_rfl))
 f294:=Tryz.func136.trans (congrArg some (show Tryz.f136=Body.n294 BB by kernel_rfl))
 f295:=Tryz.func137.trans (congrArg some (show Tryz.f137=Body.n295 BB by kernel_rfl))
 f296:=Tryz.func138.trans (congrArg some (show Tryz.f138=Body.n296 BB by kernel_rfl))
 f297:=Tryz.func139.trans (congrArg some (show Tryz.f139=Body.n297 BB by kernel_rfl))
 f298:=Tryz.func140.trans (congrArg some (show Tryz.f140=Body.n298 BB by kernel_rfl))
 f299:=Tryz.func141.trans (congrArg some (show Tryz.f141=Body.n299 BB by kernel_rfl))
 f300:=Tryz.func143.trans (congrArg some (show Tryz.f143=Body.n300 BB by kernel_rfl))
 f301:=Tryz.func144.trans (congrArg some (show Tryz.f144=Body.n301 BB by kernel_rfl))
 f328:=Tryz.func156.trans (congrArg some (show Tryz.f156=Body.n328 BB by kernel_rfl))
 f329:=Tryz.func152.trans (congrArg some (show Tryz.f152=Body.n329 BB by kernel_rfl))
 f330:=Tryz.func153.trans (congrArg some (show Tryz.f153=Body.n330 BB by kernel_rfl))
 f331:=Tryz.func157.trans (congrArg some (show Tryz.f157=Body.n331 BB by kernel_rfl))
 f332:=Tryz.func158.trans (congrArg some (show Tryz.f158=Body.n332 BB by kernel_rfl))
 f343:=Tryz.func165.trans (congrArg some (show Tryz.f165=Body.n343 BB by kernel_rfl))
 t0:=jV
 a0:=lN
 z0:=lJ
 v0:=kM
 t3:=jI
 a3:=jZ
 z3:=jR
 v3:=jM
 t4:=jJ
 a4:=lF
 z4:=kO
 v4:=jN
 t5:=nN
 a5:=Tryz.isAgg5
 z5:=Tryz.sizeOf5
 v5:=Tryz.zeroValue5
 t9:=nO
 a9:=Tryz.isAgg9
 z9:=Tryz.sizeOf9
 v9:=Tryz.zeroValue9
 t28:=iV
 a28:=mU
 z28:=lU
 v28:=lI
 t46:=lX
 a46:=Tryz.isAgg204
 z46:=Tryz.sizeOf204
 v46:=mV
 t51:=lY
 a51:=Tryz.isAgg223
 z51:=Tryz.sizeOf223
 v51:=mW
 t53:=lZ
 a53:=Tryz.isAgg197
 z53:=Tryz.sizeOf197
 v53:=mX
 t131:=mA
 a131:=Tryz.isAgg143
 z131:=Tryz.sizeOf143
 v131:=mY
 t182:=mB
 a182:=Tryz.isAgg216
 z182:=Tryz.sizeOf216
 v182:=mZ
 t183:=mC
 a183:=Tryz.isAgg217
 z183:=Tryz.sizeOf217
 v183:=nA
 t218:=mD
 a218:=Tryz.isAgg235
 z218:=Tryz.sizeOf235
 v218:=nB
 t222:=mF
 a222:=Tryz.isAgg239
 z222:=Tryz.sizeOf239
 v222:=nC
 t228:=mG
 a228:=Tryz.isAgg247
 z228:=Tryz.sizeOf247
 v228:=nD
 t229:=mH
 a229:=Tryz.isAgg248
 z229:=Tryz.sizeOf248
 v229:=nF
def Ds:Ren:=⟨λx=>bif gY x 6 then 81 else bif gY x 14 then 109 else bif gY x 15 then 110 else bif gY x 20 then 125 else bif gY x 21 then 126 else bif gY x 22 then 127 else bif gY x 23 then 128 else bif gY x 24 then 129 else bif gY x 25 then 130 else bif gY x 26 then 131 else bif gY x 27 then 132 else bif gY x 28 then 133 else bif gY x 29 then 134 else bif gY x 46 then 151 else bif gY x 47 then 152 else bif gY x 48 then 153 else bif gY x 49 then 154 else bif gY x 50 then 155 else bif gY x 57 then 164 else 0,λx=>bif gY x 0 then 0 else bif gY x 3 then 3 else bif gY x 4 then 4 else bif gY x 5 then 5 else bif gY x 9 then 9 else bif gY x 22 then 74 else bif gY x 24 then 73 else bif gY x 25 then 173 else bif gY x 39 then 204 else bif gY x 45 then 216 else bif gY x 46 then 217 else bif gY x 50 then 143 else bif gY x 53 then 223 else bif gY x 55 then 197 else bif gY x 66 then 235 else bif gY x 70 then 239 else bif gY x 76 then 247 else bif gY x 77 then 248 else 0,λ_=>0⟩
theorem KJ:SlLaysF0.n6 gR Ds where
 mixed:=by kernel_rfl
 f6:=⟨ "slices.SortFunc[[]tronage/api.Item,tronage/api.Item]",by decide,Tryz.func81.trans (congrArg some (by kernel_rfl))⟩
 f14:=⟨ "slices.pdqsortCmpFunc[tronage/api.Item]",by decide,Tryz.func109.trans (congrArg some (by kernel_rfl))⟩
 f15:=Tryz.func110.trans (congrArg some (show Tryz.f110=SlBodyF.n15 Ds by kernel_rfl))
 f20:=⟨ "slices.insertionSortCmpFunc[tronage/api.Item]",by decide,Tryz.func125.trans (congrArg some (by kernel_rfl))⟩
 f21:=⟨ "slices.heapSortCmpFunc[tronage/api.Item]",by decide,Tryz.func126.trans (congrArg some (by kernel_rfl))⟩
 f22:=⟨ "slices.breakPatternsCmpFunc[tronage/api.Item]",by decide,Tryz.func127.trans (congrArg some (by kernel_rfl))⟩
 f23:=⟨ "slices.choosePivotCmpFunc[tronage/api.Item]",by decide,Tryz.func128.trans (congrArg some (by kernel_rfl))⟩
 f24:=⟨ "slices.reverseRangeCmpFunc[tronage/api.Item]",by decide,Tryz.func129.trans (congrArg some (by kernel_rfl))⟩
 f25:=⟨ "slices.partialInsertionSortCmpFunc[tronage/api.Item]",by decide,Tryz.func130.trans (congrArg some (by kernel_rfl))⟩
 f26:=⟨ "slices.partitionEqualCmpFunc[tronage/api.Item]",by decide,Tryz.func131.trans (congrArg some (by kernel_rfl))⟩
 f27:=⟨ "slices.partitionCmpFunc[tronage/api.Item]",by decide,Tryz.func132.trans (congrArg some (by kernel_rfl))⟩
 f28:=Tryz.func133.trans (congrArg some (show Tryz.f133=SlBodyF.n28 Ds by kernel_rfl))
 f29:=Tryz.func134.trans (congrArg some (show Tryz.f134=SlBodyF.n29 Ds by kernel_rfl))
 f46:=⟨ "slices.siftDownCmpFunc[tronage/api.Item]",by decide,Tryz.func151.trans (congrArg some (by kernel_rfl))⟩
 f47:=Tryz.func152.trans (congrArg some (show Tryz.f152=SlBodyF.n47 Ds by kernel_rfl))
 f48:=Tryz.func153.trans (congrArg some (show Tryz.f153=SlBodyF.n48 Ds by kernel_rfl))
 f49:=⟨ "slices.medianAdjacentCmpFunc[tronage/api.Item]",by decide,Tryz.func154.trans (congrArg some (by kernel_rfl))⟩
 f50:=⟨ "slices.medianCmpFunc[tronage/api.Item]",by decide,Tryz.func155.trans (congrArg some (by kernel_rfl))⟩
 f57:=⟨ "slices.order2CmpFunc[tronage/api.Item]",by decide,Tryz.func164.trans (congrArg some (by kernel_rfl))⟩
 t0:=jV
 a0:=lN
 z0:=lJ
 v0:=kM
 t3:=jI
 a3:=jZ
 z3:=jR
 v3:=jM
 t4:=jJ
 a4:=lF
 z4:=kO
 v4:=jN
 t5:=nN
 a5:=Tryz.isAgg5
 z5:=Tryz.sizeOf5
 v5:=Tryz.zeroValue5
 t9:=nO
 a9:=Tryz.isAgg9
 z9:=Tryz.sizeOf9
 v9:=Tryz.zeroValue9
 t22:=Tryz.underlying74
 a22:=Tryz.isAgg74
 z22:=Tryz.sizeOf74
 v22:=Tryz.zeroValue74
 t25:=Tryz.underlying173
 a25:=Tryz.isAgg173
 z25:=Tryz.sizeOf173
 v25:=Tryz.zeroValue173
 t39:=lX
 a39:=Tryz.isAgg204
 z39:=Tryz.sizeOf204
 v39:=mV
 t45:=mB
 a45:=Tryz.isAgg216
 z45:=Tryz.sizeOf216
 v45:=mZ
 t46:=mC
 a46:=Tryz.isAgg217
 z46:=Tryz.sizeOf217
 v46:=nA
 t50:=mA
 a50:=Tryz.isAgg143
 z50:=Tryz.sizeOf143
 v50:=mY
 t53:=lY
 a53:=Tryz.isAgg223
 z53:=Tryz.sizeOf223
 v53:=mW
 t55:=lZ
 a55:=Tryz.isAgg197
 z55:=Tryz.sizeOf197
 v55:=mX
 t66:=mD
 a66:=Tryz.isAgg235
 z66:=Tryz.sizeOf235
 v66:=nB
 t70:=mF
 a70:=Tryz.isAgg239
 z70:=Tryz.sizeOf239
 v70:=nC
 t76:=mG
 a76:=Tryz.isAgg247
 z76:=Tryz.sizeOf247
 v76:=nD
 t77:=mH
 a77:=Tryz.isAgg248
 z77:=Tryz.sizeOf248
 v77:=nF
def OB:Ren:=⟨λx=>bif gY x 20 then 85 else 0,λx=>bif gY x 0 then 0 else bif gY x 3 then 3 else bif gY x 4 then 4 else bif gY x 22 then 30 else 0,λ_=>0⟩
theorem Mr:Lays2.n20 gR OB where
 mixed:=by kernel_rfl
 f20:=Tryz.func85.trans (congrArg some (show Tryz.f85=Body2.n20 OB by kernel_rfl))
 t0:=jV
 a0:=lN
 z0:=lJ
 v0:=kM
 t3:=jI
 a3:=jZ
 z3:=jR
 v3:=jM
 t4:=jJ
 a4:=lF
 z4:=kO
 v4:=jN
 t22:=iV
 a22:=mU
 z22:=lU
 v22:=lI
 i3:=by kernel_rfl
def KK:Ren:=⟨λx=>bif gY x 122 then 112 else bif gY x 215 then 135 else 0,λx=>bif gY x 3 then 3 else bif gY x 4 then 4 else 0,λ_=>0⟩
theorem Ms:Lays.n122 gR KK where
 mixed:=by kernel_rfl
 f122:=Tryz.func112.trans (congrArg some (show Tryz.f112=Body.n122 KK by kernel_rfl))
 f215:=Tryz.func135.trans (congrArg some (show Tryz.f135=Body.n215 KK by kernel_rfl))
 t3:=jI
 a3:=jZ
 z3:=jR
 v3:=jM
 t4:=jJ
 a4:=lF
 z4:=kO
 v4:=jN
end Go.Proofs.YtkfgeafgfeppfaaGreatDoor
namespace Go.Proofs.YtkfgeafgfeppfaaGreatDoor
open Go Go.Eng Go.RowKit Go.Shelf Go.Sort
theorem FP {k:IntKind}{φ:AD}(l:gM):(hQ k).All φ (l.map (lO k).val) l:=by
 induction l with
 |nil=>exact .nil
 |cons x l ih=>exact Ro.All.cons (a:=[(lO k).val x]) rfl ih
def ins {α:Type}(le:α→α→Bool) (x:α):List α→List α
 | [] =>[x]
 |y::l=>if le x y then x::y::l else y::ins le x l
def QQ {α:Type}(le:α→α→Bool):List α→List α
 | [] =>[]
 |x::l=>ins le x (QQ le l)
theorem SK {α:Type}(le:α→α→Bool) (x:α) (l:List α):(ins le x l).Perm (x::l):=by
 induction l with
 |nil=>exact .refl _
 |cons y l ih=>
  unfold ins;split
  ·exact .refl _
  ·exact(ih.cons y).trans (.swap x y l)
theorem DT {α:Type}(le:α→α→Bool) (l:List α):(QQ le l).Perm l:=by
 induction l with
 |nil=>exact .refl _
 |cons x l ih=>exact(SK le x _).trans (ih.cons x)
theorem au {α:Type}{le:α→α→Bool}(ht:∀a b c,le a b=true→le b c=true→le a c=true) (hl:∀a b,(le a b || le b a)=true) (x:α) {l:List α}(h:l.Pairwise λa b=>le a b=true):(ins le x l).Pairwise λa b=>le a b=true:=by
 induction l with
 |nil=>exact List.pairwise_singleton _ _
 |cons y l ih=>
  unfold ins;rw[jP]at h;split
  ·rename_i hxy
   refine jP.2 ⟨λz hz=> ?_,jP.2 h⟩;rcases lH.1 hz with rfl | hz
   ·exact hxy
   ·exact ht _ _ _ hxy (h.1 z hz)
  ·rename_i hxy
   refine jP.2 ⟨λz hz=> ?_,ih h.2⟩;rcases lH.1 ((SK le x l).mem_iff.1 hz) with rfl | hz
   ·have:=hl z y
    rw[Bool.or_eq_true]at this;rcases this with g | g
    ·exact gI g hxy
    ·exact g
   ·exact h.1 z hz
theorem O0 {α:Type}{le:α→α→Bool}(ht:∀a b c,le a b=true→le b c=true→le a c=true) (hl:∀a b,(le a b || le b a)=true) (l:List α):(QQ le l).Pairwise λa b=>le a b=true:=by
 induction l with
 |nil=>exact .nil
 |cons x l ih=>exact au ht hl x ih
theorem SL {α:Type}{le:α→α→Bool}(ht:∀a b c,le a b=true→le b c=true→le a c=true) (hl:∀a b,(le a b || le b a)=true) (ha:∀a b,le a b=true→le b a=true→a=b) (l:List α):QQ le l=l.mergeSort le:=
 List.Perm.eq_of_pairwise (λa b _ _ d e=>ha a b d e) (O0 ht hl l) (List.pairwise_mergeSort ht hl l) ((DT le l).trans (List.mergeSort_perm l le).symm)
def KL (l:gM):gM:=QQ (λx y=>decide (x≤y)) l
theorem Wy (l:gM):KL l=l.mergeSort λx y=>decide (x≤y):=
 SL (λa b c d e=>by simp only[gJ]at *;omega) (λa b=>by simp only[Bool.or_eq_true,gJ];omega) (λa b d e=>by simp only[gJ]at *;omega) l
theorem RJ {k:IntKind}{a b:gM}(h:a.map (jQ k)=b.map (jQ k)):a=b:=
 (List.map_inj_right (f:=jQ k) λx y hxy=>by cases hxy;rfl).1 h
def Uv (l:gM):Option gM:=if l.length<4611686018427387904 then some (KL l) else none
def Mt (l:gM):Option gM:=if l.length<4611686018427387904 then some (Lib.compact l) else none
theorem St.rowTake {α:Type}{φ:AD}{h:AE}{Γ:List Chk}{ty:TypeId}{r:Ro α}{t:Slc}{l:List α}(H:St φ (⟨jF ty r,[.slice t.1 t.2.1 t.2.2],l⟩::Γ) h) {k:Nat}(hk:k≤l.length):
 St φ (⟨jF ty r,[.slice t.1 k t.2.2],l.take k⟩::Γ) h:=by
 obtain⟨F,⟨p,n,c,vs,e,hn,hc,hfu,ho,hall,hF⟩,g,H⟩:=H;have hn:l.length=n:=hn;simp only[List.cons.injEq,Value.slice.injEq,and_true]at e;obtain⟨j,w,m⟩:=e;refine⟨F,⟨p,k,c,vs.take (k *r.sz),by rw[j,m],by rw[nP];omega,hc,hfu,?_,hall.take k,hF⟩,g,H⟩;rcases ho with⟨hp,o,a,d⟩|⟨b,off,arr,hp,f,q,x,s,u⟩
 ·exact .inl ⟨hp,by omega,a,by rw[d];exact List.take_nil⟩
 ·refine .inr ⟨b,off,arr,hp,f,?_,by omega,s,λi v hv=> ?_⟩
  ·rw[nP,q];exact Nat.min_eq_left (lP _ (by omega))
  ·rw[List.getElem?_take]at hv;split at hv
   ·exact u i v hv
   ·cases hv
theorem St.rowCap {α:Type}{φ:AD}{h:AE}{Γ:List Chk}{ty:TypeId}{r:Ro α}{t:Slc}{l:List α}(H:St φ (⟨jF ty r,[.slice t.1 t.2.1 t.2.2],l⟩::Γ) h):l.length≤t.2.2:=by
 obtain⟨F,⟨p,n,c,vs,e,hn,hc,hfu,ho,hall,hF⟩,i,H⟩:=H;have hn:l.length=n:=hn;simp only[List.cons.injEq,Value.slice.injEq,and_true]at e;obtain⟨j,k,m⟩:=e;rcases ho with⟨hp,a,d,f⟩|⟨b,off,arr,hp,g,o,q,s,u⟩ <;>omega
theorem St.rowHoldsF {α:Type}{φ:AD}{w:World}{Γ:List Chk}{ty:TypeId}{r:Ro α}{t:Slc}{l:List α}(H:St φ (⟨jF ty r,[.slice t.1 t.2.1 t.2.2],l⟩::Γ) w.heap):
 (l= [] ∧t.2.1=0)∨ ∃(b off:Nat) (vs:List Value),t.1=some ⟨b,off,none⟩∧r.All φ vs l∧t.2.1=l.length∧b<w.heap.size∧(∀arr,w.heap[b]? =some (.cells arr ty (0,0))→off+vs.length≤arr.size)∧Sort.Holds id w b off vs.toArray:=by
 obtain⟨F,⟨p,n,c,vs,e,hn,hc,hfu,ho,hall,hF⟩,m,H⟩:=H;have hn:l.length=n:=hn;simp only[List.cons.injEq,Value.slice.injEq,and_true]at e;obtain⟨d,o,q⟩:=e;rcases ho with⟨hp,f,g,h⟩|⟨b,off,arr,hp,a,s,i,u,k⟩
 ·exact .inl ⟨kD (by omega),by omega⟩
 ·right
  refine⟨b,off,vs,by rw[d,hp],hall,by omega,Ay a,λarr' ha=> ?_,λj hj=> ?_⟩
  ·rw[a]at ha;cases ha
   have:=lP r.sz i
   omega
  have hj':j<vs.length:=by simpa using hj
  have hc:=k j vs[j] (gU hj');refine⟨?_,?_⟩
  ·unfold World.cell?;dsimp only;rw[a];dsimp only;rw[getElem!_pos _ j hj];simpa using hc
  ·unfold World.frozen?;dsimp only;rw[a];simp
theorem St.rowSortedF {α:Type}{φ:AD}{w:World}{Γ:List Chk}{ty:TypeId}{r:Ro α}{t:Slc}{l m:List α}(H:St φ (⟨jF ty r,[.slice t.1 t.2.1 t.2.2],l⟩::Γ) w.heap)
 {b off:Nat} (ht:t.1=some ⟨b,off,none⟩) (ms:List Value) (hall:r.All φ ms m) (hm:m.length=l.length) (hfit:∀arr,w.heap[b]? =some (.cells arr ty (0,0))→off+ms.length≤arr.size) (k:Nat) (os:Array Obj):
 St φ (⟨jF ty r,[.slice t.1 t.2.1 t.2.2],m⟩::Γ) (grow (putRow id (Sort.ahead w k) b off ms.toArray) os).heap:=by
 have hheap:(grow (putRow id (Sort.ahead w k) b off ms.toArray) os).heap=w.heap.modify b (onCells (putCells id off ms.toArray)) ++os:=rfl;rw[hheap];refine H.rowPut hall hm (λb' off' he arr harr=> ?_) λj hj hne=> ?_
 ·rw[ht]at he;cases he;have hlt:=Ay harr;refine⟨putCells id off ms.toArray arr,?_,by simp[putCells],λi v hv=> ?_⟩
  ·rw[kV (by simpa using hlt),lK,gF rfl,harr];rfl
  ·have hi:i<ms.length:=by
    rcases jH i ms.length with g | g
    ·exact g
    ·rw[jA g]at hv;cases hv
   have hf:=hfit arr harr;unfold putCells;rw[Array.getElem?_mapIdx,jC (by omega)];have hc:off≤off+i∧off+i<off+ms.toArray.size:=by simp;exact hi
   simp only[Option.map_some];rw[gF hc,Nat.add_sub_cancel_left,getElem!_pos _ i (by simpa using hi)];rw[gU hi]at hv;cases hv;simp
 ·rw[kV (by simpa using hj),lK,gG λe=>hne b off ht e.symm]
section
variable {φ:AD}{h:AE}{F:List Chk}
theorem Vk {t:Slc}{l r:gM}(a:St φ (cR 3 (hQ .i64) t l::F) h) (hd:Uv l=some r):
 CallsH gR 84 [.slice t.1 t.2.1 t.2.2] h (Ap λv h'=>∃ψ:AD,∃y:Unit,∃c:gM,Sub φ ψ∧v=((.tuple []):Sh).val y∧c=r∧St ψ (cR 3 (hQ .i64) t c::F) h'):=by
 unfold Uv at hd;split at hd
 ·rename_i hb
  cases hd;intro w hw;subst hw;rcases a.rowHolds rfl (jQ .i64) (λvs ha=>⟨l,DZ ha⟩) with⟨hl,hn⟩|⟨b,off,bs,ht,hall,hn,hlen,hlt,hfit,hH⟩
  ·subst hl;rw[hn];have hc:=Any.slices_Sort_int_none Mq t.1 t.2.2 w;refine(show Calls gR 84 #[.slice t.1 0 t.2.2] w _ from hc).mono ?_;rintro e w' ⟨rfl,rfl⟩;exact⟨B8.refl _,_,rfl,φ,(),_,kF _,rfl,rfl,by rw[show KL [] = [] from rfl];exact a⟩
  ·have hbl:bs=l:=RJ (DZ hall);subst hbl;rw[ht,hn];have hc:=Any.slices_Sort_int Mq b off t.2.2 bs w hH hlt hb;rw[←Wy]at hc;refine(show Calls gR 84 #[.slice (some ⟨b,off,none⟩) bs.length t.2.2] w _ from hc).mono ?_;rintro e w' ⟨rfl,k,os,rfl⟩;refine⟨⟨rfl,rfl,rfl,by rw[Go.Sort.size_grow,Go.Sort.size_putRow];exact Nat.le_add_right _ _⟩,_,rfl,φ,(),_,kF _,rfl,rfl,?_⟩;exact a.rowSorted ht (jQ .i64) (KL bs) (FP _) (DT _ _).length_eq (DT _ _).length_eq hfit k os
 ·cases hd
theorem O1 (l:gM):(Lib.compact l).length≤l.length:=by
 unfold Lib.compact Lib.compactUpTo;rw[List.length_map];refine Nat.le_trans (List.length_filter_le _ _) ?_;simp
theorem SM {t:Slc}{l r:gM}(a:St φ (cR 3 (hQ .i64) t l::F) h) (hd:Mt l=some r):
 CallsH gR 85 [.slice t.1 t.2.1 t.2.2] h (Ap λv h'=>∃ψ:AD,∃y:Slc,∃c:gM,Sub φ ψ∧v=fP.val y∧c=r∧St ψ (cR 3 (hQ .i64) y c::F) h'):=by
 unfold Mt at hd;split at hd
 ·rename_i hb
  cases hd;intro w hw;subst hw;have hcap:=St.rowCap a;rcases a.rowHolds rfl (jQ .i64) (λvs ha=>⟨l,DZ ha⟩) with⟨hl,hn⟩|⟨b,off,bs,ht,hall,hn,hlen,hlt,hfit,hH⟩
  ·subst hl;rw[hn];have hc:=Any.slices_Compact_int_empty Mr t.1 t.2.2 w;refine(show Calls gR 85 #[.slice t.1 0 t.2.2] w _ from hc).mono ?_;rintro e w' ⟨rfl,rfl⟩;rw[show t=(t.1,t.2.1,t.2.2) from rfl,hn]at a;exact⟨B8.refl _,_,rfl,φ,(t.1,0,t.2.2),_,kF _,rfl,rfl,a⟩
  ·have hbl:bs=l:=RJ (DZ hall);subst hbl;rw[ht,hn];have hc:=Any.slices_Compact_int Mr b off t.2.2 bs w hH (by omega) hcap;refine(show Calls gR 85 #[.slice (some ⟨b,off,none⟩) bs.length t.2.2] w _ from hc).mono ?_;rintro e w' ⟨rfl,k,rfl⟩;have hle:=O1 bs;have hlz:(Lib.compact bs++jS (bs.length - (Lib.compact bs).length) 0).length=bs.length:=by simp;omega
   have f:=a.rowSorted ht (jQ .i64) (Lib.compact bs++jS (bs.length - (Lib.compact bs).length) 0) (FP _) hlz hlz hfit k #[];have d:=St.rowTake f (k:=(Lib.compact bs).length) (by rw[hlz];exact hle);rw[List.take_left,grow_empty]at d;refine⟨⟨rfl,rfl,rfl,by rw[Go.Sort.size_putRow];exact lQ _⟩,_,rfl,φ,(t.1,(Lib.compact bs).length,t.2.2),_,kF _,by rw[ht];rfl,rfl,d⟩
 ·cases hd
end
end Go.Proofs.YtkfgeafgfeppfaaGreatDoor
namespace Go.Proofs.YtkfgeafgfeppfaaGreatDoor
open Go Go.Shelf Go.Proofs
def P4:Ren:=⟨λx=>bif gY x 6 then 159 else bif gY x 10 then 145 else 0,λx=>bif gY x 0 then 0 else bif gY x 3 then 3 else bif gY x 4 then 4 else bif gY x 22 then 30 else bif gY x 23 then 3 else bif gY x 25 then 180 else 0,λ_=>0⟩
theorem O2:SlLaysH.n10 gR P4 where
 mixed:=by kernel_rfl
 f6:=⟨ "slices.IndexFunc[[]int,int]",by decide,Tryz.func159.trans (congrArg some (by kernel_rfl))⟩
 f10:=⟨ "slices.DeleteFunc[[]int,int]",by decide,Tryz.func145.trans (congrArg some (by kernel_rfl))⟩
 t0:=jV
 a0:=lN
 z0:=lJ
 v0:=kM
 t3:=jI
 a3:=jZ
 z3:=jR
 v3:=jM
 t4:=jJ
 a4:=lF
 z4:=kO
 v4:=jN
 t22:=iV
 a22:=mU
 z22:=lU
 v22:=lI
 a23:=jZ
 z23:=jR
 t25:=Tryz.underlying180
 a25:=Tryz.isAgg180
 z25:=Tryz.sizeOf180
 v25:=Tryz.zeroValue180
end Go.Proofs.YtkfgeafgfeppfaaGreatDoor
namespace Go.Proofs.YtkfgeafgfeppfaaGreatDoor.Dg
open Go Go.Eng
def KM (n x:Int):Bool:=decide (x<0) || decide (n≤x)
def C9 (ll:List gM) (x n:Int):gM:=if x≥ (ll.length:Int) then[] else(ll[x.toNat]?.getD []).filter λy=> !KM n y
section
variable {A:Type}(ll:List gM) (n:Int) (ledA:A→Int→Int→Option A) (partA:A→gM→Option A)
abbrev Dk (A:Type):=gM×gM×A
noncomputable def toD (rec:Dk A→Int→Option (Dk A)) (x to:Int) (st:Dk A):Option (Dk A):=(idx st.1 to).bind λe=>(cond (e==0) (rec st to) (some st)).bind λst=>(idx st.1 x).bind λp=>(idx st.1 to).bind λq=>(DB st.1 x (if q<p then q else p)).bind λlow=>(ledA st.2.2 x to).bind λa=>some (low,st.2.1,a)
noncomputable def Wz (x:Int) (deep:Nat) (st:Dk A):Option (Dk A):=(idx st.1 x).bind λe=>cond (e !=(deep:Int)) (some st)<|need (1≤deep∧deep - 1≤st.2.1.length∧st.2.1.length≤1073741824)<|(forS 0 ((st.2.1.drop (deep - 1)).length:Int) st.1 λi low=>(idx (st.2.1.drop (deep - 1)) i).bind λy=>DB low y 9223372036854775807).bind λlow=>(partA st.2.2 (st.2.1.drop (deep - 1))).bind λa=>some (low,st.2.1.take (deep - 1),a)
noncomputable def O3 (rec:Dk A→Int→Option (Dk A)) (st:Dk A) (x:Int):Option (Dk A):=(app st.2.1 [x]).bind λstk=>(DB st.1 x (stk.length:Int)).bind λlow=>need (∀l∈ll,l.length≤1073741824)<|(forS 0 ((C9 ll x n).length:Int) ((low,stk,st.2.2):Dk A) λi st=>(idx (C9 ll x n) i).bind λto=>toD ledA rec x to st).bind λst=>Wz partA x stk.length st
noncomputable def KN:Nat→Dk A→Int→Option (Dk A)|0=>λ_ _=>none | k+1=>O3 ll n ledA partA (KN k)
end
noncomputable def QR {A:Type}(ll:List gM) (n:Int) (ledA:A→Int→Int→Option A) (partA:A→gM→Option A) (fuel:Nat) (a:A):Option (Dk A):=need (0≤n∧n≤1073741824)<|forS 0 n ((jS n.toNat 0,[],a):Dk A) λi st=>(idx st.1 i).bind λe=>cond (e==0) (KN ll n ledA partA fuel st i) (some st)
def cloneD (l:gM):Option gM:=if l.length≤1073741824 then some l else none
theorem F7 {l r:gM}(h:cloneD l=some r):l.length≤1073741824∧r=l:=by
 unfold cloneD at h;split at h
 ·rename_i g;exact⟨g,(Option.some.inj h).symm⟩
 ·cases h
theorem W0:Fv gR 30 30 3 1:=⟨iV,.inl iV,⟨Tryz.t3,by kernel_rfl,rfl,⟨_,rfl,rfl⟩,by decide,by decide⟩,by decide⟩
theorem cd:Fv gR 195 195 197 1:=⟨kW,.inl kW,⟨Tryz.t197,by kernel_rfl,rfl,⟨_,rfl,rfl⟩,by decide,by decide⟩,by decide⟩
theorem FP {k:IntKind}{φ:AD}(l:gM):(hQ k).All φ (l.map (lO k).val) l:=by
 induction l with
 |nil=>exact .nil
 |cons x l ih=>exact Ro.All.cons (a:=[(lO k).val x]) rfl ih
section
variable {φ:AD}{h:AE}{F:List Chk}
theorem Mu {t:Slc}{l:gM}(b:St φ F h) (hl:l.length=t.2.1) (hc:∀h',St φ F h'→CX h' t.1 (l.map (lO .i64).val)) (hn:t.1=none→l= []) (hb:l.length≤1073741824):
 CallsH gR 121 [.slice t.1 t.2.1 t.2.2] h (Ap λv h'=>∃y:Slc,v=fP.val y∧St φ (⟨jF 3 (hQ .i64),[.slice y.1 y.2.1 y.2.2],l⟩::F) h'):=by
 refine Av mixed Tryz.func121 ?_;rw[Hd];unfold FK;cases hp:t.1 with
 |none=>
  rw[hn hp];exact AC ⟨(none,0,0),rfl,b.nil _ _⟩
 |some a=>
  rw[mI];refine AV (vs:=[]) b λr d c=> ?_;have e:=kT (r:=hQ .i64) (l:=[]) (n:=0) c .nil rfl (by decide);refine AX (r:=hQ .i64) (ms:=l) (l':=l) W0 e rfl (by rw[←hp];exact hc d c.tail) (FP l) hl (by unfold app;rw[gF (by have:=hb;simp;omega)];rfl) λy g f=>AC ⟨y,rfl,f⟩
theorem RK {t:Slc}{l:gM}(b:St φ F h) (hl:l.length=t.2.1) (hc:∀h',St φ F h'→CX h' t.1 (l.map (lO .u64).val)) (hn:t.1=none→l= []) (hb:l.length≤1073741824):
 CallsH gR 103 [.slice t.1 t.2.1 t.2.2] h (Ap λv h'=>∃y:Slc,v=fP.val y∧St φ (⟨jF 197 (hQ .u64),[.slice y.1 y.2.1 y.2.2],l⟩::F) h'):=by
 refine Av mixed Tryz.func103 ?_;rw[Fg];unfold Di;cases hp:t.1 with
 |none=>
  rw[hn hp];exact AC ⟨(none,0,0),rfl,b.nil _ _⟩
 |some a=>
  rw[mI];refine AV (vs:=[]) b λr d c=> ?_;have e:=kT (r:=hQ .u64) (l:=[]) (n:=0) c .nil rfl (by decide);refine AX (r:=hQ .u64) (ms:=l) (l':=l) cd e rfl (by rw[←hp];exact hc d c.tail) (FP l) hl (by unfold app;rw[gF (by have:=hb;simp;omega)];rfl) λy g f=>AC ⟨y,rfl,f⟩
theorem av {k:IntKind}{t:Slc}{l:gM}(H:Ro.SliceIs (hQ k) φ t l):t.1=none→l= []:=H.2.2.2.1
theorem W2 {k:IntKind}{t:Slc}{l:gM}(H:Ro.SliceIs (hQ k) φ t l) {h':AE}(s:St φ F h'):CX h' t.1 (l.map (lO k).val):=by
 have⟨vs,ha,hc⟩:=H.heap s.sub;rw[DZ ha]at hc;exact hc
theorem Y0 {k:IntKind}{ty:TypeId}{t:Slc}{l:gM}(H:St φ (⟨jF ty (hQ k),[.slice t.1 t.2.1 t.2.2],l⟩::F) h):t.1=none→l= []:=by
 intro hp;obtain⟨vs,ha,hc⟩:=H.all;cases l with
 |nil=>rfl
 |cons x l=>
  have e:=DZ ha;obtain⟨a,ha',_⟩:=hc 0 ((lO k).val x) (by rw[e];rfl);rw[hp]at ha';cases ha'
theorem Nd {k:IntKind}{ty:TypeId}{t:Slc}{l:gM}{h':AE}(s:St φ (⟨jF ty (hQ k),[.slice t.1 t.2.1 t.2.2],l⟩::F) h'):CX h' t.1 (l.map (lO k).val):=by
 obtain⟨vs,ha,hc⟩:=s.all;rw[DZ ha]at hc;exact hc
theorem Tz {t:Slc}{l:gM}(k:Ro.SliceIs (hQ .i64) φ t l) (b:St φ F h) {r:gM}(hd:cloneD l=some r):CallsH gR 121 [.slice t.1 t.2.1 t.2.2] h
 (Ap λv h'=>∃ψ:AD,∃y:Slc,∃a:gM,Sub φ ψ∧v=fP.val y∧a=r∧St ψ (⟨jF 3 (hQ .i64),[.slice y.1 y.2.1 y.2.2],a⟩::F) h'):=by
 obtain⟨hb,rfl⟩:=F7 hd;refine(Mu b k.length.symm (λh' s=>W2 k s) (av k) hb).mono λe h' ⟨v,hv,y,c,d⟩=>⟨v,hv,φ,y,_,kF _,c,rfl,d⟩
theorem clone53_own {t:Slc}{l:gM}(a:St φ (⟨jF 197 (hQ .u64),[.slice t.1 t.2.1 t.2.2],l⟩::F) h) {r:gM}(hd:cloneD l=some r):CallsH gR 103 [.slice t.1 t.2.1 t.2.2] h
 (Ap λv h'=>∃ψ:AD,∃y:Slc,∃b:gM,Sub φ ψ∧v=fP.val y∧b=r∧St ψ (⟨jF 197 (hQ .u64),[.slice y.1 y.2.1 y.2.2],b⟩::⟨jF 197 (hQ .u64),[.slice t.1 t.2.1 t.2.2],l⟩::F) h'):=by
 obtain⟨hb,rfl⟩:=F7 hd;refine(RK a a.rowLen.symm (λh' s=>Nd s) (Y0 a) hb).mono λe h' ⟨v,hv,y,c,d⟩=>⟨v,hv,φ,y,_,kF _,c,rfl,d⟩
end
end Go.Proofs.YtkfgeafgfeppfaaGreatDoor.Dg
namespace Go.Proofs.YtkfgeafgfeppfaaGreatDoor
open Go Go.Eng
section
variable {φ:AD}{h:AE}{F:List Chk}
theorem Vl:QO gR 195 197 (.int .u64 (0:Int)):=⟨kW,⟨Tryz.t197,by kernel_rfl,rfl,⟨_,rfl,rfl⟩,by decide⟩⟩
noncomputable def Dl (s_0:C8) (a:Int):Option Bool:=(cond (decide (a≥ 0)) (some (decide (a< (s_0.1)))) (some false)).bind λb=>some b
theorem HN {s_0:gL}{a:C8}{e:Int}(n:St φ (cO 199 EW s_0 a::F) h) {r:Bool}(hd:Dl a e=some r):
 CallsH gR 116 [(.pointer s_0),(.int .i64 e)] h (Ap λv h'=>∃ψ:AD,∃y:Bool,Sub φ ψ∧v=fR.val y∧y=r∧St ψ (cO 199 EW s_0 a::F) h'):=by
 refine AY mixed Tryz.func116 (Mm ..) ?_;have⟨d,b,hd⟩:=bS hd;refine Aa (λy w_ g=>∃ψ:AD,Sub φ ψ∧y.1=g∧St ψ (cO 199 EW s_0 a::F) w_) (g:=d) ?_ ?_
 ·refine AH b rfl (λ_ b=> ?_) (λ_ b=> ?_)
  ·obtain⟨j,k,rfl,c⟩:=Mh n;refine AF _ rfl<|AA (x:=(a.1)) c.at1 rfl ?_;obtain rfl:=iS b;exact AO ((decide (e< (a.1))),()) rfl ⟨φ,sb,rfl,(IW (x0:=(a.1)) c.at1.at1)⟩
  obtain rfl:=iS b;exact AO (false,()) rfl ⟨φ,sb,rfl,n⟩
 rintro o l ⟨f,m,rfl,i⟩;obtain rfl:=iS hd;exact AC ⟨f,o.1,sb,rfl,rfl,i⟩
noncomputable def ES (s_0:C8) (a:Int):Option Bool:=((Dl s_0 a).bind λt2=>cond t2 (need ((64:Int)≠0)<|(idx s_0.2 (gO .i64 (iW a 64))).bind λb=>need ((64:Int)≠0)<|need (0≤(gP a 64))<|some ((gO .u64 (iQ (iC (gX .u64) (jX b (2 ^ (min (gQ (gP a 64)) (gX .u64)))) &&& (iC (gX .u64) 1)):Nat))==1)) (some false)).bind λc=>some c
theorem MO {s_0:gL}{b:C8}{j:Int}(A:St φ (cO 199 EW s_0 b::F) h) {r:Bool}(hd:ES b j=some r):
 CallsH gR 117 [(.pointer s_0),(.int .i64 j)] h (Ap λv h'=>∃ψ:AD,∃y:Bool,Sub φ ψ∧v=fR.val y∧y=r∧St ψ (cO 199 EW s_0 b::F) h'):=by
 refine AY mixed Tryz.func117 (MK ..) ?_;have⟨f,a,hd⟩:=bS hd;refine Aa (λy w_ g=>∃ψ:AD,Sub φ ψ∧y.1=g∧St ψ (cO 199 EW s_0 b::F) w_) (g:=f) ?_ ?_
 ·have⟨n,i,a⟩:=bS a;refine AK (HN A i) ?_;rintro _ o ⟨d,t2,p,rfl,rfl,e⟩;refine⟨t2,rfl,?_⟩;refine AH a rfl (λ_ a=> ?_) (λ_ a=> ?_)
  ·obtain⟨q,s,rfl,c⟩:=Mh e;refine AF _ rfl<|AA c.at1 rfl<|C7 a id λt a=>gxO c a λk a=>C7 a id λu a=>C7 a id λw a=> ?_;obtain rfl:=iS a;exact AO (((gO .u64 (iQ (iC (gX .u64) (jX k (2 ^ (min (gQ (gP j (64:Int))) (gX .u64)))) &&& (iC (gX .u64) (1:Int))):Nat))==(1:Int)),()) rfl ⟨d,sb,rfl,(IW (x0:=(b.1)) c.at1.at1)⟩
  obtain rfl:=iS a;exact AO (false,()) rfl ⟨d,sb,rfl,e⟩
 rintro B x ⟨l,z,rfl,m⟩;obtain rfl:=iS hd;exact AC ⟨l,B.1,sb,rfl,rfl,m⟩
noncomputable def Aq (s_0:C8) (a:Int):Option (Bool×C8):=((Dl s_0 a).bind λt2=>cond (!t2) (some true) ((ES s_0 a).bind λt3=>some t3)).bind λd=>cond d (some (false,s_0)) (need ((64:Int)≠0)<|(idx s_0.2 (gO .i64 (iW a 64))).bind λb=>need ((64:Int)≠0)<|need (0≤(gP a 64))<|(DB s_0.2 (gO .i64 (iW a 64)) (gO .u64 (iQ (iC (gX .u64) b ||| (iC (gX .u64) (gO .u64 (1 *2 ^ (min (gQ (gP a 64)) (gX .u64)))))):Nat))).bind λc=>some (true,((s_0.1),c)))
theorem CV {s_0:gL}{b:C8}{s:Int}(A:St φ (cO 199 EW s_0 b::F) h) {r:(Bool×C8)}(hd:Aq b s=some r):
 CallsH gR 88 [(.pointer s_0),(.int .i64 s)] h (Ap λv h'=>∃ψ:AD,∃y:Bool,∃d:C8,Sub φ ψ∧v=fR.val y∧(y,d)=r∧St ψ (cO 199 EW s_0 d::F) h'):=by
 refine AY mixed Tryz.func88 (MI ..) ?_;have⟨l,a,hd⟩:=bS hd;refine Aa (λy w_ g=>∃ψ:AD,Sub φ ψ∧y.1=g∧St ψ (cO 199 EW s_0 b::F) w_) (g:=l) ?_ ?_
 ·have⟨x,m,a⟩:=bS a;refine AK (HN A m) ?_;rintro _ z ⟨n,t2,a0,rfl,rfl,e⟩;refine⟨t2,rfl,?_⟩;refine AH a rfl (λ_ a=> ?_) (λ_ a=> ?_)
  ·obtain rfl:=iS a;exact AO (true,()) rfl ⟨n,sb,rfl,e⟩
  have⟨B,o,a⟩:=bS a;refine AK (MO e o) ?_;rintro _ C ⟨p,t3,D,rfl,rfl,q⟩;refine⟨t3,rfl,?_⟩;obtain rfl:=iS a;exact AO (t3,()) rfl ⟨p,sb,rfl,q⟩
 rintro E G ⟨f,H,rfl,i⟩;refine AH hd rfl (λ_ hd=> ?_) (λ_ hd=> ?_)
 ·obtain rfl:=iS hd;exact AC ⟨f,false,b,sb,rfl,rfl,i⟩
 obtain⟨I,J,rfl,c⟩:=Mh i;refine AF _ rfl<|AA c.at1 rfl<|C7 hd id λK hd=>gxO c hd λL hd=>C7 hd id λad hd=>C7 hd id λal hd=> ?_;have⟨t,j,hd⟩:=bS hd;have⟨ap,k,u⟩:=c.there j;refine AF _ k (Ah u (Ef c j rfl k ?_));intro ax w;obtain rfl:=iS hd;exact AC ⟨f,true,((b.1),t),sb,rfl,rfl,(IW (x0:=(b.1)) w.at1.at1)⟩
noncomputable def CM (a:Int):Option C8:=need ((64:Int)≠0)<|(Dh (gO .i64 (iW (gO .i64 ((gO .i64 ((if(if 1000 <a then 1000 else a) >0 then(if 1000 <a then 1000 else a) else 0)+64)) - 1)) 64)) 0).bind λt1=>some ((if(if 1000 <a then 1000 else a) >0 then(if 1000 <a then 1000 else a) else 0),t1)
theorem EF {k:Int}(l:St φ (F) h) {r:C8}(hd:CM k=some r):
 CallsH gR 93 [(.int .i64 k)] h (Ap λv h'=>∃ψ:AD,∃y:gL,∃a:C8,Sub φ ψ∧v=fO.val y∧a=r∧St ψ (cO 199 EW y a::F) h'):=by
 refine AY mixed Tryz.func93 (Ow ..)<|C7 hd id λg hd=> ?_;have⟨b,c,hd⟩:=bS hd;refine Er (r:=(hQ .u64)) (x:=(0:Int)) Vl l rfl rfl c ?_;intro t1 i d;refine AV (vs:=[.int .i64 (if(if(1000:Int) <k then(1000:Int) else k) >(0:Int) then(if(1000:Int) <k then(1000:Int) else k) else(0:Int)),sv t1]) d λm j e=> ?_;have f:=IW (x0:=(if(if(1000:Int) <k then(1000:Int) else k) >(0:Int) then(if(1000:Int) <k then(1000:Int) else k) else(0:Int))) e.at1.at1.at1;obtain rfl:=iS hd;exact AC ⟨φ,(fH m),((if(if(1000:Int) <k then(1000:Int) else k) >(0:Int) then(if(1000:Int) <k then(1000:Int) else k) else(0:Int)),b),sb,rfl,rfl,f⟩
noncomputable def DJ (c:Int) (a:gM):Option C8:=(CM c).bind λt1=>(forS (σ:=C8) 0 (a.length:Int) t1 λb e=>(idx a b).bind λd=>(Aq e d).bind λf=>some f.2).bind λg=>some g
theorem Ei {B:Int}{A:Slc}{b:gM}(c:Ro.SliceIs (hQ .i64) φ A b) (D:St φ (F) h) {r:C8}(hd:DJ B b=some r):
 CallsH gR 95 [(.int .i64 B),(sv A)] h (Ap λv h'=>∃ψ:AD,∃y:gL,∃d:C8,Sub φ ψ∧v=fO.val y∧d=r∧St ψ (cO 199 EW y d::F) h'):=by
 refine AY mixed Tryz.func95 (P3 ..) ?_;have e:A.2.1=iB b:=c.length;have⟨K,k,hd⟩:=bS hd;refine AK (EF D k) ?_;rintro _ L ⟨f,t1,l,M,rfl,rfl,m⟩;refine⟨t1,rfl,?_⟩;have⟨N,n,hd⟩:=bS hd;refine BM n (λo y w_ g=>∃ψ:AD,∃i:C8,Sub f ψ∧y.1=o∧i=g∧St ψ (cO 199 EW t1 i::F) w_) ((0:Int),()) rfl ⟨f,l,sb,rfl,rfl,m⟩ ?_ ?_ ?_
 ·rintro _ C O _ _ ⟨ad,al,ap,rfl,rfl,j⟩ a ax p q;refine Ac (dT e p)<|gx c a j λP a=> ?_;have⟨Q,s,a⟩:=bS a;refine AK (CV j s) ?_;rintro _ R ⟨t,E,u,S,rfl,rfl,w⟩;refine⟨E,rfl,?_⟩;obtain rfl:=iS a;exact AZ ((wN C.1),()) _ rfl rfl ⟨t,u,sb,q,rfl,w⟩
 ·rintro _ C T ⟨x,z,U,rfl,rfl,a0⟩ G;refine AU (dF e G)<|AI (AL (C.1,()) rfl ⟨_,x,z,sb,rfl,rfl,a0⟩)
 rintro V W ⟨_,H,I,X,_,rfl,J⟩;obtain rfl:=iS hd;exact AC ⟨H,t1,I,sb,rfl,rfl,J⟩
noncomputable def DK (s_0:C8):Option C8:=(Dg.cloneD s_0.2).bind λt5=>some ((s_0.1),t5)
theorem LQ {s_0:gL}{a:C8}(g:St φ (cO 199 EW s_0 a::F) h) {r:C8}(hd:DK a=some r):
 CallsH gR 100 [(.pointer s_0)] h (Ap λv h'=>∃ψ:AD,∃y:gL,∃d:C8,Sub φ ψ∧v=fO.val y∧d=r∧St ψ (cO 199 EW y d::cO 199 EW s_0 a::F) h'):=by
 refine AY mixed Tryz.func100 (LM ..) ?_;obtain⟨f,n,rfl,c⟩:=Mh g;refine AF _ rfl<|AA (x:=(a.1)) c.at1 rfl<|AF _ rfl<|AA c.at1 rfl ?_;have⟨o,i,hd⟩:=bS hd;refine AK (Dg.clone53_own c i) ?_;rintro _ p ⟨k,t5,l,q,rfl,rfl,e⟩;refine⟨t5,rfl,?_⟩;refine AN (iH (b:=f) (j:=0) e.at2 rfl)<|AV (vs:=[.int .i64 (a.1),sv t5]) e λt s m=> ?_;obtain rfl:=iS hd;exact AC ⟨k,(fH t),((a.1),l),sb,rfl,rfl,((IW (x0:=(a.1)) ((IW (x0:=(a.1)) m.at1.at1.at1).at1).at2.at1).at1)⟩
end
end Go.Proofs.YtkfgeafgfeppfaaGreatDoor
namespace Go.Proofs.YtkfgeafgfeppfaaGreatDoor.Dg
open Go Go.Eng
theorem aw {n:Nat}(h:n<18446744073709551616):gO .u64 (n:Int)=(n:Int):=by
 unfold gO;simp only[gX,kX]
 have:(n:Int) % 18446744073709551616=(n:Int):=by omega
 simp;omega
theorem Vm {n:Int}(a: -9223372036854775808≤n) (b:n≤9223372036854775807):gO .i64 n=n:=by
 unfold gO;simp only[gX,kX];simp;omega
theorem Kv {w:Nat}(hw:w<18446744073709551616):(iC (gX .u64) (w:Int)).toNat=w:=by
 rw[BitVec.toNat_ofInt];have e:((2 ^ gX .u64:Nat):Int)=18446744073709551616:=by decide
 rw[e];omega
theorem W4 {k:Nat}(hk:k<64):gO .u64 ((1:Int) *2 ^ (min k (gX .u64)))=((2 ^ k:Nat):Int):=by
 have a:min k (gX .u64)=k:=by simp only[gX];omega
 have b:(1:Int) *2 ^ k=((2 ^ k:Nat):Int):=by simp
 rw[a,b];exact aw (by
  have:2 ^ k<2 ^ 64:=lR (by decide) hk
  simpa using this)
theorem SN {k:Nat}(hk:k<64):(2:Nat) ^ k<18446744073709551616:=by
 have:2 ^ k<2 ^ 64:=lR (by decide) hk
 simpa using this
theorem Z7 {a b:Nat}(ha:a<18446744073709551616) (hb:b<18446744073709551616):a ||| b<18446744073709551616:=by
 have:=Nat.or_lt_two_pow (n:=64) (x:=a) (y:=b) (by simpa using ha) (by simpa using hb)
 simpa using this
theorem ay {a b:Nat}(ha:a<18446744073709551616):a &&& b<18446744073709551616:=mJ Nat.and_le_left ha
theorem Y2 {w v:Nat}(hw:w<18446744073709551616) (hv:v<18446744073709551616):
 gO .u64 (iQ (iC (gX .u64) (w:Int) ||| (iC (gX .u64) (v:Int))):Nat)=((w ||| v:Nat):Int):=by
 rw[BitVec.toNat_or,Kv hw,Kv hv];exact aw (Z7 hw hv)
theorem O4 {w v:Nat}(hw:w<18446744073709551616) (hv:v<18446744073709551616):
 gO .u64 (iQ (iC (gX .u64) (w:Int) &&& (iC (gX .u64) (v:Int))):Nat)=((w &&& v:Nat):Int):=by
 rw[BitVec.toNat_and,Kv hw,Kv hv];exact aw (ay hw)
theorem SO {w j:Nat}(hw:w<18446744073709551616) (hj:64≤j):w.testBit j=false:=Nat.testBit_lt_two_pow (Nat.lt_of_lt_of_le hw (by
 have:2 ^ 64≤2 ^ j:=Nat.pow_le_pow_right (by decide) hj
 simpa using this))
theorem W5 {w k:Nat}(hw:w<18446744073709551616) (hk:k<64):
 ((gO .u64 (iQ (iC (gX .u64) (jX (w:Int) (2 ^ (min k (gX .u64)))) &&& (iC (gX .u64) (1:Int))):Nat))==(1:Int))=w.testBit k:=by
 have a:min k (gX .u64)=k:=by simp only[gX];omega
 have b:jX (w:Int) (2 ^ k)=((w / 2 ^ k:Nat):Int):=by
  rw[kY _ (Int.pow_nonneg (by decide))];simp
 have c:(1:Int)=((1:Nat):Int):=rfl;rw[a,b,c,O4 (mJ (Nat.div_le_self _ _) hw) (by decide)];have d:w / 2 ^ k &&& 1=(w / 2 ^ k) % 2:=Nat.and_one_is_mod _;rw[d,Nat.testBit_eq_decide_div_mod_eq];by_cases h:w / 2 ^ k % 2=1
 ·rw[h];rfl
 ·have:w / 2 ^ k % 2=0:=by omega
  rw[this];rfl
abbrev Ad:=Int×gM
def Jc (ws:gM) (i:Nat):Bool:=((ws[i / 64]?).getD 0).toNat.testBit (i % 64)
def mem (s:Ad) (i:Int):Bool:=decide (0≤i) && Jc s.2 i.toNat
structure OkS (s:Ad):Prop where
 lo:0≤s.1
 hi:s.1≤1000
 len:s.2.length=(s.1.toNat+63) / 64
 word:∀x∈s.2,0≤x∧x<18446744073709551616
 top:∀i:Nat,s.1≤(i:Int)→Jc s.2 i=false
def okB (s:Ad):Bool:=decide (0≤s.1) && decide (s.1≤1000) && decide (s.2.length=(s.1.toNat+63) / 64) && s.2.all (λx=>decide (0≤x) && decide (x<18446744073709551616)) && (kZ (64 *s.2.length - s.1.toNat)).all λk=> !Jc s.2 (s.1.toNat+k)
theorem Y3 (s:Ad):okB s=true↔OkS s:=by
 unfold okB;simp only[Bool.and_eq_true,gJ,List.all_eq_true,Bool.not_eq_true',lA];constructor
 ·rintro⟨⟨⟨⟨a,b⟩,c⟩,d⟩,e⟩;refine⟨a,b,c,d,λi hi=> ?_⟩;by_cases hl:i<64 *s.2.length
  ·have:=e (i - s.1.toNat) (by omega)
   rwa [show s.1.toNat+(i - s.1.toNat)=i by omega]at this
  ·unfold Jc;rw[jA (by omega)];simp
 ·rintro⟨a,b,c,d,e⟩;exact⟨⟨⟨⟨a,b⟩,c⟩,d⟩,λk _=>e _ (by omega)⟩
instance (s:Ad):Decidable (OkS s):=decidable_of_iff _ (Y3 s)
theorem OkS.at {s:Ad}(H:OkS s) {k:Nat}(hk:(k:Int) <s.1):∃w:Nat,∃h:k / 64<s.2.length,s.2[k / 64] =(w:Int)∧w<18446744073709551616∧Jc s.2 k=w.testBit (k % 64):=by
 have a:=H.len;have h:k / 64<s.2.length:=by omega
 have b:=H.word _ (iL h);refine⟨s.2[k / 64].toNat,h,by omega,by omega,?_⟩;unfold Jc;rw[gU h];rfl
theorem Uw {s:Ad}(H:OkS s) {i:Int}(h:i<0∨s.1≤i):mem s i=false:=by
 unfold mem;rcases h with h | h
 ·rw[gB (by omega)];rfl
 ·rw[H.top i.toNat (by omega),Bool.and_false]
theorem Nf {s:Ad}(H:OkS s) {i:Int}(h:mem s i=true):0≤i∧i<s.1:=by
 by_cases a:i<0∨s.1≤i
 ·rw[Uw H a]at h;cases h
 ·omega
theorem Mv (s:Ad) (k:Nat):mem s (k:Int)=Jc s.2 k:=by
 unfold mem;rw[gC (by omega),iK,jW]
theorem W6 (k:Nat) (hk:k<1000):gO .i64 (iW (k:Int) 64)=((k / 64:Nat):Int):=by
 rw[lB (by omega),Vm (by omega) (by omega)];omega
theorem W7 (k:Nat):gP (k:Int) 64=((k % 64:Nat):Int):=by
 rw[kU (by omega)];omega
theorem Z8 (s:Ad) (i:Int):Dl s i=some (decide (0≤i∧i<s.1)):=by
 unfold Dl;by_cases h:0≤i
 ·rw[gC (show i≥0 from h),cond_true,iI];by_cases a:i<s.1
  ·rw[gC a,gC ⟨h,a⟩]
  ·rw[gB a,gB λg=>a g.2]
 ·rw[gB (show ¬i≥0 from h),cond_false,iI,gB λg=>h g.1]
theorem az {s:Ad}(H:OkS s) (i:Int):ES s i=some (mem s i):=by
 unfold ES;rw[Z8,iI];by_cases h:0≤i∧i<s.1
 ·obtain⟨k,rfl⟩:∃k:Nat,i=(k:Int):=⟨i.toNat,by omega⟩;have⟨w,hk,a,b,c⟩:=H.at h.2
  have:=H.hi
  rw[gC h,cond_true,W6 k (by omega),W7,Gl hk,FN (by decide)];simp only[iI];rw[FN (by decide),FN (by omega),a,iK,W5 b (Nat.mod_lt _ (by decide)),Mv,c];rfl
 ·rw[gB h,Uw H (by omega)];rfl
theorem Ux {ws:gM}{k:Nat}(hk:k / 64<ws.length) (v:Nat) (j:Nat):Jc (ws.set (k / 64) (v:Int)) j=if j / 64=k / 64 then v.testBit (j % 64) else Jc ws j:=by
 unfold Jc;rw[List.getElem?_set];by_cases h:j / 64=k / 64
 ·rw[gF h.symm,gF hk,gF h];rfl
 ·rw[gG λe=>h e.symm,gG h]
theorem SP {j k:Nat}(h:j / 64=k / 64):(decide (k % 64=j % 64))=decide (j=k):=by
 by_cases e:j=k
 ·subst e;simp
 ·rw[gB e,gB (by omega)]
theorem OkS.set {s:Ad}(H:OkS s) {k v:Nat}(hk:(k:Int) <s.1) (hv:v<18446744073709551616) (ht:∀j:Nat,s.1≤(j:Int)→j / 64=k / 64→v.testBit (j % 64)=false):OkS (s.1,s.2.set (k / 64) (v:Int)):=by
 have⟨w,h,_⟩:=H.at hk;refine⟨H.lo,H.hi,?_,?_,?_⟩
 ·show(s.2.set _ _).length=_;rw[List.length_set];exact H.len
 ·intro x hx;rcases List.mem_or_eq_of_mem_set hx with hx | hx
  ·exact H.word x hx
  ·subst hx;omega
 ·intro j hj;show Jc (s.2.set _ _) j=false;rw[Ux h];by_cases e:j / 64=k / 64
  ·rw[gF e];exact ht j hj e
  ·rw[gG e];exact H.top j hj
theorem add_ok {s:Ad}(H:OkS s) (i:Int):∃s',Aq s i=some (decide (0≤i∧i<s.1) && !mem s i,s')∧OkS s'∧s'.1=s.1∧ ∀j,mem s' j=(mem s j || decide (j=i∧0≤i∧i<s.1)):=by
 unfold Aq;rw[Z8,az H];simp only[iI];by_cases h:0≤i∧i<s.1
 ·rw[gC h];simp only[Bool.not_true,cond_false,iI,jW];cases hm:mem s i with
  |true=>
   refine⟨s,rfl,H,rfl,λj=> ?_⟩;by_cases hj:j=i
   ·subst hj;rw[hm];rfl
   ·rw[gB λg=>hj g.1,jL]
  |false=>
   obtain⟨k,rfl⟩:∃k:Nat,i=(k:Int):=⟨i.toNat,by omega⟩;have⟨w,hk,b,c,d⟩:=H.at h.2
   have:=H.hi
   have a:k % 64<64:=Nat.mod_lt _ (by decide);have hor:=Z7 c (SN a);refine⟨(s.1,s.2.set (k / 64) ((w ||| 2 ^ (k % 64):Nat):Int)),?_,H.set h.2 hor ?_,rfl,λj=> ?_⟩
   ·rw[cond_false,W6 k (by omega),W7,Gl hk,FN (by decide)];simp only[iI];rw[FN (by decide),FN (by omega),b,iK,W4 a,Y2 c (SN a),HM (by omega) (by omega),iK];rfl
   ·intro j hj e;have ht:=H.top j hj
    have:Jc s.2 j=w.testBit (j % 64):=by
     unfold Jc;rw[e,gU hk,b];rfl
    rw[this]at ht;rw[Nat.testBit_or,ht,kN,SP e,gB (by omega)];rfl
   ·by_cases hj:0≤j
    ·obtain⟨j,rfl⟩:∃q:Nat,j=(q:Int):=⟨j.toNat,by omega⟩;rw[Mv,Mv];show Jc (s.2.set _ _) j=_;rw[Ux hk];have ed:decide (((j:Nat):Int)=(k:Int)∧(0:Int) ≤(k:Int)∧(k:Int) <s.1)=decide (j=k):=by
      by_cases e:j=k
      ·rw[gC e,gC ⟨by omega,h.1,h.2⟩]
      ·rw[gB e,gB (by omega)]
     rw[ed];by_cases e:j / 64=k / 64
     ·rw[gF e,Nat.testBit_or,kN,SP e];unfold Jc;rw[e,gU hk,b];rfl
     ·rw[gG e,gB (by intro g;subst g;exact e rfl),jL]
    ·unfold mem;rw[gB hj,gB (by omega)];rfl
 ·rw[gB h];refine⟨s,rfl,H,rfl,λj=> ?_⟩;rw[gB λg=>h g.2,jL]
theorem SQ (n j:Nat):Jc (jS n 0) j=false:=by
 unfold Jc;rw[List.getElem?_replicate]
 split<;>simp
def LR (n:Int):Int:=if n<0 then 0 else if 1000<n then 1000 else n
theorem new_ok (n:Int):∃s,CM n=some s∧OkS s∧s.1=LR n∧ ∀j,mem s j=false:=by
 have hc:(if(if(1000:Int) <n then(1000:Int) else n) >(0:Int) then(if(1000:Int) <n then(1000:Int) else n) else(0:Int))=LR n:=by
  unfold LR
  split<;>split<;>(try split) <;>omega
 have a:0≤LR n∧LR n≤1000:=by
  unfold LR;split
  ·omega
  ·split<;>omega
 unfold CM;rw[hc];obtain⟨k,hk⟩:∃k:Nat,LR n=(k:Int):=⟨(LR n).toNat,by omega⟩;rw[hk]at a ⊢;have b:gO .i64 ((k:Int)+64)=((k+64:Nat):Int):=by rw[Vm (by omega) (by omega)];omega
 have c:gO .i64 (((k+64:Nat):Int) - 1)=((k+63:Nat):Int):=by rw[Vm (by omega) (by omega)];omega
 have d:gO .i64 (iW ((k+63:Nat):Int) 64)=(((k+63) / 64:Nat):Int):=by
  rw[lB (by omega),Vm (by omega) (by omega)];omega
 rw[b,c,d,FN (by decide)];have hm:Dh (((k+63) / 64:Nat):Int) (0:Int)=some (jS ((k+63) / 64) 0):=by
  unfold Dh;rw[gF ⟨by omega,by omega⟩,iK]
 rw[hm];refine⟨_,rfl,⟨a.1,a.2,?_,?_,?_⟩,rfl,?_⟩
 ·simp
 ·intro x hx
  have:=List.eq_of_mem_replicate hx
  subst this;decide
 ·intro i _;exact SQ _ _
 ·intro j;unfold mem;rw[SQ,Bool.and_false]
theorem of_ok (n:Int) (l:gM) (hl:l.length≤9223372036854775807):∃s,DJ n l=some s∧OkS s∧s.1=LR n∧ ∀j,mem s j=(decide (0≤j∧j<LR n) && l.contains j):=by
 have⟨o,p,q,r,t⟩:=new_ok n;unfold DJ;rw[p];simp only[iI];have⟨s,d,e,u,i⟩:=CL (σ:=Ad) (n:=l.length) (λk s=>OkS s∧s.1=LR n∧ ∀j,mem s j=(decide (0≤j∧j<LR n) && (l.take k).contains j)) hl (s:=o) (f:=λc v=>
  (idx l c).bind λh=>
  (Aq v h).bind λw=>
  some w.2) ⟨q,r,λj=>by rw[t];simp⟩ (λk s hk ⟨x,m,y⟩=>by
   obtain⟨s',z,A,B,C⟩:=add_ok x l[k];refine⟨s',?_,A,B.trans m,λj=> ?_⟩
   ·rw[Gl hk,iI,z];rfl
   ·rw[C,y,m,nG,gU hk];simp only[Option.toList_some,List.contains_append,List.contains_cons,List.contains_nil,jL];by_cases hj:j=l[k]
    ·rw[←hj];simp;intro a b _;exact⟨a,b⟩
    ·have d:(j==l[k])=false:=by simpa using hj
     have e:decide (j=l[k] ∧0≤l[k] ∧l[k] <LR n)=false:=gB λg=>hj g.1;rw[d,e,jL,jL])
 rw[List.take_length]at i;refine⟨s,?_,e,u,i⟩;rw[d];rfl
theorem W8:∀w:Nat,w≠0→ ∃k m,w=2 ^ k *(2 *m+1):=by
 intro w
 induction w using Nat.strongRecOn with
 |ind w ih=>
  intro hw;by_cases h:w % 2=1
  ·exact⟨0,w / 2,by rw[Nat.pow_zero,Nat.one_mul];omega⟩
  ·obtain⟨k,m,e⟩:=ih (w / 2) (by omega) (by omega);refine⟨k+1,m,?_⟩;rw[nH,Nat.mul_comm (2 ^ k) 2,Nat.mul_assoc,←e];omega
def F8 (w:Nat):List Nat:=(kZ 64).filter w.testBit
theorem O5:F8 0= []:=by
 unfold F8;rw[jT];intro a _;simp
theorem Ng {w j:Nat}:j∈F8 w↔j<64∧w.testBit j=true:=by
 unfold F8;rw[List.mem_filter,lA]
theorem Uy {w:Nat}(hw:w≠0) (hlt:w<18446744073709551616):∃k,k<64∧w.testBit k=true∧(∀j,j<k→w.testBit j=false)∧(∀j,(w &&& (w - 1)).testBit j=(w.testBit j && !decide (j=k)))∧w &&& (18446744073709551616 - w)=2 ^ k:=by
 have⟨k,m,e⟩:=W8 w hw;have hbit:∀j,w.testBit j=(decide (k≤j) && (2 *m+1).testBit (j - k)):=λj=>by rw[e,Nat.testBit_two_pow_mul]
 have hk:w.testBit k=true:=by
  rw[hbit,Nat.sub_self,gC (lQ k),jW,Nat.testBit_zero];simp
 have c:k<64:=by
  rcases jH k 64 with h | h
  ·exact h
  ·rw[SO hlt h]at hk;cases hk
 have hlow:∀j,j<k→w.testBit j=false:=λj hj=>by rw[hbit,gB (by omega),Bool.false_and]
 have hpow:0<2 ^ k:=Nat.two_pow_pos k;have epred:w - 1=2 ^ (k+1) *m+(2 ^ k - 1):=by
  rw[e,Nat.mul_add,Nat.mul_one,nH,←Nat.mul_assoc];omega
 have hpred:∀j,(w - 1).testBit j=if j<k then true else if j=k then false else w.testBit j:=λj=>by
  rw[epred,Nat.testBit_two_pow_mul_add _ (by rw[nH];omega),Nat.testBit_two_pow_sub_one];by_cases a:j<k
  ·rw[gF (by omega),gF a,gC a]
  ·by_cases b:j=k
   ·rw[gF (by omega),gG a,gF b,gB a]
   ·rw[gG (by omega),gG a,gG b,hbit,gC (by omega),jW,show j - k=(j - (k+1))+1 by omega,Nat.testBit_succ];rw[show(2 *m+1) / 2=m by omega]
 refine⟨k,c,hk,hlow,λj=> ?_,?_⟩
 ·rw[Nat.testBit_and,hpred];by_cases a:j<k
  ·rw[gF a,hlow j a];rfl
  ·rw[gG a];by_cases b:j=k
   ·subst b;simp
   ·rw[gG b,gB b,Bool.and_self,Bool.not_false,Bool.and_true]
 ·apply Nat.eq_of_testBit_eq;intro j;rw[Nat.testBit_and,kN];have d:18446744073709551616 - w=2 ^ 64 - ((w - 1)+1):=by omega
  rw[d,Nat.testBit_two_pow_sub_succ (by omega),hpred];by_cases hj:j<64
  ·rw[gC hj,jW];by_cases a:j<k
   ·rw[gF a,hlow j a,gB (by omega)];rfl
   ·rw[gG a];by_cases b:j=k
    ·rw[gF b,b,hk];simp
    ·rw[gG b,gB (λh=>b h.symm)];cases w.testBit j<;>rfl
  ·rw[SO hlt (by omega),Bool.false_and];exact(gB (by omega)).symm
theorem MP {w k:Nat}(hk:k<64) (a:w.testBit k=true) (b:∀j,j<k→w.testBit j=false) {v:Nat}(hv:∀j,v.testBit j=(w.testBit j && !decide (j=k))):F8 w=k::F8 v:=by
 unfold F8;have er:kZ 64=kZ k++k::kG (k+1) (63 - k):=by
  rw[lS,lS];have h:kG 0 64=kG 0 k++kG (0+1 *k) (64 - k):=by
   rw[List.range'_append,show k+(64 - k)=64 by omega]
  rw[h,show 64 - k=(63 - k)+1 by omega,List.range'_succ];simp
 have c:(kZ k).filter w.testBit= []:=by
  rw[jT];intro j hj;rw[b j (lA.1 hj)];exact mK
 have d:(kZ k).filter v.testBit= []:=by
  rw[jT];intro j hj;rw[hv,b j (lA.1 hj)];exact mK
 have e:(kG (k+1) (63 - k)).filter w.testBit=(kG (k+1) (63 - k)).filter v.testBit:=by
  refine List.filter_congr λj hj=> ?_;rw[List.mem_range'_1]at hj;rw[hv,gB (by omega),Bool.not_false,Bool.and_true]
 have f:v.testBit k=false:=by rw[hv,a];simp
 rw[er,mL,mL,c,d,List.nil_append,List.nil_append,nQ,nQ,a,f,e];rfl
def Glob (φ:AD):Prop:= ∃t f,φ 0=some (.cells (Lib.deBruijn64tab.map λ(z:Nat)=>jQ .u8 (z:Int)).toArray t f)
theorem Glob.mono {φ ψ:AD}(H:Glob φ) (hs:Sub φ ψ):Glob ψ:=by
 obtain⟨t,f,h⟩:=H;exact⟨t,f,hs _ _ h⟩
def tzN (w:Nat):Nat:=(F8 w).headD 64
def tzD (x:Int):Option Int:=if 0≤x∧x<18446744073709551616 then some (tzN x.toNat:Nat) else none
theorem W9 {w:Nat}(a:w≠0) (h:w<18446744073709551616):gO .u64 (0 - (w:Int))=((18446744073709551616 - w:Nat):Int):=by
 unfold gO;simp only[gX,kX]
 have:(0 - (w:Int)) % 18446744073709551616=((18446744073709551616 - w:Nat):Int):=by omega
 simp;omega
theorem XA (n:Nat):gO .u64 (n:Int)=((n % 18446744073709551616:Nat):Int):=by
 unfold gO;simp only[gX,kX];simp
theorem XB {w k:Nat}(a:w≠0) (h:w<18446744073709551616) (he:w &&& (18446744073709551616 - w)=2 ^ k):
 jX (gO .u64 ((gO .u64 (iQ (iC (gX .u64) (w:Int) &&& (iC (gX .u64) (gO .u64 (0 - (w:Int))))):Nat)) *(285870213051353865:Int))) (2 ^ (min (gQ (58:Int)) (gX .u64)))=((2 ^ k *285870213051353865 % 18446744073709551616 / 288230376151711744:Nat):Int):=by
 rw[W9 a h,O4 h (by omega),he];have b:((2 ^ k:Nat):Int) *(285870213051353865:Int)=((2 ^ k *285870213051353865:Nat):Int):=by
  rw[Int.natCast_mul]
  have:((285870213051353865:Nat):Int)=285870213051353865:=rfl
  rw[this]
 rw[b,XA];have c:(2:Int) ^ (min (gQ (58:Int)) (gX .u64))=((288230376151711744:Nat):Int):=by decide
 rw[c,kY _ (by omega)]
 generalize 2 ^ k *285870213051353865 % 18446744073709551616=q
 omega
theorem XC {l:List Nat}{i k:Nat}(h:i<l.length) (hk:l.getD i 0=k):l[i]? =some k:=by
 rw[List.getD_eq_getElem?_getD,gU h]at hk;rw[gU h];exact gH some hk
theorem T0:Lib.deBruijn64tab.length=64:=by decide
theorem XD {l:List Nat}{φ:AD}{t:TypeId}{f:Nat×Nat}(hg:φ 0=some (.cells (l.map λ(z:Nat)=>jQ .u8 (z:Int)).toArray t f)) {i k:Nat}(h:l[i]? =some k):EB φ (mM ⟨0,0,none⟩ (gQ (i:Int) *1))=some (.int .u8 (k:Int)):=by
 rw[Dt,iK,Nat.mul_one,Nat.zero_add];unfold EB;rw[hg];simp[h]
theorem bA {φ:AD}{h:AE}{F:List Chk}{x:Int}(gk:Glob φ) (a:St φ F h) {r:Int}(hd:tzD x=some r):CallsH gR 105 [.int .u64 x] h
 (Ap λv h'=>∃ψ:AD,∃y:Int,Sub φ ψ∧v=fQ.val y∧y=r∧St ψ F h'):=by
 unfold tzD at hd;split at hd
 ·rename_i hx
  cases hd;obtain⟨w,rfl⟩:∃w:Nat,x=(w:Int):=⟨x.toNat,by omega⟩;rw[iK];refine Av mixed Tryz.func105 ?_;rw[F0];unfold Dv;refine ac (λhb=> ?_) (λhb=> ?_)
  ·have hw:w=0:=by
    have:(w:Int)=0:=by simpa using hb
    omega
   subst hw;unfold tzN;rw[O5];exact AC ⟨φ,64,kF _,rfl,rfl,a⟩
  ·have hw:w≠0:=by
    intro e;subst e;cases hb
   obtain⟨k,b,c,d,g,j⟩:=Uy hw (by omega);have hk:tzN w=k:=by
    unfold tzN;rw[MP b c d g];rfl
   have⟨d1,d2⟩:=Lib.deBruijn64_at k b;rw[XB hw (by omega) j,hk]
   generalize 2 ^ k *285870213051353865 % 18446744073709551616 / 288230376151711744=i at d1 d2
   refine Ah (by decide) (Ah ⟨by omega,by omega⟩ ?_);obtain⟨t,f,hg⟩:=gk;have hi:i<Lib.deBruijn64tab.length:=by rw[T0];exact d1
   have hcell:=XD hg (XC hi d2);refine AG (x:=(k:Int)) (AJ a.sub hcell) rfl ?_;rw[Vm (by omega) (by omega)];exact AC ⟨φ,(k:Int),kF _,rfl,rfl,a⟩
 ·cases hd
end Go.Proofs.YtkfgeafgfeppfaaGreatDoor.Dg
namespace Go.Eng
open Go Go.RowKit
def GO (P:Program) (h:AE):Nat→TypeId→List Value→Prop
 | 0,_,_=>False
 |n+1,t,cs=>match P.underlying t with
  |some .bool=>∃b,cs= [.bool b]
  |some (.int k)=>∃x,cs= [.int k x] ∧(Lit.int k x).wf=true
  |some .string=>∃s,cs= [.string s] ∧s.size≤maxLen
  |some (.slice e)=>∃p len cap,cs= [.slice p len cap] ∧len≤cap∧cap≤maxLen∧(p=none→len=0∧cap=0)∧
   ∀i,i<len→ ∃cs',cs'.length=P.cellsOf e∧(∀j v,cs'[j]? =some v→ ∃a,p=some a∧BW h (a.add (i *P.cellsOf e+j))=some v)∧GO P h n e cs'
  |some (.struct fs)=>cs.length=P.cellsOf t∧ ∀f∈fs.toList,GO P h n f.type ((cs.drop f.offset).take (P.cellsOf f.type))
  |_=>True
theorem P5 {α β:Type}{f:α→Option β}:∀ {l:List α}{r:List β},l.mapM f=some r→ ∀a∈l,∃b,f a=some b:=by
 intro l
 induction l with
 |nil=>intro r _ a ha;cases ha
 |cons x l ih=>
  intro r h a ha;rw[List.mapM_cons]at h;cases hx:f x with
  |none=>simp[hx]at h
  |some b=>
   cases hl:l.mapM f with
   |none=>simp[hx,hl]at h
   |some bs=>
    rcases lH.1 ha with rfl | ha
    ·exact⟨b,hx⟩
    ·exact ih hl a ha
theorem P6 {H:Type}{enc:TypeId×Value→H}{P:Program}{w:World}{base:Nat}{spare:Nat→Bool}{held:Bool}:∀(fuel:Nat) (t:TypeId) (cs:List Value) (x:DataW H×List MemPlace),
 DataW.trod enc P w base spare held fuel t cs=some x→GO P w.heap fuel t cs:=by
 intro fuel
 induction fuel with
 |zero=>intro t cs x h;simp[DataW.trod]at h
 |succ n ih=>
  intro t cs x h;have d:=h;rw[DataW.trod_step]at h;unfold DataW.trodStep at h;unfold GO
  split<;>rename_i hd<;>try trivial
  ·rw[hd]at h;split at h<;>first | cases h | skip
   all_goals rename_i b;first | cases b | skip
   all_goals first | exact⟨_,rfl⟩|skip
  ·rw[hd]at h;split at h<;>first | cases h | skip
   all_goals rename_i b;first | cases b | skip
   split at h
   ·rename_i hk;obtain⟨rfl,hw⟩:=hk;exact⟨_,rfl,hw⟩
   ·cases h
  ·rw[hd]at h;split at h<;>first | cases h | skip
   all_goals rename_i b;first | cases b | skip
   split at h
   ·rename_i hs;exact⟨_,rfl,hs⟩
   ·cases h
  ·rename_i e
   rcases DataW.trod_slice hd d with⟨rfl,_⟩|⟨a,len,cap,elems,rest,m,hm,rfl,_,_,hl,hc,hlen,hel,_⟩
   ·exact⟨none,0,0,rfl,lQ _,Nat.zero_le _,λ_=>⟨rfl,rfl⟩,λi hi=>by omega⟩
   ·cases hm;refine⟨some a,len,cap,rfl,hl,hc,(λh=>by cases h),λi hi=> ?_⟩;have c:=hel i hi;rw[gU (by omega),Option.bind_eq_some_iff]at c;obtain⟨cs',k,l⟩:=c;obtain⟨_,o,p⟩:=World.cells?_some k;refine⟨cs',o,λj v hj=>⟨a,rfl,?_⟩,ih _ _ _ l⟩;have hjl:j<P.cellsOf e:=by
     rcases jH j cs'.length with g | g
     ·omega
     ·rw[jA g]at hj;cases hj
    have:=p j hjl
    rw[hj,An]at this;exact this
  ·rename_i fs
   rw[hd]at h;dsimp only at h;by_cases hlen:cs.length=P.cellsOf t
   ·rw[gF hlen,Option.map_eq_some_iff]at h;obtain⟨xs,c,_⟩:=h;refine⟨hlen,λf hf=> ?_⟩;have⟨y,hy⟩:=P5 c f hf;exact ih _ _ _ hy
   ·rw[gG hlen]at h;cases h
theorem reads_of_Trod {H:Type}{enc:TypeId×Value→H}{P:Program}{w:World}{base:Nat}{spare:Nat→Bool}{held:Bool}{t:TypeId}{v:Value}{d:DataW H}{ps:List MemPlace}
 (h:DataW.Trod enc P w base spare held t v d ps):∃n,GO P w.heap n t v.cells.toList:=by
 obtain⟨fuel,hf⟩:=h;exact⟨fuel,P6 fuel t _ _ hf⟩
def XE (h:AE) (v:Value) (h':AE):Prop:=v= .bool true∧JP [] h h'
theorem law_walk {P:Program}{f:FuncId}{args:Array Value}{w:World}(H:CallsH P f args.toList w.heap (Ap (XE w.heap))):
 Calls P f args w λe w'=>e= .returned (.bool true)∧Below w.heap.size w w':=by
 have:=H w rfl
 rw[Array.toArray_toList]at this;refine this.mono λe w' he=> ?_;obtain⟨hs,he⟩:=he;cases e with
 |returned v=>
  obtain⟨v',hv,rfl,hk⟩:=he;cases hv;exact⟨rfl,hs.os,hs.tape,hs.output,hk.1,λk hk'=>hk.2 k hk' (by simp)⟩
 |panicked c=>obtain⟨v',hv,_⟩:=he;cases hv
 |outgrown=>exact he.elim
section
variable {P:Program}{h:AE}
theorem Nh {n:Nat}{t:TypeId}{k:IntKind}{cs:List Value}(ht:P.underlying t=some (.int k)) (H:GO P h n t cs):∃x,cs= [.int k x] ∧(Lit.int k x).wf=true:=by
 cases n with
 |zero=>exact H.elim
 |succ n=>unfold GO at H;rw[ht]at H;exact H
theorem SR {n:Nat}{t e:TypeId}{cs:List Value}(ht:P.underlying t=some (.slice e)) (H:GO P h n t cs):
 ∃m p len cap,cs= [.slice p len cap] ∧len≤cap∧cap≤maxLen∧(p=none→len=0∧cap=0)∧
  ∀i,i<len→ ∃cs',cs'.length=P.cellsOf e∧(∀j v,cs'[j]? =some v→ ∃a,p=some a∧BW h (a.add (i *P.cellsOf e+j))=some v)∧GO P h m e cs':=by
 cases n with
 |zero=>exact H.elim
 |succ n=>
  unfold GO at H;rw[ht]at H;obtain⟨p,len,cap,b,c⟩:=H;exact⟨n,p,len,cap,b,c⟩
theorem SS {α:Type}{p:Nat→α→Prop}:∀(n:Nat),(∀i,i<n→ ∃x,p i x)→ ∃l:List α,l.length=n∧ ∀i x,l[i]? =some x→p i x:=by
 intro n
 induction n with
 |zero=>intro _;exact⟨[],rfl,λi x hx=>by simp at hx⟩
 |succ n ih=>
  intro H;obtain⟨l,hl,hp⟩:=ih λi hi=>H i (by omega);obtain⟨x,hx⟩:=H n (by omega);refine⟨l++ [x],by simp[hl],λi y hy=> ?_⟩;rcases Nat.lt_trichotomy i l.length with g | g | g
  ·rw[jB g]at hy;exact hp i y hy
  ·subst g;simp at hy;subst hy;rw[hl];exact hx
  ·rw[jA (by simp;omega)]at hy;cases hy
end
end Go.Eng
namespace Go.Eng
open Go
def ReadsTo {α:Type}(P:Program) (h:AE) (t:TypeId) (r:Ro α) (G:α→Prop):Prop:= ∀n cs,GO P h n t cs→ ∃x,r.is (Bj h) cs x∧G x
theorem OC {P:Program}{h:AE}{t:TypeId}{k:IntKind}(ht:P.underlying t=some (.int k)):ReadsTo P h t (hQ k) λx=>(Lit.int k x).wf=true:=λn cs H=>by
 obtain⟨x,rfl,hx⟩:=Nh ht H;exact⟨x,rfl,hx⟩
theorem He {α:Type}{P:Program}{h:AE}{t e:TypeId}{r:Ro α}{G:α→Prop}(ht:P.underlying t=some (.slice e)) (hc:P.cellsOf e=r.sz) (he:ReadsTo P h e r G):
 ReadsTo P h t (oA r) λl=>l.length≤maxLen∧ ∀x∈l,G x:=λn cs H=>by
 obtain⟨m,p,len,cap,rfl,q,s,u,w⟩:=SR ht H;obtain⟨l,hl,hp⟩:=SS (p:=λi (x:List Value×α)=>r.is (Bj h) x.1 x.2∧G x.2∧ ∀j v,x.1[j]? =some v→ ∃a,p=some a∧BW h (a.add (i *r.sz+j))=some v) len (λi hi=>by
  obtain⟨cs',C,z,A⟩:=w i hi;have⟨x,hx,hG⟩:=he m cs' A;exact⟨(cs',x),hx,hG,λj v hv=>by have:=z j v hv;rw[hc]at this;exact this⟩)
 have key:∀k,k≤len→ ∃vs,r.All (Bj h) vs ((l.take k).map (·.2))∧vs.length=k *r.sz∧Ci (Bj h) p vs:=λk=>by
  induction k with
  |zero=>intro _;exact⟨[],.nil,by simp,λi v hv=>by simp at hv⟩
  |succ k ih=>
   intro hk;obtain⟨vs,b,f,c⟩:=ih (by omega);have hkl:k<l.length:=by omega
   have⟨o,D,B⟩:=hp k l[k] (gU hkl);refine⟨vs++l[k].1,?_,by rw[iZ,f,r.len o,Nat.add_mul,Nat.one_mul],λi v hv=> ?_⟩
   ·rw[nG,gU hkl,List.map_append];exact b.append (.one o)
   ·rcases jH i vs.length with g | g
    ·rw[jB g]at hv;exact c i v hv
    ·rw[jG g]at hv;have⟨a,ha,hcell⟩:=B _ v hv;refine⟨a,ha,?_⟩;rw[L4,show i=k *r.sz+(i - vs.length) by omega];exact hcell
 have⟨vs,b,f,c⟩:=key len (lQ _);rw[List.take_of_length_le (by omega)]at b;refine⟨l.map (·.2),⟨(p,len,cap),rfl,by simp[hl],q,s,λd=> ?_,vs,b,c⟩,by simp;omega,λx hx=> ?_⟩
 ·have:=(u d).1
  have:l= []:=kD (by omega)
  rw[this];rfl
 ·obtain⟨y,hy,rfl⟩:=List.mem_map.1 hx;obtain⟨i,hi⟩:=jY hy;exact(hp i y hi).2.1
theorem St.start (h:AE):St (Bj h) [] h:=kF _
theorem XF {P:Program}{f:FuncId}{args:List Value}{h:AE}
 (H:CallsH P f args h (Ap λv h'=>∃ψ:AD,∃y:Bool,Sub (Bj h) ψ∧v=((.one (.atom .bool)):Sh).val y∧y=true∧St ψ [] h')):CallsH P f args h (Ap (XE h)):=by
 refine H.mono λe h' he=> ?_;obtain⟨v,hv,ψ,y,hs,a,hy,c⟩:=he;subst hy;refine⟨v,hv,a,?_⟩;have hs':=hs.trans c.sub;refine⟨?_,λi hi _=> ?_⟩
 ·rcases jH h'.size h.size with g | g
  ·have b:Bj h h'.size=some h[h'.size]:=jC g
   have:=Ay (hs' _ _ b)
   omega
  ·exact g
 ·have b:Bj h i=some h[i]:=jC hi;have d:h'[i]? =some h[i]:=hs' _ _ b;rw[d,jC hi]
end Go.Eng
