/-
  DenS, DenT, Den, Base, Sim0, Clone, LaysS, Str, Lays, Sorts, Sim3, Sim4, Cmp, SortItems, Sim5, Add, BuildL, put together.
  Conditions: none; each part tells its own.
-/
import Derived.Test.YteoafgapjneblaaGreatDoorKs1
import Derived.Test.YteoafgapjneblaaGreatDoorProg
import Derived.KernelRfl
import Derived.Shelf.Strconv.AppendIntPublic10
import Derived.Lib.ItoaLen
import Derived.Shelf.Sort.Plain
import Derived.Shelf.SlSortCmp.NoneTotal
import Derived.Shelf.Slices.CompactI
import Derived.Shelf.Small.Wraps
import Derived.Shelf.Slices.In.SortNone
import Derived.Lib.Walk
import Derived.StillTailTactics
import Derived.Sort.Grow
open Go.IntKind renaming wrap → bM
open Go.Proofs.Tryz renaming prog → bN,underlying3 → cN,underlying9 → cU,underlying46 → cZ,underlying4 → dA,zeroValue3 → dD,zeroValue4 → dE,underlying22 → dI,underlying26 → dJ,underlying0 → dL,underlying5 → dM,zeroValue0 → dN,sizeOf3 → dP,sizeOf4 → dQ,underlying123 → dV,underlying136 → dW,underlying126 → dX,isAgg3 → eD,isAgg4 → eF,zeroValue123 → eG,zeroValue136 → eH,zeroValue126 → eI,sizeOf0 → eN,zeroValue5 → eQ,zeroValue9 → eR,isAgg0 → eV,sizeOf123 → eW,sizeOf136 → eX,sizeOf126 → eY,isAgg123 → fB,isAgg136 → fC,isAgg126 → fD,underlying129 → fF,underlying130 → fG,underlying150 → fH,underlying154 → fI,underlying161 → fJ,underlying162 → fK,underlying109 → fL,underlying50 → fN,sizeOf5 → fO,sizeOf9 → fP,underlying73 → fQ,zeroValue129 → fR,zeroValue130 → fS,zeroValue150 → fT,zeroValue154 → fU,zeroValue161 → fV,zeroValue162 → fW,underlying67 → fX,underlying72 → fY,zeroValue26 → gA,zeroValue73 → gB,isAgg5 → gD,isAgg9 → gE,f78 → gI
open Int renaming toNat → bO,tmod → bT
open Go.Builtin renaming append_ → bP
open Nat renaming beq → bQ,lt_or_ge → eO,mul_le_mul_right → eZ
open Go.Eng.T renaming out → bR,call → bW,ret → bY,block → bZ,join → cA,loop → cB,brk → cD,sem → cE,still → cH,store → cL,load → cT,both → gJ
open ByteArray renaming toList → bU,size → bX,extract → cC
open Go.Eng.Sub renaming refl → bV,trans → dR
open Go.Eng.Ro renaming int → cF,str → dG,bool → eP,prod → gH,list → gK
open Go.Eng.Rep renaming ro → cG,row → dO,prod → fM
open List renaming length → cI,getElem?_eq_getElem → cJ,getElem?_eq_none → cP,eq_nil_of_length_eq_zero → cX,getElem?_take → dY,length_append → dZ,getElem?_append_right → eC,flatMap_cons → eK,size_toArray → eL,length_take → gC
open UInt8 renaming toNat → cK
open Go.Eng.AT renaming done → cQ,next → cY
open Option renaming isNone → cS,map → dS,isNone_some → fE
open Go.Value renaming int → cV
open Array renaming getElem?_eq_getElem → dB,getElem?_push → dC,getElem?_append_left → eA,getElem?_modify → eT
open Go.Eng.St renaming shutR → dH,freezeRow → dK,openR → dU,cell → eM,cells → fA
open Go.Eng.Ro.SliceIs renaming nil → eB
open Bool renaming not_eq_true' → eJ,or_eq_true → eS
open Go.Addr renaming add → eU
open Go.Eng.Bb renaming int → fZ
open Go.Eng.Ro.All renaming cons → gF
open Go.Instr renaming mapUpdate → gG
open Go.Eng.Br renaming refl → gL
namespace Go.Proofs.YteoafgapjneblaaGreatDoor
open Go Go.Eng
set_option linter.unusedVariables false
set_option maxRecDepth 100000
abbrev aA (r j:Nat) (k:Slc→T):T:=cT .slice ⟨r,j,none⟩ k
abbrev aC (a:Addr) (i:Int) (j:Nat) (k:Slc→T):T:=cT .slice (a.add (bO i * j)) k
abbrev aD (a:Array Value) (t:Nat) (k:Nat→T):T:=T.new (.cells a t (0,0)) k
abbrev aF (r j:Nat) (k:Int→T):T:=cT (.int .u8) ⟨r,j,none⟩ k
abbrev aJ (r j:Nat) (v:Slc) (k:T):T:=cL ⟨r,j,none⟩ (sv v) k
abbrev aK (r j:Nat) (k:Option Addr→T):T:=cT .pointer ⟨r,j,none⟩ k
abbrev aL (a:Addr) (j:Nat) (k:Slc→T):T:=cT .slice (a.add j) k
abbrev aM (a:Addr) (i:Int) (j n:Nat) (k:Slc→T):T:=cT .slice ((a.add (bO i * j)).add n) k
abbrev aN (a:Addr) (i:Int) (j:Nat) (k:Int→T):T:=cT (.int .i64) (a.add (bO i * j)) k
abbrev aO (r j:Nat) (v:Value) (k:T):T:=cL ⟨r,j,none⟩ v k
abbrev aQ (r j:Nat) (v:Value) (k:T):T:=cH ⟨r,j,none⟩ v k
abbrev aR (a:Addr) (j:Nat) (k:Int→T):T:=cT (.int .i64) (a.add j) k
abbrev aT (a:Addr) (k:Slc→T):T:=cT .slice a k
abbrev aU (r j:Nat) (v:Int) (k:T):T:=cL ⟨r,j,none⟩ (.int .i64 v) k
abbrev aV (a:Addr) (i:Int) (j n:Nat) (k:Int→T):T:=cT (.int .i64) ((a.add (bO i * j)).add n) k
abbrev aW (r j:Nat) (k:Int→T):T:=cT (.int .i64) ⟨r,j,none⟩ k
abbrev aX (r j:Nat) (k:T):T:=cL ⟨r,j,none⟩ (.slice none 0 0) k
abbrev aY (r j:Nat) (k:ByteArray→T):T:=cT .string ⟨r,j,none⟩ k
abbrev aZ (a:Addr) (i:Int) (j:Nat) (k:ByteArray→T):T:=cT .string (a.add (bO i * j)) k
abbrev bA (a:Addr) (i:Int) (j n:Nat) (k:ByteArray→T):T:=cT .string ((a.add (bO i * j)).add n) k
abbrev bB (r j:Nat) (v:Slc) (k:T):T:=cH ⟨r,j,none⟩ (sv v) k
abbrev bE (a:Addr) (i:Int) (j:Nat) (k:Int→T):T:=cT (.int .u8) (a.add (bO i * j)) k
abbrev bF (r j:Nat) (k:Option Nat→T):T:=cT .map ⟨r,j,none⟩ k
abbrev bG (a:Addr) (k:Int→T):T:=cT (.int .i64) a k
abbrev bH (a:Addr) (k:ByteArray→T):T:=cT .string a k
abbrev bI (a:Addr) (k:Bool→T):T:=cT .bool a k
abbrev bJ (a:Addr) (i:Int) (j n:Nat) (k:Bool→T):T:=cT .bool ((a.add (bO i * j)).add n) k
abbrev bK (r j:Nat) (k:Bool→T):T:=cT .bool ⟨r,j,none⟩ k
abbrev bL (r j:Nat) (v:Int) (k:T):T:=cH ⟨r,j,none⟩ (.int .i64 v) k
noncomputable def Cy (s_0:Int×Int×Slc×Slc×Slc×Slc×Slc×Unit) (rules_1:Int) (right_2:Int):T:=aD #[(.int .u8 s_0.1),(.int .u8 s_0.2.1),(sv s_0.2.2.1),(sv s_0.2.2.2.1),(sv s_0.2.2.2.2.1),(sv s_0.2.2.2.2.2.1),(sv s_0.2.2.2.2.2.2.1)] 25 fun r1=>cA [aB] (aA r1 2 fun t3=>cond (decide ((t3.2.1:Int) >rules_1)) (bR [(.bool true)]) (aA r1 5 fun t4=>bR [(.bool (decide ((t4.2.1:Int) >(5:Int))))])) fun (z2:Bool×Unit)=>cond z2.1 (bY (.bool false)) (bZ 0 [aI,aB] (cB [aI,aB] [(.int .i64 0),(.bool false)] fun (z6:Int×Bool×Unit)=>aA r1 3 fun t7=>cond (decide (z6.1< (t7.2.1:Int))) (aA r1 3 fun t8=>AJ t8.1 fun a9=>chk (0≤z6.1∧z6.1< (t8.2.1:Nat))<|aC a9 z6.1 1 fun t10=>cond (decide ((t10.2.1:Int) >right_2)) (bY (.bool false)) (bR [(.int .i64 (wN z6.1)),(.bool z6.2.1)])) (cD 0 [(.int .i64 z6.1),(.bool z6.2.1)])) fun (z5:Int×Bool×Unit)=>bY (.bool true))
theorem Eb (s_0:Int×Int×Slc×Slc×Slc×Slc×Slc×Unit) (rules_1:Int) (right_2:Int):Af bN Tryz.f5 [(.agg #[(.int .u8 s_0.1),(.int .u8 s_0.2.1),(sv s_0.2.2.1),(sv s_0.2.2.2.1),(sv s_0.2.2.2.2.1),(sv s_0.2.2.2.2.2.1),(sv s_0.2.2.2.2.2.2.1)]),(.int .i64 rules_1),(.int .i64 right_2)] =Cy s_0 rules_1 right_2:=by kernel_rfl
noncomputable def Co (s_0:Int×Int×Slc×Slc×Slc×Slc×Slc×Unit):T:=aD #[(.int .u8 s_0.1),(.int .u8 s_0.2.1),(sv s_0.2.2.1),(sv s_0.2.2.2.1),(sv s_0.2.2.2.2.1),(sv s_0.2.2.2.2.2.1),(sv s_0.2.2.2.2.2.2.1)] 25 fun r1=>aD #[(.slice none 0 0),(.slice none 0 0),(.slice none 0 0),(.slice none 0 0),(.slice none 0 0),(.slice none 0 0)] 32 fun r2=>aF r1 0 fun t3=>aF r1 1 fun t4=>aA r1 2 fun t5=>aA r1 3 fun t6=>aA r1 4 fun t7=>aA r1 5 fun t8=>aA r1 6 fun t9=>bW 24 [(.agg #[(.int .u8 t3),(.int .u8 t4),(sv t5),(sv t6),(sv t7),(sv t8),(sv t9)])] (.one (.agg [.slice,.slice,.slice,.string,.slice])) fun (t10:Slc×Slc×Slc×ByteArray×Slc×Unit)=>bW 23 [(.agg #[(sv t10.1),(sv t10.2.1),(sv t10.2.2.1),(.string t10.2.2.2.1),(sv t10.2.2.2.2.1)])] (.tuple [(.agg [.slice,.slice,.slice,.slice,.slice,.slice]),aI,(.atom .string)]) fun (t11:(Pl6)×Int×ByteArray×Unit)=>aD #[(.slice none 0 0),(.slice none 0 0),(.slice none 0 0),(.slice none 0 0),(.slice none 0 0),(.slice none 0 0)] 32 fun r12=>aJ r12 0 t11.1.1<|aJ r12 1 t11.1.2.1<|aJ r12 2 t11.1.2.2.1<|aJ r12 3 t11.1.2.2.2.1<|aJ r12 4 t11.1.2.2.2.2.1<|aJ r12 5 t11.1.2.2.2.2.2.1<|L6 r12 fun t13 t14 t15 t16 t17 t18=>aJ r2 0 t13<|aJ r2 1 t14<|aJ r2 2 t15<|aJ r2 3 t16<|aJ r2 4 t17<|aJ r2 5 t18<|L6 r2 fun res19 res20 res21 res22 res23 res24=>bY (aH res19 res20 res21 res22 res23 res24)
theorem EU (s_0:Int×Int×Slc×Slc×Slc×Slc×Slc×Unit):Af bN Tryz.f6 [(.agg #[(.int .u8 s_0.1),(.int .u8 s_0.2.1),(sv s_0.2.2.1),(sv s_0.2.2.2.1),(sv s_0.2.2.2.2.1),(sv s_0.2.2.2.2.2.1),(sv s_0.2.2.2.2.2.2.1)])] =Co s_0:=by kernel_rfl
noncomputable def GT (p_0:Pl6) (states_1:Int) (items_2:Int):T:=aD #[(sv p_0.1),(sv p_0.2.1),(sv p_0.2.2.1),(sv p_0.2.2.2.1),(sv p_0.2.2.2.2.1),(sv p_0.2.2.2.2.2.1)] 32 fun r1=>L6 r1 fun t2 t3 t4 t5 t6 t7=>aD #[(sv t2),(sv t3),(sv t4),(sv t5),(sv t6),(sv t7),(.slice none 0 0),(.int .i64 0)] 69 fun r8=>aD #[(.pointer none)] 34 fun r9=>aO r9 0 (.pointer (some ⟨r8,0,none⟩))<|bW 25 [(.int .i64 states_1)] (.one aP) fun (t10:Option Addr)=>bW 25 [(.int .i64 items_2)] (.one aP) fun (t11:Option Addr)=>aD #[(.pointer none)] 70 fun r12=>aD #[(.pointer none)] 70 fun r13=>aO r12 0 (.pointer t10)<|aO r13 0 (.pointer t11)<|T.new (.map #[] 0) fun r14=>aD #[(.map none)] 72 fun r15=>aO r15 0 (.map (some r14))<|aD #[(.int .i64 0),(.int .i64 0)] 57 fun r16=>bW 26 [(.slice (some ⟨r16,0,none⟩) 1 1),(.int .i64 (-1:Int)),(.int .i64 (-1:Int)),(.pointer (some ⟨r15,0,none⟩)),(.pointer (some ⟨r9,0,none⟩)),(.pointer (some ⟨r12,0,none⟩)),(.pointer (some ⟨r13,0,none⟩))] (.tuple [aI,aI]) fun (t17:Int×Int×Unit)=>cond (t17.2.1 !=(0:Int)) (bY (.tuple #[(.pointer none),(.int .i64 t17.2.1)])) (bZ 0 [aI,aI,aP] (cB [aI,aI,aP] [(.int .i64 0),(.int .i64 0),(.pointer none)] fun (z19:Int×Int×(Option Addr)×Unit)=>aK r9 0 fun t20=>AJ t20 fun a21=>aL a21 6 fun t22=>cond (decide (z19.1< (t22.2.1:Int))) (aK r9 0 fun t23=>AJ t23 fun a24=>aL a24 6 fun t25=>AJ t25.1 fun a26=>chk (0≤z19.1∧z19.1< (t25.2.1:Nat))<|aM a26 z19.1 5 1 fun t27=>aK r9 0 fun t28=>bW 30 [(.pointer t28),(sv t27)] (.one aS) fun (t29:Slc)=>bZ 2 [aI,aI,aP] (cB [aI,aI,aP] [(.int .i64 0),(.int .i64 z19.2.1),(.pointer z19.2.2.1)] fun (z31:Int×Int×(Option Addr)×Unit)=>cond (decide (z31.1< (t29.2.1:Int))) (AJ t29.1 fun a32=>chk (0≤z31.1∧z31.1< (t29.2.1:Nat))<|aN a32 z31.1 1 fun t33=>aK r9 0 fun t34=>bW 31 [(.pointer t34),(sv t27),(.int .i64 t33)] (.one aS) fun (t35:Slc)=>bW 26 [(sv t35),(.int .i64 z19.1),(.int .i64 t33),(.pointer (some ⟨r15,0,none⟩)),(.pointer (some ⟨r9,0,none⟩)),(.pointer (some ⟨r12,0,none⟩)),(.pointer (some ⟨r13,0,none⟩))] (.tuple [aI,aI]) fun (t36:Int×Int×Unit)=>cond (t36.2.1 !=(0:Int)) (bY (.tuple #[(.pointer none),(.int .i64 t36.2.1)])) (aK r9 0 fun t37=>AJ t37 fun a38=>aL a38 6 fun t39=>aK r9 0 fun t40=>AJ t40 fun a41=>aL a41 6 fun t42=>AJ t42.1 fun a43=>chk (0≤z19.1∧z19.1< (t42.2.1:Nat))<|aM a43 z19.1 5 2 fun t44=>aD #[(.int .i64 t33),(.int .i64 t36.1)] 84 fun r45=>cH ((a43.add (bO z19.1 *5)).add 2) (sv t44)<|cH (a41.add 6) (sv t42)<|aQ r9 0 (.pointer t40)<|cH (a38.add 6) (sv t39)<|aQ r9 0 (.pointer t37)<|cE (bP #[50,50] 50 #[(sv t44),(.slice (some ⟨r45,0,none⟩) 1 1)]) (.one aS) fun (t46:Slc)=>cH (a38.add 6) (sv t39)<|aQ r9 0 (.pointer t37)<|AJ t39.1 fun a47=>chk (0≤z19.1∧z19.1< (t39.2.1:Nat))<|cL ((a47.add (bO z19.1 *5)).add 2) (sv t46)<|bR [(.int .i64 (wN z31.1)),(.int .i64 z31.2.1),(.pointer z31.2.2.1)])) (cD 2 [(.int .i64 z31.1),(.int .i64 z31.2.1),(.pointer z31.2.2.1)])) fun (z30:Int×Int×(Option Addr)×Unit)=>bR [(.int .i64 (wN z19.1)),(.int .i64 z30.2.1),(.pointer z30.2.2.1)]) (cD 0 [(.int .i64 z19.1),(.int .i64 z19.2.1),(.pointer z19.2.2.1)])) fun (z18:Int×Int×(Option Addr)×Unit)=>aK r9 0 fun t48=>aK r13 0 fun t49=>bW 32 [(.pointer t49)] (.one aI) fun (t50:Int)=>aQ r9 0 (.pointer t48)<|AJ t48 fun a51=>cL (a51.add 7) (.int .i64 t50)<|aK r9 0 fun t52=>bY (.tuple #[(.pointer t52),(.int .i64 0)]))
theorem Hx (p_0:Pl6) (states_1:Int) (items_2:Int):Af bN Tryz.f7 [(aG p_0),(.int .i64 states_1),(.int .i64 items_2)] =GT p_0 states_1 items_2:=by kernel_rfl
noncomputable def E4 (a_0:Option Addr):T:=AJ a_0 fun a1=>aL a1 6 fun t2=>bY (.int .i64 (t2.2.1:Int))
theorem G1 (a_0:Option Addr):Af bN Tryz.f9 [(.pointer a_0)] =E4 a_0:=by kernel_rfl
noncomputable def EG (a_0:Option Addr):T:=AJ a_0 fun a1=>aR a1 7 fun t2=>bY (.int .i64 t2)
theorem F4 (a_0:Option Addr):Af bN Tryz.f10 [(.pointer a_0)] =EG a_0:=by kernel_rfl
noncomputable def Dy (a_0:Option Addr) (n_1:Int):T:=bW 37 [(.pointer a_0),(.int .i64 n_1)] (.one (.agg [.slice,.slice,.slice,(.int .i64),(.int .i64)])) fun (t1:Slc×Slc×Slc×Int×Int×Unit)=>bW 38 [(sv t1.1)] (.one aS) fun (t2:Slc)=>bY (sv t2)
theorem Fi (a_0:Option Addr) (n_1:Int):Af bN Tryz.f13 [(.pointer a_0),(.int .i64 n_1)] =Dy a_0 n_1:=by kernel_rfl
noncomputable def Ec (a_0:Option Addr) (n_1:Int):T:=bW 37 [(.pointer a_0),(.int .i64 n_1)] (.one (.agg [.slice,.slice,.slice,(.int .i64),(.int .i64)])) fun (t1:Slc×Slc×Slc×Int×Int×Unit)=>aD #[(.slice none 0 0),(.slice none 0 0),(.slice none 0 0),(.int .i64 0),(.int .i64 0)] 77 fun r2=>aJ r2 0 t1.1<|aJ r2 1 t1.2.1<|aJ r2 2 t1.2.2.1<|aU r2 3 t1.2.2.2.1<|aU r2 4 t1.2.2.2.2.1<|bZ 0 [aP,aS,aI] (cB [aP,aS,aI] [(.pointer (some ⟨r2,0,none⟩)),(.slice none 0 0),(.int .i64 n_1)] fun (z4:(Option Addr)×Slc×Int×Unit)=>cA [aB] (cond (decide (z4.2.2.1>(0:Int))) (AJ a_0 fun a6=>aL a6 6 fun t7=>bR [(.bool (decide (z4.2.2.1< (t7.2.1:Int))))]) (bR [(.bool false)])) fun (z5:Bool×Unit)=>cond z5.1 (AJ z4.1 fun a8=>aR a8 4 fun t9=>aD #[(.int .i64 t9)] 3 fun r10=>cE (bP #[26,26] 26 #[(sv z4.2.1),(.slice (some ⟨r10,0,none⟩) 1 1)]) (.one aS) fun (t11:Slc)=>AJ z4.1 fun a12=>aR a12 3 fun t13=>AJ z4.1 fun a14=>aT a14 fun t15=>aL a14 1 fun t16=>aL a14 2 fun t17=>aR a14 3 fun t18=>aR a14 4 fun t19=>aD #[(.slice none 0 0),(.slice none 0 0),(.slice none 0 0),(.int .i64 0),(.int .i64 0)] 77 fun r20=>aJ r20 0 t15<|aJ r20 1 t16<|aJ r20 2 t17<|aU r20 3 t18<|aU r20 4 t19<|bW 37 [(.pointer a_0),(.int .i64 t13)] (.one (.agg [.slice,.slice,.slice,(.int .i64),(.int .i64)])) fun (t21:Slc×Slc×Slc×Int×Int×Unit)=>aJ r20 0 t21.1<|aJ r20 1 t21.2.1<|aJ r20 2 t21.2.2.1<|aU r20 3 t21.2.2.2.1<|aU r20 4 t21.2.2.2.2.1<|bR [(.pointer (some ⟨r20,0,none⟩)),(sv t11),(.int .i64 t13)]) (cD 0 [(.pointer z4.1),(sv z4.2.1),(.int .i64 z4.2.2.1)])) fun (z3:(Option Addr)×Slc×Int×Unit)=>bW 40 [(sv z3.2.1)] (.tuple []) fun (t22:Unit)=>bY (sv z3.2.1)
theorem GU (a_0:Option Addr) (n_1:Int):Af bN Tryz.f19 [(.pointer a_0),(.int .i64 n_1)] =Ec a_0 n_1:=by kernel_rfl
noncomputable def Cz (s_0_p:Option Addr) (s_0_n s_0_c:Nat):T:=bZ 0 [aI,aI] (cB [aI,aI] [(.int .i64 (bM .i64 (((s_0_n:Nat):Int) - 1))),(.int .i64 0)] fun (z2:Int×Int×Unit)=>cond (decide (z2.2.1<z2.1)) (AJ s_0_p fun a3=>chk (0≤z2.1∧z2.1< (s_0_n:Nat))<|aN a3 z2.1 1 fun t4=>AJ s_0_p fun a5=>chk (0≤z2.2.1∧z2.2.1< (s_0_n:Nat))<|aN a5 z2.2.1 1 fun t6=>AJ s_0_p fun a7=>chk (0≤z2.2.1∧z2.2.1< (s_0_n:Nat))<|cL (a7.add (bO z2.2.1 *1)) (.int .i64 t4)<|AJ s_0_p fun a8=>chk (0≤z2.1∧z2.1< (s_0_n:Nat))<|cL (a8.add (bO z2.1 *1)) (.int .i64 t6)<|bR [(.int .i64 (bM .i64 (z2.1 - 1))),(.int .i64 (wN z2.2.1))]) (cD 0 [(.int .i64 z2.1),(.int .i64 z2.2.1)])) fun (z1:Int×Int×Unit)=>bY (.tuple #[])
theorem Ed (s_0_p:Option Addr) (s_0_n s_0_c:Nat):Af bN Tryz.f40 [(.slice s_0_p s_0_n s_0_c)] =Cz s_0_p s_0_n s_0_c:=by kernel_rfl
noncomputable def EH (a_0:Option Addr) (n_1:Int):T:=bW 37 [(.pointer a_0),(.int .i64 n_1)] (.one (.agg [.slice,.slice,.slice,(.int .i64),(.int .i64)])) fun (t1:Slc×Slc×Slc×Int×Int×Unit)=>bW 38 [(sv t1.2.1)] (.one aS) fun (t2:Slc)=>bY (sv t2)
theorem F5 (a_0:Option Addr) (n_1:Int):Af bN Tryz.f14 [(.pointer a_0),(.int .i64 n_1)] =EH a_0 n_1:=by kernel_rfl
noncomputable def EI (a_0:Option Addr) (n_1:Int):T:=bW 37 [(.pointer a_0),(.int .i64 n_1)] (.one (.agg [.slice,.slice,.slice,(.int .i64),(.int .i64)])) fun (t1:Slc×Slc×Slc×Int×Int×Unit)=>bW 39 [(sv t1.2.2.1)] (.one aS) fun (t2:Slc)=>bY (sv t2)
theorem F6 (a_0:Option Addr) (n_1:Int):Af bN Tryz.f17 [(.pointer a_0),(.int .i64 n_1)] =EI a_0 n_1:=by kernel_rfl
noncomputable def FK (a_0:Option Addr) (n_1:Int) (sym_2:Int):T:=bW 37 [(.pointer a_0),(.int .i64 n_1)] (.one (.agg [.slice,.slice,.slice,(.int .i64),(.int .i64)])) fun (t1:Slc×Slc×Slc×Int×Int×Unit)=>bZ 0 [aI,aI] (cB [aI,aI] [(.int .i64 0),(.int .i64 0)] fun (z3:Int×Int×Unit)=>cond (decide (z3.1< (t1.2.2.1.2.1:Int))) (AJ t1.2.2.1.1 fun a4=>chk (0≤z3.1∧z3.1< (t1.2.2.1.2.1:Nat))<|aN a4 z3.1 2 fun t5=>aV a4 z3.1 2 1 fun t6=>aD #[(.int .i64 0),(.int .i64 0)] 84 fun r7=>aU r7 0 t5<|aU r7 1 t6<|aW r7 0 fun t8=>cond (t8==sym_2) (aW r7 1 fun t9=>bY (.int .i64 t9)) (bR [(.int .i64 (wN z3.1)),(.int .i64 z3.2.1)])) (cD 0 [(.int .i64 z3.1),(.int .i64 z3.2.1)])) fun (z2:Int×Int×Unit)=>bY (.int .i64 (-1:Int))
theorem HJ (a_0:Option Addr) (n_1:Int) (sym_2:Int):Af bN Tryz.f11 [(.pointer a_0),(.int .i64 n_1),(.int .i64 sym_2)] =FK a_0 n_1 sym_2:=by kernel_rfl
noncomputable def Ee (a_0:Option Addr) (n_1:Int) (seq_2_p:Option Addr) (seq_2_n seq_2_c:Nat):T:=cA [aB] (cond (decide (n_1< 0)) (bR [(.bool true)]) (AJ a_0 fun a2=>aL a2 6 fun t3=>bR [(.bool (decide (n_1≥ (t3.2.1:Int))))])) fun (z1:Bool×Unit)=>cond z1.1 (bY (.int .i64 (-1:Int))) (bZ 0 [aI,aI] (cB [aI,aI] [(.int .i64 0),(.int .i64 n_1)] fun (z5:Int×Int×Unit)=>cond (decide (z5.1< ((seq_2_n:Nat):Int))) (AJ seq_2_p fun a6=>chk (0≤z5.1∧z5.1< (seq_2_n:Nat))<|aN a6 z5.1 1 fun t7=>bW 11 [(.pointer a_0),(.int .i64 z5.2.1),(.int .i64 t7)] (.one aI) fun (t8:Int)=>cond (decide (t8< 0)) (cD 0 [(.int .i64 z5.1),(.int .i64 t8)]) (bR [(.int .i64 (wN z5.1)),(.int .i64 t8)])) (cD 0 [(.int .i64 z5.1),(.int .i64 z5.2.1)])) fun (z4:Int×Int×Unit)=>bY (.int .i64 z4.2.1))
theorem GV (a_0:Option Addr) (n_1:Int) (seq_2_p:Option Addr) (seq_2_n seq_2_c:Nat):Af bN Tryz.f21 [(.pointer a_0),(.int .i64 n_1),(.slice seq_2_p seq_2_n seq_2_c)] =Ee a_0 n_1 seq_2_p seq_2_n seq_2_c:=by kernel_rfl
noncomputable def FL (a_0:Option Addr) (n_1:Int):T:=aD #[(.slice none 0 0),(.slice none 0 0),(.slice none 0 0),(.int .i64 0),(.int .i64 0)] 77 fun r1=>cA [aB] (cond (decide (n_1< 0)) (bR [(.bool true)]) (AJ a_0 fun a3=>aL a3 6 fun t4=>bR [(.bool (decide (n_1≥ (t4.2.1:Int))))])) fun (z2:Bool×Unit)=>cond z2.1 (aX r1 0<|aX r1 1<|aX r1 2<|aU r1 3 0<|aU r1 4 0<|aA r1 0 fun res5=>aA r1 1 fun res6=>aA r1 2 fun res7=>aW r1 3 fun res8=>aW r1 4 fun res9=>bY (.agg #[(sv res5),(sv res6),(sv res7),(.int .i64 res8),(.int .i64 res9)])) (AJ a_0 fun a10=>aL a10 6 fun t11=>AJ t11.1 fun a12=>chk (0≤n_1∧n_1< (t11.2.1:Nat))<|aC a12 n_1 5 fun t13=>aM a12 n_1 5 1 fun t14=>aM a12 n_1 5 2 fun t15=>aV a12 n_1 5 3 fun t16=>aV a12 n_1 5 4 fun t17=>aJ r1 0 t13<|aJ r1 1 t14<|aJ r1 2 t15<|aU r1 3 t16<|aU r1 4 t17<|aA r1 0 fun res18=>aA r1 1 fun res19=>aA r1 2 fun res20=>aW r1 3 fun res21=>aW r1 4 fun res22=>bY (.agg #[(sv res18),(sv res19),(sv res20),(.int .i64 res21),(.int .i64 res22)]))
theorem HL (a_0:Option Addr) (n_1:Int):Af bN Tryz.f37 [(.pointer a_0),(.int .i64 n_1)] =FL a_0 n_1:=by kernel_rfl
noncomputable def Dz (a_0:Option Addr) (x_1:Int×Int×Unit):T:=aD #[(.int .i64 x_1.1),(.int .i64 x_1.2.1)] 57 fun r1=>AJ a_0 fun a2=>aL a2 2 fun t3=>aW r1 0 fun t4=>AJ t3.1 fun a5=>chk (0≤t4∧t4< (t3.2.1:Nat))<|aM a5 t4 3 1 fun t6=>aW r1 1 fun t7=>cond (decide (t7≥ (t6.2.1:Int))) (bY (.int .i64 (-1:Int))) (aW r1 1 fun t8=>AJ t6.1 fun a9=>chk (0≤t8∧t8< (t6.2.1:Nat))<|aN a9 t8 1 fun t10=>bY (.int .i64 t10))
theorem Fj (a_0:Option Addr) (x_1:Int×Int×Unit):Af bN Tryz.f47 [(.pointer a_0),(.agg #[(.int .i64 x_1.1),(.int .i64 x_1.2.1)])] =Dz a_0 x_1:=by kernel_rfl
noncomputable def Db (a_0:Option Addr) (kernel_1_p:Option Addr) (kernel_1_n kernel_1_c:Nat):T:=bW 38 [(.slice kernel_1_p kernel_1_n kernel_1_c)] (.one aS) fun (t1:Slc)=>T.new (.map #[] 0) fun r2=>bZ 0 [aI,aS] (cB [aI,aS] [(.int .i64 0),(sv t1)] fun (z4:Int×Slc×Unit)=>cond (decide (z4.1< (z4.2.1.2.1:Int))) (bZ 1 [aS] (AJ z4.2.1.1 fun a6=>chk (0≤z4.1∧z4.1< (z4.2.1.2.1:Nat))<|aN a6 z4.1 2 fun t7=>aV a6 z4.1 2 1 fun t8=>bW 47 [(.pointer a_0),(.agg #[(.int .i64 t7),(.int .i64 t8)])] (.one aI) fun (t9:Int)=>cA [aB] (cond (decide (t9< 0)) (bR [(.bool true)]) (AJ a_0 fun a11=>M6 a11 fun t12 t13 t14 t15 t16 t17=>bW 48 [(aH t12 t13 t14 t15 t16 t17),(.int .i64 t9)] (.one aB) fun (t18:Bool)=>cond t18 (bR [(.bool true)]) (cE (Instr.lookup 109 (.map (some r2)) (.int .i64 t9) false) (.one aB) fun (t19:Bool)=>bR [(.bool t19)]))) fun (z10:Bool×Unit)=>cond z10.1 (cD 1 [(sv z4.2.1)]) (cE (Sem.bind (gG 109 (.map (some r2)) (.int .i64 t9) (.bool true)) fun _=>.pure undef) (.tuple []) fun (u20:Unit)=>AJ a_0 fun a21=>aL a21 2 fun t22=>bZ 2 [aI,aS] (cB [aI,aS] [(.int .i64 0),(sv z4.2.1)] fun (z24:Int×Slc×Unit)=>cond (decide (z24.1< (t22.2.1:Int))) (AJ t22.1 fun a25=>chk (0≤z24.1∧z24.1< (t22.2.1:Nat))<|aN a25 z24.1 3 fun t26=>aM a25 z24.1 3 1 fun t27=>aV a25 z24.1 3 2 fun t28=>aD #[(.int .i64 0),(.slice none 0 0),(.int .i64 0)] 105 fun r29=>aU r29 0 t26<|aJ r29 1 t27<|aU r29 2 t28<|aD #[(.int .i64 0),(.int .i64 0)] 57 fun r30=>aU r30 0 z24.1<|aU r30 1 0<|cA [aB] (aW r29 0 fun t32=>cond (t32==t9) (aW r30 0 fun t33=>aW r30 1 fun t34=>bW 49 [(sv z24.2.1),(.agg #[(.int .i64 t33),(.int .i64 t34)])] (.one aB) fun (t35:Bool)=>bR [(.bool (!t35))]) (bR [(.bool false)])) fun (z31:Bool×Unit)=>cA [aS] (cond z31.1 (aW r30 0 fun t37=>aW r30 1 fun t38=>aD #[(.int .i64 t37),(.int .i64 t38)] 57 fun r39=>cE (bP #[46,46] 46 #[(sv z24.2.1),(.slice (some ⟨r39,0,none⟩) 1 1)]) (.one aS) fun (t40:Slc)=>bR [(sv t40)]) (bR [(sv z24.2.1)])) fun (z36:Slc×Unit)=>bR [(.int .i64 (wN z24.1)),(sv z36.1)]) (cD 2 [(.int .i64 z24.1),(sv z24.2.1)])) fun (z23:Int×Slc×Unit)=>bR [(sv z23.2.1)])) fun (z5:Slc×Unit)=>bR [(.int .i64 (wN z4.1)),(sv z5.1)]) (cD 0 [(.int .i64 z4.1),(sv z4.2.1)])) fun (z3:Int×Slc×Unit)=>bW 50 [(sv z3.2.1),(.func (.func 51) #[] #[])] (.tuple []) fun (t41:Unit)=>bY (sv z3.2.1)
theorem FM (a_0:Option Addr) (kernel_1_p:Option Addr) (kernel_1_n kernel_1_c:Nat):Af bN Tryz.f28 [(.pointer a_0),(.slice kernel_1_p kernel_1_n kernel_1_c)] =Db a_0 kernel_1_p kernel_1_n kernel_1_c:=by kernel_rfl
noncomputable def Dc (a_0:Option Addr) (items_1_p:Option Addr) (items_1_n items_1_c:Nat):T:=bZ 0 [aI,aS] (cB [aI,aS] [(.int .i64 0),(.slice none 0 0)] fun (z2:Int×Slc×Unit)=>cond (decide (z2.1< ((items_1_n:Nat):Int))) (AJ items_1_p fun a3=>chk (0≤z2.1∧z2.1< (items_1_n:Nat))<|aN a3 z2.1 2 fun t4=>aV a3 z2.1 2 1 fun t5=>aD #[(.int .i64 0),(.int .i64 0)] 57 fun r6=>aU r6 0 t4<|aU r6 1 t5<|aW r6 0 fun t7=>aW r6 1 fun t8=>bW 47 [(.pointer a_0),(.agg #[(.int .i64 t7),(.int .i64 t8)])] (.one aI) fun (t9:Int)=>cA [aS] (cond (decide (t9≥ 0)) (aD #[(.int .i64 t9)] 3 fun r11=>cE (bP #[26,26] 26 #[(sv z2.2.1),(.slice (some ⟨r11,0,none⟩) 1 1)]) (.one aS) fun (t12:Slc)=>bR [(sv t12)]) (bR [(sv z2.2.1)])) fun (z10:Slc×Unit)=>bR [(.int .i64 (wN z2.1)),(sv z10.1)]) (cD 0 [(.int .i64 z2.1),(sv z2.2.1)])) fun (z1:Int×Slc×Unit)=>bW 53 [(sv z1.2.1)] (.tuple []) fun (t13:Unit)=>bW 54 [(sv z1.2.1)] (.one aS) fun (t14:Slc)=>bY (sv t14)
theorem FN (a_0:Option Addr) (items_1_p:Option Addr) (items_1_n items_1_c:Nat):Af bN Tryz.f30 [(.pointer a_0),(.slice items_1_p items_1_n items_1_c)] =Dc a_0 items_1_p items_1_n items_1_c:=by kernel_rfl
noncomputable def Ef (a_0:Option Addr) (items_1_p:Option Addr) (items_1_n items_1_c:Nat) (sym_2:Int):T:=bZ 0 [aI,aS] (cB [aI,aS] [(.int .i64 0),(.slice none 0 0)] fun (z2:Int×Slc×Unit)=>cond (decide (z2.1< ((items_1_n:Nat):Int))) (AJ items_1_p fun a3=>chk (0≤z2.1∧z2.1< (items_1_n:Nat))<|aN a3 z2.1 2 fun t4=>aV a3 z2.1 2 1 fun t5=>aD #[(.int .i64 0),(.int .i64 0)] 57 fun r6=>aU r6 0 t4<|aU r6 1 t5<|aW r6 0 fun t7=>aW r6 1 fun t8=>bW 47 [(.pointer a_0),(.agg #[(.int .i64 t7),(.int .i64 t8)])] (.one aI) fun (t9:Int)=>cA [aS] (cond (t9==sym_2) (aW r6 0 fun t11=>aW r6 1 fun t12=>aD #[(.int .i64 t11),(.int .i64 (wN t12))] 57 fun r13=>cE (bP #[46,46] 46 #[(sv z2.2.1),(.slice (some ⟨r13,0,none⟩) 1 1)]) (.one aS) fun (t14:Slc)=>bR [(sv t14)]) (bR [(sv z2.2.1)])) fun (z10:Slc×Unit)=>bR [(.int .i64 (wN z2.1)),(sv z10.1)]) (cD 0 [(.int .i64 z2.1),(sv z2.2.1)])) fun (z1:Int×Slc×Unit)=>bY (sv z1.2.1)
theorem GW (a_0:Option Addr) (items_1_p:Option Addr) (items_1_n items_1_c:Nat) (sym_2:Int):Af bN Tryz.f31 [(.pointer a_0),(.slice items_1_p items_1_n items_1_c),(.int .i64 sym_2)] =Ef a_0 items_1_p items_1_n items_1_c sym_2:=by kernel_rfl
noncomputable def B6 (s_0_p:Option Addr) (s_0_n s_0_c:Nat):T:=cond (cS s_0_p) (bY (.slice none 0 0)) (aD #[] 57 fun r1=>cE (bP #[46,46] 46 #[(.slice (some ⟨r1,0,none⟩) 0 0),(.slice s_0_p s_0_n s_0_c)]) (.one aS) fun (t2:Slc)=>bY (sv t2))
theorem DB (s_0_p:Option Addr) (s_0_n s_0_c:Nat):Af bN Tryz.f38 [(.slice s_0_p s_0_n s_0_c)] =B6 s_0_p s_0_n s_0_c:=by kernel_rfl
noncomputable def B7 (s_0_p:Option Addr) (s_0_n s_0_c:Nat):T:=cond (cS s_0_p) (bY (.slice none 0 0)) (aD #[] 84 fun r1=>cE (bP #[50,50] 50 #[(.slice (some ⟨r1,0,none⟩) 0 0),(.slice s_0_p s_0_n s_0_c)]) (.one aS) fun (t2:Slc)=>bY (sv t2))
theorem DC (s_0_p:Option Addr) (s_0_n s_0_c:Nat):Af bN Tryz.f39 [(.slice s_0_p s_0_n s_0_c)] =B7 s_0_p s_0_n s_0_c:=by kernel_rfl
noncomputable def E5 (g_0:Slc×Slc×Slc×ByteArray×Slc×Unit):T:=aD #[(sv g_0.1),(sv g_0.2.1),(sv g_0.2.2.1),(.string g_0.2.2.2.1),(sv g_0.2.2.2.2.1)] 65 fun r1=>aD #[(.slice none 0 0),(.slice none 0 0),(.slice none 0 0),(.slice none 0 0),(.slice none 0 0),(.slice none 0 0)] 32 fun r2=>aA r1 0 fun t3=>aA r1 1 fun t4=>aA r1 2 fun t5=>aY r1 3 fun t6=>aA r1 4 fun t7=>bW 41 [(.agg #[(sv t3),(sv t4),(sv t5),(.string t6),(sv t7)])] (.one aB) fun (t8:Bool)=>cond (!t8) (aX r2 0<|aX r2 1<|aX r2 2<|aX r2 3<|aX r2 4<|aX r2 5<|L6 r2 fun res9 res10 res11 res12 res13 res14=>bY (.tuple #[(aH res9 res10 res11 res12 res13 res14),(.int .i64 1),(.string {data:=#[]})])) (aD #[(.string {data:=#[36,101,110,100]})] 9 fun r15=>aD #[(.int .i64 0)] 3 fun r16=>aD #[(.int .i64 0)] 3 fun r17=>aD #[(.string {data:=#[]})] 9 fun r18=>aD #[(.slice none 0 0),(.slice none 0 0),(.slice none 0 0),(.slice none 0 0),(.slice none 0 0),(.slice none 0 0)] 32 fun r19=>aO r19 0 (.slice (some ⟨r15,0,none⟩) 1 1)<|aX r19 1<|aX r19 2<|aO r19 3 (.slice (some ⟨r16,0,none⟩) 1 1)<|aO r19 4 (.slice (some ⟨r17,0,none⟩) 1 1)<|aO r19 5 (.slice (some ⟨r18,0,none⟩) 1 1)<|bZ 0 [aI] (cB [aI] [(.int .i64 0)] fun (z21:Int×Unit)=>aA r1 4 fun t22=>cond (decide (z21.1< (t22.2.1:Int))) (aA r19 1 fun t23=>aA r1 4 fun t24=>AJ t24.1 fun a25=>chk (0≤z21.1∧z21.1< (t24.2.1:Nat))<|aZ a25 z21.1 4 fun t26=>bW 42 [(sv t23),(.string t26)] (.one aI) fun (t27:Int)=>cA [] (cond (decide (t27< 0)) (aA r19 1 fun t29=>aA r1 4 fun t30=>AJ t30.1 fun a31=>chk (0≤z21.1∧z21.1< (t30.2.1:Nat))<|aZ a31 z21.1 4 fun t32=>aD #[(.string t32)] 9 fun r33=>bB r19 1 t29<|cE (bP #[29,29] 29 #[(sv t29),(.slice (some ⟨r33,0,none⟩) 1 1)]) (.one aS) fun (t34:Slc)=>aJ r19 1 t34<|bR []) (bR [])) fun (z28:Unit)=>aA r19 5 fun t35=>aA r1 4 fun t36=>AJ t36.1 fun a37=>chk (0≤z21.1∧z21.1< (t36.2.1:Nat))<|bA a37 z21.1 4 3 fun t38=>aD #[(.string t38)] 9 fun r39=>bB r19 5 t35<|cE (bP #[29,29] 29 #[(sv t35),(.slice (some ⟨r39,0,none⟩) 1 1)]) (.one aS) fun (t40:Slc)=>aJ r19 5 t40<|bR [(.int .i64 (wN z21.1))]) (cD 0 [(.int .i64 z21.1)])) fun (z20:Int×Unit)=>bZ 2 [aI,(.atom .string),aI] (cB [aI,(.atom .string),aI] [(.int .i64 0),(.string {data:=#[]}),(.int .i64 0)] fun (z42:Int×ByteArray×Int×Unit)=>aA r1 0 fun t43=>cond (decide (z42.1< (t43.2.1:Int))) (aA r19 1 fun t44=>aA r1 0 fun t45=>AJ t45.1 fun a46=>chk (0≤z42.1∧z42.1< (t45.2.1:Nat))<|aZ a46 z42.1 4 fun t47=>bW 42 [(sv t44),(.string t47)] (.one aI) fun (t48:Int)=>cond (decide (t48≥ 0)) (aA r1 0 fun t49=>AJ t49.1 fun a50=>chk (0≤z42.1∧z42.1< (t49.2.1:Nat))<|aZ a50 z42.1 4 fun t51=>aX r2 0<|aX r2 1<|aX r2 2<|aX r2 3<|aX r2 4<|aX r2 5<|cH (a50.add (bO z42.1 *4)) (.string t51)<|bB r1 0 t49<|L6 r2 fun res52 res53 res54 res55 res56 res57=>bY (.tuple #[(aH res52 res53 res54 res55 res56 res57),(.int .i64 15),(.string t51)])) (aA r19 0 fun t58=>aA r1 0 fun t59=>AJ t59.1 fun a60=>chk (0≤z42.1∧z42.1< (t59.2.1:Nat))<|aZ a60 z42.1 4 fun t61=>aD #[(.string t61)] 9 fun r62=>bB r19 0 t58<|cE (bP #[29,29] 29 #[(sv t58),(.slice (some ⟨r62,0,none⟩) 1 1)]) (.one aS) fun (t63:Slc)=>aJ r19 0 t63<|aA r19 3 fun t64=>aA r1 0 fun t65=>aA r1 1 fun t66=>aA r1 2 fun t67=>aY r1 3 fun t68=>aA r1 4 fun t69=>aA r1 0 fun t70=>AJ t70.1 fun a71=>chk (0≤z42.1∧z42.1< (t70.2.1:Nat))<|aZ a71 z42.1 4 fun t72=>bW 43 [(.agg #[(sv t65),(sv t66),(sv t67),(.string t68),(sv t69)]),(.string t72)] (.one aI) fun (t73:Int)=>bB r19 3 t64<|aD #[(.int .i64 t73)] 3 fun r74=>bB r19 3 t64<|cE (bP #[26,26] 26 #[(sv t64),(.slice (some ⟨r74,0,none⟩) 1 1)]) (.one aS) fun (t75:Slc)=>aJ r19 3 t75<|bR [(.int .i64 (wN z42.1)),(.string z42.2.1),(.int .i64 z42.2.2.1)])) (cD 2 [(.int .i64 z42.1),(.string z42.2.1),(.int .i64 z42.2.2.1)])) fun (z41:Int×ByteArray×Int×Unit)=>bZ 4 [aI] (cB [aI] [(.int .i64 0)] fun (z77:Int×Unit)=>aA r1 2 fun t78=>cond (decide (z77.1< (t78.2.1:Int))) (aA r19 4 fun t79=>aA r1 2 fun t80=>AJ t80.1 fun a81=>chk (0≤z77.1∧z77.1< (t80.2.1:Nat))<|aN a81 z77.1 2 fun t82=>aD #[(.int .i64 t82)] 3 fun r83=>bB r19 4 t79<|cE (bP #[26,26] 26 #[(sv t79),(.slice (some ⟨r83,0,none⟩) 1 1)]) (.one aS) fun (t84:Slc)=>aJ r19 4 t84<|bR [(.int .i64 (wN z77.1))]) (cD 4 [(.int .i64 z77.1)])) fun (z76:Int×Unit)=>aA r19 0 fun t85=>aA r19 1 fun t86=>L6 r19 fun t87 t88 t89 t90 t91 t92=>aY r1 3 fun t93=>bW 44 [(aH t87 t88 t89 t90 t91 t92),(.string t93)] (.one aI) fun (t94:Int)=>aD #[(.int .i64 t94)] 3 fun r95=>aD #[(.int .i64 (bM .i64 ((t85.2.1:Int)+(t86.2.1:Int)))),(.slice (some ⟨r95,0,none⟩) 1 1),(.int .i64 0)] 105 fun r96=>aO r19 2 (.slice (some ⟨r96,0,none⟩) 1 1)<|bZ 6 [aI,(.atom .string),aI] (cB [aI,(.atom .string),aI] [(.int .i64 0),(.string z41.2.1),(.int .i64 z41.2.2.1)] fun (z98:Int×ByteArray×Int×Unit)=>aA r1 4 fun t99=>cond (decide (z98.1< (t99.2.1:Int))) (aA r1 4 fun t100=>AJ t100.1 fun a101=>chk (0≤z98.1∧z98.1< (t100.2.1:Nat))<|aZ a101 z98.1 4 fun t102=>aM a101 z98.1 4 1 fun t103=>bA a101 z98.1 4 2 fun t104=>bA a101 z98.1 4 3 fun t105=>aD #[(.string {data:=#[]}),(.slice none 0 0),(.string {data:=#[]}),(.string {data:=#[]})] 95 fun r106=>aO r106 0 (.string t102)<|aJ r106 1 t103<|aO r106 2 (.string t104)<|aO r106 3 (.string t105)<|L6 r19 fun t107 t108 t109 t110 t111 t112=>aY r106 0 fun t113=>bW 44 [(aH t107 t108 t109 t110 t111 t112),(.string t113)] (.one aI) fun (t114:Int)=>aD #[(.int .i64 0),(.slice none 0 0),(.int .i64 0)] 105 fun r115=>aU r115 0 t114<|aX r115 1<|aU r115 2 0<|bZ 8 [aI,(.atom .string),aI] (cB [aI,(.atom .string),aI] [(.int .i64 0),(.string z98.2.1),(.int .i64 z98.2.2.1)] fun (z117:Int×ByteArray×Int×Unit)=>aA r106 1 fun t118=>cond (decide (z117.1< (t118.2.1:Int))) (L6 r19 fun t119 t120 t121 t122 t123 t124=>aA r106 1 fun t125=>AJ t125.1 fun a126=>chk (0≤z117.1∧z117.1< (t125.2.1:Nat))<|aZ a126 z117.1 1 fun t127=>bW 44 [(aH t119 t120 t121 t122 t123 t124),(.string t127)] (.one aI) fun (t128:Int)=>cond (decide (t128< 0)) (aA r106 1 fun t129=>AJ t129.1 fun a130=>chk (0≤z117.1∧z117.1< (t129.2.1:Nat))<|aZ a130 z117.1 1 fun t131=>aX r2 0<|aX r2 1<|aX r2 2<|aX r2 3<|aX r2 4<|aX r2 5<|cH (a130.add (bO z117.1 *1)) (.string t131)<|bB r106 1 t129<|L6 r2 fun res132 res133 res134 res135 res136 res137=>bY (.tuple #[(aH res132 res133 res134 res135 res136 res137),(.int .i64 16),(.string t131)])) (aA r115 1 fun t138=>aD #[(.int .i64 t128)] 3 fun r139=>cE (bP #[26,26] 26 #[(sv t138),(.slice (some ⟨r139,0,none⟩) 1 1)]) (.one aS) fun (t140:Slc)=>aJ r115 1 t140<|aA r19 0 fun t141=>cA [] (cond (decide (t128< (t141.2.1:Int))) (aA r19 3 fun t143=>AJ t143.1 fun a144=>chk (0≤t128∧t128< (t143.2.1:Nat))<|aN a144 t128 1 fun t145=>aU r115 2 t145<|bR []) (bR [])) fun (z142:Unit)=>bR [(.int .i64 (wN z117.1)),(.string z117.2.1),(.int .i64 z117.2.2.1)])) (cD 8 [(.int .i64 z117.1),(.string z117.2.1),(.int .i64 z117.2.2.1)])) fun (z116:Int×ByteArray×Int×Unit)=>aY r106 2 fun t146=>cA [(.atom .string),aI] (cond (!(bU t146==bU {data:=#[]})) (aA r1 0 fun t148=>aA r1 1 fun t149=>aA r1 2 fun t150=>aY r1 3 fun t151=>aA r1 4 fun t152=>aY r106 2 fun t153=>bW 43 [(.agg #[(sv t148),(sv t149),(sv t150),(.string t151),(sv t152)]),(.string t153)] (.one aI) fun (t154:Int)=>aU r115 2 t154<|aW r115 2 fun t155=>cond (t155==(0:Int)) (aY r106 2 fun t156=>aX r2 0<|aX r2 1<|aX r2 2<|aX r2 3<|aX r2 4<|aX r2 5<|aQ r106 2 (.string t156)<|L6 r2 fun res157 res158 res159 res160 res161 res162=>bY (.tuple #[(aH res157 res158 res159 res160 res161 res162),(.int .i64 16),(.string t156)])) (bR [(.string z116.2.1),(.int .i64 z116.2.2.1)])) (bR [(.string z116.2.1),(.int .i64 z116.2.2.1)])) fun (z147:ByteArray×Int×Unit)=>aA r19 2 fun t163=>aW r115 0 fun t164=>aA r115 1 fun t165=>aW r115 2 fun t166=>aD #[(.int .i64 t164),(sv t165),(.int .i64 t166)] 105 fun r167=>cE (bP #[30,30] 30 #[(sv t163),(.slice (some ⟨r167,0,none⟩) 1 1)]) (.one aS) fun (t168:Slc)=>aJ r19 2 t168<|bR [(.int .i64 (wN z98.1)),(.string z147.1),(.int .i64 z147.2.1)]) (cD 6 [(.int .i64 z98.1),(.string z98.2.1),(.int .i64 z98.2.2.1)])) fun (z97:Int×ByteArray×Int×Unit)=>aA r19 1 fun t169=>aY r1 3 fun t170=>bW 42 [(sv t169),(.string t170)] (.one aI) fun (t171:Int)=>cond (decide (t171< 0)) (aY r1 3 fun t172=>aX r2 0<|aX r2 1<|aX r2 2<|aX r2 3<|aX r2 4<|aX r2 5<|aQ r1 3 (.string t172)<|L6 r2 fun res173 res174 res175 res176 res177 res178=>bY (.tuple #[(aH res173 res174 res175 res176 res177 res178),(.int .i64 16),(.string t172)])) (L6 r19 fun t179 t180 t181 t182 t183 t184=>aJ r2 0 t179<|aJ r2 1 t180<|aJ r2 2 t181<|aJ r2 3 t182<|aJ r2 4 t183<|aJ r2 5 t184<|L6 r2 fun res185 res186 res187 res188 res189 res190=>bY (.tuple #[(aH res185 res186 res187 res188 res189 res190),(.int .i64 0),(.string {data:=#[]})])))
theorem G2 (g_0:Slc×Slc×Slc×ByteArray×Slc×Unit):Af bN Tryz.f23 [(.agg #[(sv g_0.1),(sv g_0.2.1),(sv g_0.2.2.1),(.string g_0.2.2.2.1),(sv g_0.2.2.2.2.1)])] =E5 g_0:=by kernel_rfl
noncomputable def CN (s_0:Int×Int×Slc×Slc×Slc×Slc×Slc×Unit):T:=aD #[(.int .u8 s_0.1),(.int .u8 s_0.2.1),(sv s_0.2.2.1),(sv s_0.2.2.2.1),(sv s_0.2.2.2.2.1),(sv s_0.2.2.2.2.2.1),(sv s_0.2.2.2.2.2.2.1)] 25 fun r1=>aD #[(.slice none 0 0),(.slice none 0 0),(.slice none 0 0),(.string {data:=#[]}),(.slice none 0 0)] 65 fun r2=>aF r1 0 fun t3=>chk ((5:Int)≠0)<|aF r1 1 fun t4=>chk ((4:Int)≠0)<|aD #[(.slice none 0 0),(.slice none 0 0),(.slice none 0 0),(.string {data:=#[]}),(.slice none 0 0)] 65 fun r5=>aX r5 0<|aX r5 1<|aX r5 2<|aO r5 3 (.string {data:=#[83]})<|aX r5 4<|bZ 0 [aI] (cB [aI] [(.int .i64 0)] fun (z7:Int×Unit)=>aA r1 5 fun t8=>cond (decide (z7.1< (t8.2.1:Int))) (aA r5 2 fun t9=>aA r1 5 fun t10=>AJ t10.1 fun a11=>chk (0≤z7.1∧z7.1< (t10.2.1:Nat))<|bE a11 z7.1 1 fun t12=>chk ((3:Int)≠0)<|chk (0≤z7.1∧z7.1≤(wN z7.1)∧(wN z7.1) ≤(bX {data:=#[112,113,114,115,116]} :Nat))<|aD #[(.string (cC {data:=#[112,113,114,115,116]} (bO z7.1) (bO (wN z7.1))))] 9 fun r13=>cH (a11.add (bO z7.1 *1)) (.int .u8 t12)<|bB r1 5 t10<|bB r5 2 t9<|aD #[(.int .i64 (bM .i64 ((bM .i64 (bT t12 3))+(1:Int)))),(.slice (some ⟨r13,0,none⟩) 1 1)] 102 fun r14=>bB r5 2 t9<|cE (bP #[62,62] 62 #[(sv t9),(.slice (some ⟨r14,0,none⟩) 1 1)]) (.one aS) fun (t15:Slc)=>aJ r5 2 t15<|bR [(.int .i64 (wN z7.1))]) (cD 0 [(.int .i64 z7.1)])) fun (z6:Int×Unit)=>bZ 2 [aI] (cB [aI] [(.int .i64 0)] fun (z17:Int×Unit)=>cond (decide (z17.1< (bM .i64 ((bM .i64 (bT t3 5))+(1:Int))))) (chk (0≤z17.1∧z17.1≤(wN z17.1)∧(wN z17.1) ≤(bX {data:=#[97,98,99,100,101]} :Nat))<|aA r5 0 fun t18=>aD #[(.string (cC {data:=#[97,98,99,100,101]} (bO z17.1) (bO (wN z17.1)))),(.string (cC {data:=#[97,98,99,100,101]} (bO z17.1) (bO (wN z17.1)))),(.string {data:=#[]}),(.bool false)] 99 fun r19=>cE (bP #[60,60] 60 #[(sv t18),(.slice (some ⟨r19,0,none⟩) 1 1)]) (.one aS) fun (t20:Slc)=>aJ r5 0 t20<|aA r1 6 fun t21=>cA [] (cond (decide (z17.1< (t21.2.1:Int))) (aA r1 6 fun t23=>AJ t23.1 fun a24=>chk (0≤z17.1∧z17.1< (t23.2.1:Nat))<|bE a24 z17.1 1 fun t25=>aA r5 2 fun t26=>chk ((bM .i64 ((t26.2.1:Int)+(1:Int)))≠0)<|cA [] (cond (decide ((bT (bM .i64 t25) (bM .i64 ((t26.2.1:Int)+(1:Int)))) >(0:Int))) (aA r5 2 fun t28=>aA r5 2 fun t29=>AJ t29.1 fun a30=>chk (0≤(bM .i64 ((bT (bM .i64 t25) (bM .i64 ((t26.2.1:Int)+(1:Int)))) - 1))∧(bM .i64 ((bT (bM .i64 t25) (bM .i64 ((t26.2.1:Int)+(1:Int)))) - 1)) < (t29.2.1:Nat))<|aM a30 (bM .i64 ((bT (bM .i64 t25) (bM .i64 ((t26.2.1:Int)+(1:Int)))) - 1)) 2 1 fun t31=>gJ (aD #[] 9 fun r32=>cH ((a30.add (bO (bM .i64 ((bT (bM .i64 t25) (bM .i64 ((t26.2.1:Int)+(1:Int)))) - 1)) *2)).add 1) (sv t31)<|bB r5 2 t29<|bB r5 2 t28<|gJ (cE (bP #[29,29] 29 #[(.slice (some ⟨r32,0,none⟩) 0 0),(sv t31)]) (.one aS) fun (t33:Slc)=>bB r5 2 t28<|aD #[(.string (cC {data:=#[97,98,99,100,101]} (bO z17.1) (bO (wN z17.1))))] 9 fun r34=>bB r5 2 t28<|cE (bP #[29,29] 29 #[(sv t33),(.slice (some ⟨r34,0,none⟩) 1 1)]) (.one aS) fun (t35:Slc)=>bB r5 2 t28<|AJ t28.1 fun a36=>chk (0≤(bM .i64 ((bT (bM .i64 t25) (bM .i64 ((t26.2.1:Int)+(1:Int)))) - 1))∧(bM .i64 ((bT (bM .i64 t25) (bM .i64 ((t26.2.1:Int)+(1:Int)))) - 1)) < (t28.2.1:Nat))<|cL ((a36.add (bO (bM .i64 ((bT (bM .i64 t25) (bM .i64 ((t26.2.1:Int)+(1:Int)))) - 1)) *2)).add 1) (sv t35)<|bR []) (aD #[(.string (cC {data:=#[97,98,99,100,101]} (bO z17.1) (bO (wN z17.1))))] 9 fun r37=>cH ((a30.add (bO (bM .i64 ((bT (bM .i64 t25) (bM .i64 ((t26.2.1:Int)+(1:Int)))) - 1)) *2)).add 1) (sv t31)<|bB r5 2 t29<|bB r5 2 t28<|cE (bP #[29,29] 29 #[(.slice (some ⟨r32,0,none⟩) 0 0),(sv t31)]) (.one aS) fun (t38:Slc)=>bB r5 2 t28<|cE (bP #[29,29] 29 #[(sv t38),(.slice (some ⟨r37,0,none⟩) 1 1)]) (.one aS) fun (t39:Slc)=>bB r5 2 t28<|AJ t28.1 fun a40=>chk (0≤(bM .i64 ((bT (bM .i64 t25) (bM .i64 ((t26.2.1:Int)+(1:Int)))) - 1))∧(bM .i64 ((bT (bM .i64 t25) (bM .i64 ((t26.2.1:Int)+(1:Int)))) - 1)) < (t28.2.1:Nat))<|cL ((a40.add (bO (bM .i64 ((bT (bM .i64 t25) (bM .i64 ((t26.2.1:Int)+(1:Int)))) - 1)) *2)).add 1) (sv t39)<|bR [])) (aD #[(.string (cC {data:=#[97,98,99,100,101]} (bO z17.1) (bO (wN z17.1))))] 9 fun r41=>cH ((a30.add (bO (bM .i64 ((bT (bM .i64 t25) (bM .i64 ((t26.2.1:Int)+(1:Int)))) - 1)) *2)).add 1) (sv t31)<|bB r5 2 t29<|bB r5 2 t28<|aD #[] 9 fun r42=>cH ((a30.add (bO (bM .i64 ((bT (bM .i64 t25) (bM .i64 ((t26.2.1:Int)+(1:Int)))) - 1)) *2)).add 1) (sv t31)<|bB r5 2 t29<|bB r5 2 t28<|cE (bP #[29,29] 29 #[(.slice (some ⟨r42,0,none⟩) 0 0),(sv t31)]) (.one aS) fun (t43:Slc)=>bB r5 2 t28<|cE (bP #[29,29] 29 #[(sv t43),(.slice (some ⟨r41,0,none⟩) 1 1)]) (.one aS) fun (t44:Slc)=>bB r5 2 t28<|AJ t28.1 fun a45=>chk (0≤(bM .i64 ((bT (bM .i64 t25) (bM .i64 ((t26.2.1:Int)+(1:Int)))) - 1))∧(bM .i64 ((bT (bM .i64 t25) (bM .i64 ((t26.2.1:Int)+(1:Int)))) - 1)) < (t28.2.1:Nat))<|cL ((a45.add (bO (bM .i64 ((bT (bM .i64 t25) (bM .i64 ((t26.2.1:Int)+(1:Int)))) - 1)) *2)).add 1) (sv t44)<|bR [])) (bR [])) fun (z27:Unit)=>bR []) (bR [])) fun (z22:Unit)=>bR [(.int .i64 (wN z17.1))]) (cD 2 [(.int .i64 z17.1)])) fun (z16:Int×Unit)=>bZ 4 [aI] (cB [aI] [(.int .i64 0)] fun (z47:Int×Unit)=>aA r1 2 fun t48=>cond (decide (z47.1< (t48.2.1:Int))) (aA r1 2 fun t49=>AJ t49.1 fun a50=>chk (0≤z47.1∧z47.1< (t49.2.1:Nat))<|bE a50 z47.1 1 fun t51=>chk ((bM .i64 ((bM .i64 (bT t4 4))+(1:Int)))≠0)<|aA r1 2 fun t52=>AJ t52.1 fun a53=>chk (0≤z47.1∧z47.1< (t52.2.1:Nat))<|bE a53 z47.1 1 fun t54=>chk ((bM .i64 ((bM .i64 (bT t4 4))+(1:Int)))≠0)<|chk (0≤(bT (bM .i64 t51) (bM .i64 ((bM .i64 (bT t4 4))+(1:Int))))∧(bT (bM .i64 t51) (bM .i64 ((bM .i64 (bT t4 4))+(1:Int)))) ≤(bM .i64 ((bT (bM .i64 t54) (bM .i64 ((bM .i64 (bT t4 4))+(1:Int))))+(1:Int)))∧(bM .i64 ((bT (bM .i64 t54) (bM .i64 ((bM .i64 (bT t4 4))+(1:Int))))+(1:Int))) ≤(bX {data:=#[83,84,85,86]} :Nat))<|aD #[(.string {data:=#[]}),(.slice none 0 0),(.string {data:=#[]}),(.string {data:=#[]})] 95 fun r55=>cH (a53.add (bO z47.1 *1)) (.int .u8 t54)<|bB r1 2 t52<|cH (a50.add (bO z47.1 *1)) (.int .u8 t51)<|bB r1 2 t49<|aO r55 0 (.string (cC {data:=#[83,84,85,86]} (bO (bT (bM .i64 t51) (bM .i64 ((bM .i64 (bT t4 4))+(1:Int))))) (bO (bM .i64 ((bT (bM .i64 t54) (bM .i64 ((bM .i64 (bT t4 4))+(1:Int))))+(1:Int))))))<|aX r55 1<|aO r55 2 (.string {data:=#[]})<|aO r55 3 (.string {data:=#[]})<|aA r1 3 fun t56=>cA [] (cond (decide (z47.1< (t56.2.1:Int))) (bZ 6 [aI] (cB [aI] [(.int .i64 0)] fun (z59:Int×Unit)=>aA r1 3 fun t60=>AJ t60.1 fun a61=>chk (0≤z47.1∧z47.1< (t60.2.1:Nat))<|aC a61 z47.1 1 fun t62=>cond (decide (z59.1< (t62.2.1:Int))) (aA r1 3 fun t63=>AJ t63.1 fun a64=>chk (0≤z47.1∧z47.1< (t63.2.1:Nat))<|aC a64 z47.1 1 fun t65=>AJ t65.1 fun a66=>chk (0≤z59.1∧z59.1< (t65.2.1:Nat))<|bE a66 z59.1 1 fun t67=>chk ((bM .i64 ((bM .i64 ((bM .i64 (bT t3 5))+(1:Int)))+(bM .i64 ((bM .i64 (bT t4 4))+(1:Int)))))≠0)<|chk ((5:Int)≠0)<|chk ((5:Int)≠0)<|chk (0≤(bT (bT (bM .i64 t67) (bM .i64 ((bM .i64 ((bM .i64 (bT t3 5))+(1:Int)))+(bM .i64 ((bM .i64 (bT t4 4))+(1:Int)))))) 5)∧(bT (bT (bM .i64 t67) (bM .i64 ((bM .i64 ((bM .i64 (bT t3 5))+(1:Int)))+(bM .i64 ((bM .i64 (bT t4 4))+(1:Int)))))) 5) ≤(bM .i64 ((bT (bT (bM .i64 t67) (bM .i64 ((bM .i64 ((bM .i64 (bT t3 5))+(1:Int)))+(bM .i64 ((bM .i64 (bT t4 4))+(1:Int)))))) 5)+(1:Int)))∧(bM .i64 ((bT (bT (bM .i64 t67) (bM .i64 ((bM .i64 ((bM .i64 (bT t3 5))+(1:Int)))+(bM .i64 ((bM .i64 (bT t4 4))+(1:Int)))))) 5)+(1:Int))) ≤(bX {data:=#[97,98,99,100,101]} :Nat))<|cA [(.atom .string)] (cond (decide ((bT (bM .i64 t67) (bM .i64 ((bM .i64 ((bM .i64 (bT t3 5))+(1:Int)))+(bM .i64 ((bM .i64 (bT t4 4))+(1:Int)))))) ≥ (bM .i64 ((bM .i64 (bT t3 5))+(1:Int))))) (chk (0≤(bM .i64 ((bT (bM .i64 t67) (bM .i64 ((bM .i64 ((bM .i64 (bT t3 5))+(1:Int)))+(bM .i64 ((bM .i64 (bT t4 4))+(1:Int)))))) - (bM .i64 ((bM .i64 (bT t3 5))+(1:Int)))))∧(bM .i64 ((bT (bM .i64 t67) (bM .i64 ((bM .i64 ((bM .i64 (bT t3 5))+(1:Int)))+(bM .i64 ((bM .i64 (bT t4 4))+(1:Int)))))) - (bM .i64 ((bM .i64 (bT t3 5))+(1:Int))))) ≤(bM .i64 ((bM .i64 ((bT (bM .i64 t67) (bM .i64 ((bM .i64 ((bM .i64 (bT t3 5))+(1:Int)))+(bM .i64 ((bM .i64 (bT t4 4))+(1:Int)))))) - (bM .i64 ((bM .i64 (bT t3 5))+(1:Int)))))+(1:Int)))∧(bM .i64 ((bM .i64 ((bT (bM .i64 t67) (bM .i64 ((bM .i64 ((bM .i64 (bT t3 5))+(1:Int)))+(bM .i64 ((bM .i64 (bT t4 4))+(1:Int)))))) - (bM .i64 ((bM .i64 (bT t3 5))+(1:Int)))))+(1:Int))) ≤(bX {data:=#[83,84,85,86]} :Nat))<|bR [(.string (cC {data:=#[83,84,85,86]} (bO (bM .i64 ((bT (bM .i64 t67) (bM .i64 ((bM .i64 ((bM .i64 (bT t3 5))+(1:Int)))+(bM .i64 ((bM .i64 (bT t4 4))+(1:Int)))))) - (bM .i64 ((bM .i64 (bT t3 5))+(1:Int)))))) (bO (bM .i64 ((bM .i64 ((bT (bM .i64 t67) (bM .i64 ((bM .i64 ((bM .i64 (bT t3 5))+(1:Int)))+(bM .i64 ((bM .i64 (bT t4 4))+(1:Int)))))) - (bM .i64 ((bM .i64 (bT t3 5))+(1:Int)))))+(1:Int))))))]) (bR [(.string (cC {data:=#[97,98,99,100,101]} (bO (bT (bT (bM .i64 t67) (bM .i64 ((bM .i64 ((bM .i64 (bT t3 5))+(1:Int)))+(bM .i64 ((bM .i64 (bT t4 4))+(1:Int)))))) 5)) (bO (bM .i64 ((bT (bT (bM .i64 t67) (bM .i64 ((bM .i64 ((bM .i64 (bT t3 5))+(1:Int)))+(bM .i64 ((bM .i64 (bT t4 4))+(1:Int)))))) 5)+(1:Int))))))])) fun (z68:ByteArray×Unit)=>aA r55 1 fun t69=>aD #[(.string z68.1)] 9 fun r70=>cE (bP #[29,29] 29 #[(sv t69),(.slice (some ⟨r70,0,none⟩) 1 1)]) (.one aS) fun (t71:Slc)=>aJ r55 1 t71<|bR [(.int .i64 (wN z59.1))]) (cD 6 [(.int .i64 z59.1)])) fun (z58:Int×Unit)=>bR []) (bR [])) fun (z57:Unit)=>aA r1 4 fun t72=>cA [] (cond (decide (z47.1< (t72.2.1:Int))) (aA r1 4 fun t74=>AJ t74.1 fun a75=>chk (0≤z47.1∧z47.1< (t74.2.1:Nat))<|bE a75 z47.1 1 fun t76=>aA r5 2 fun t77=>chk ((bM .i64 ((t77.2.1:Int)+(1:Int)))≠0)<|cA [] (cond (decide ((bT (bM .i64 t76) (bM .i64 ((t77.2.1:Int)+(1:Int)))) >(0:Int))) (chk (0≤(bM .i64 ((bT (bM .i64 t76) (bM .i64 ((t77.2.1:Int)+(1:Int)))) - 1))∧(bM .i64 ((bT (bM .i64 t76) (bM .i64 ((t77.2.1:Int)+(1:Int)))) - 1)) ≤(bT (bM .i64 t76) (bM .i64 ((t77.2.1:Int)+(1:Int))))∧(bT (bM .i64 t76) (bM .i64 ((t77.2.1:Int)+(1:Int)))) ≤(bX {data:=#[112,113,114,115,116]} :Nat))<|aO r55 2 (.string (cC {data:=#[112,113,114,115,116]} (bO (bM .i64 ((bT (bM .i64 t76) (bM .i64 ((t77.2.1:Int)+(1:Int)))) - 1))) (bO (bT (bM .i64 t76) (bM .i64 ((t77.2.1:Int)+(1:Int)))))))<|bR []) (bR [])) fun (z78:Unit)=>bR []) (bR [])) fun (z73:Unit)=>aA r5 4 fun t79=>aY r55 0 fun t80=>aA r55 1 fun t81=>aY r55 2 fun t82=>aY r55 3 fun t83=>aD #[(.string t80),(sv t81),(.string t82),(.string t83)] 95 fun r84=>cE (bP #[63,63] 63 #[(sv t79),(.slice (some ⟨r84,0,none⟩) 1 1)]) (.one aS) fun (t85:Slc)=>aJ r5 4 t85<|bR [(.int .i64 (wN z47.1))]) (cD 4 [(.int .i64 z47.1)])) fun (z46:Int×Unit)=>bZ 8 [aI] (cB [aI] [(.int .i64 0)] fun (z87:Int×Unit)=>cond (decide (z87.1< (bM .i64 ((bM .i64 (bT t4 4))+(1:Int))))) (chk (0≤z87.1∧z87.1≤(wN z87.1)∧(wN z87.1) ≤(bX {data:=#[83,84,85,86]} :Nat))<|bZ 10 [aI,aB] (cB [aI,aB] [(.int .i64 0),(.bool false)] fun (z89:Int×Bool×Unit)=>aA r5 4 fun t90=>cond (decide (z89.1< (t90.2.1:Int))) (cA [aB] (cond z89.2.1 (bR [(.bool true)]) (aA r5 4 fun t92=>AJ t92.1 fun a93=>chk (0≤z89.1∧z89.1< (t92.2.1:Nat))<|aZ a93 z89.1 4 fun t94=>bR [(.bool (bU t94==bU (cC {data:=#[83,84,85,86]} (bO z87.1) (bO (wN z87.1)))))])) fun (z91:Bool×Unit)=>bR [(.int .i64 (wN z89.1)),(.bool z91.1)]) (cD 10 [(.int .i64 z89.1),(.bool z89.2.1)])) fun (z88:Int×Bool×Unit)=>cA [] (cond (!z88.2.1) (aA r5 4 fun t96=>aD #[(.string (cC {data:=#[83,84,85,86]} (bO z87.1) (bO (wN z87.1)))),(.slice none 0 0),(.string {data:=#[]}),(.string {data:=#[]})] 95 fun r97=>cE (bP #[63,63] 63 #[(sv t96),(.slice (some ⟨r97,0,none⟩) 1 1)]) (.one aS) fun (t98:Slc)=>aJ r5 4 t98<|bR []) (bR [])) fun (z95:Unit)=>bR [(.int .i64 (wN z87.1))]) (cD 8 [(.int .i64 z87.1)])) fun (z86:Int×Unit)=>aA r5 0 fun t99=>aA r5 1 fun t100=>aA r5 2 fun t101=>aY r5 3 fun t102=>aA r5 4 fun t103=>aJ r2 0 t99<|aJ r2 1 t100<|aJ r2 2 t101<|aO r2 3 (.string t102)<|aJ r2 4 t103<|aA r2 0 fun res104=>aA r2 1 fun res105=>aA r2 2 fun res106=>aY r2 3 fun res107=>aA r2 4 fun res108=>bY (.agg #[(sv res104),(sv res105),(sv res106),(.string res107),(sv res108)])
theorem Dl (s_0:Int×Int×Slc×Slc×Slc×Slc×Slc×Unit):Af bN Tryz.f24 [(.agg #[(.int .u8 s_0.1),(.int .u8 s_0.2.1),(sv s_0.2.2.1),(sv s_0.2.2.2.1),(sv s_0.2.2.2.2.1),(sv s_0.2.2.2.2.2.1),(sv s_0.2.2.2.2.2.2.1)])] =CN s_0:=by kernel_rfl
noncomputable def IH (limit_0:Int):T:=bW 45 [(.int .i64 limit_0)] (.one aI) fun (t1:Int)=>aD #[(.int .i64 t1),(.int .i64 0),(.int .i64 0)] 107 fun r2=>bY (.pointer (some ⟨r2,0,none⟩))
theorem I8 (limit_0:Int):Af bN Tryz.f25 [(.int .i64 limit_0)] =IH limit_0:=by kernel_rfl
noncomputable def FO (kernel_0_p:Option Addr) (kernel_0_n kernel_0_c:Nat) (from_1:Int) (with_2:Int) (c_3:Nat) (c_4:Nat) (c_5:Nat) (c_6:Nat):T:=bF c_3 0 fun t1=>bW 27 [(.slice kernel_0_p kernel_0_n kernel_0_c)] (.one (.atom .string)) fun (t2:ByteArray)=>aQ c_3 0 (.map t1)<|cE (Instr.lookup 72 (.map t1) (.string t2) true) (.tuple [aI,aB]) fun (t3:Int×Bool×Unit)=>cond t3.2.1 (bY (.tuple #[(.int .i64 t3.1),(.int .i64 0)])) (aK c_4 0 fun t4=>bW 28 [(.pointer t4),(.slice kernel_0_p kernel_0_n kernel_0_c)] (.one aS) fun (t5:Slc)=>aD #[(.slice none 0 0),(.slice none 0 0),(.slice none 0 0),(.int .i64 0),(.int .i64 0)] 77 fun r6=>aO r6 0 (.slice kernel_0_p kernel_0_n kernel_0_c)<|aJ r6 1 t5<|aX r6 2<|aU r6 3 from_1<|aU r6 4 with_2<|aK c_5 0 fun t7=>bW 29 [(.pointer t7),(.int .i64 1)] (.one aI) fun (t8:Int)=>cA [aI] (cond (t8==(0:Int)) (aK c_6 0 fun t10=>aA r6 1 fun t11=>bW 29 [(.pointer t10),(.int .i64 (t11.2.1:Int))] (.one aI) fun (t12:Int)=>bR [(.int .i64 t12)]) (bR [(.int .i64 t8)])) fun (z9:Int×Unit)=>bF c_3 0 fun t13=>aK c_4 0 fun t14=>AJ t14 fun a15=>aL a15 6 fun t16=>bW 27 [(.slice kernel_0_p kernel_0_n kernel_0_c)] (.one (.atom .string)) fun (t17:ByteArray)=>cH (a15.add 6) (sv t16)<|aQ c_4 0 (.pointer t14)<|aQ c_3 0 (.map t13)<|cE (Sem.bind (gG 72 (.map t13) (.string t17) (.int .i64 (t16.2.1:Int))) fun _=>.pure undef) (.tuple []) fun (u18:Unit)=>aK c_4 0 fun t19=>aK c_4 0 fun t20=>AJ t20 fun a21=>aL a21 6 fun t22=>aA r6 0 fun t23=>aA r6 1 fun t24=>aA r6 2 fun t25=>aW r6 3 fun t26=>aW r6 4 fun t27=>aD #[(sv t23),(sv t24),(sv t25),(.int .i64 t26),(.int .i64 t27)] 77 fun r28=>cH (a21.add 6) (sv t22)<|aQ c_4 0 (.pointer t20)<|aQ c_4 0 (.pointer t19)<|cE (bP #[67,67] 67 #[(sv t22),(.slice (some ⟨r28,0,none⟩) 1 1)]) (.one aS) fun (t29:Slc)=>aQ c_4 0 (.pointer t19)<|AJ t19 fun a30=>cL (a30.add 6) (sv t29)<|aK c_4 0 fun t31=>AJ t31 fun a32=>aL a32 6 fun t33=>bY (.tuple #[(.int .i64 (bM .i64 ((t33.2.1:Int) - 1))),(.int .i64 z9.1)]))
theorem HM (kernel_0_p:Option Addr) (kernel_0_n kernel_0_c:Nat) (from_1:Int) (with_2:Int) (c_3:Nat) (c_4:Nat) (c_5:Nat) (c_6:Nat):Af bN Tryz.f26 [(.slice kernel_0_p kernel_0_n kernel_0_c),(.int .i64 from_1),(.int .i64 with_2),(.pointer (some ⟨c_3,0,none⟩)),(.pointer (some ⟨c_4,0,none⟩)),(.pointer (some ⟨c_5,0,none⟩)),(.pointer (some ⟨c_6,0,none⟩))] =FO kernel_0_p kernel_0_n kernel_0_c from_1 with_2 c_3 c_4 c_5 c_6:=by kernel_rfl
noncomputable def Hc (kernel_0_p:Option Addr) (kernel_0_n kernel_0_c:Nat):T:=bZ 0 [aI,aS] (cB [aI,aS] [(.int .i64 0),(.slice none 0 0)] fun (z2:Int×Slc×Unit)=>cond (decide (z2.1< ((kernel_0_n:Nat):Int))) (AJ kernel_0_p fun a3=>chk (0≤z2.1∧z2.1< (kernel_0_n:Nat))<|aN a3 z2.1 2 fun t4=>aV a3 z2.1 2 1 fun t5=>aD #[(.int .i64 0),(.int .i64 0)] 57 fun r6=>aU r6 0 t4<|aU r6 1 t5<|aW r6 0 fun t7=>bW 46 [(sv z2.2.1),(.int .i64 t7),(.int .i64 10)] (.one aS) fun (t8:Slc)=>aD #[(.int .u8 46)] 5 fun r9=>cE (bP #[22,22] 22 #[(sv t8),(.slice (some ⟨r9,0,none⟩) 1 1)]) (.one aS) fun (t10:Slc)=>aW r6 1 fun t11=>bW 46 [(sv t10),(.int .i64 t11),(.int .i64 10)] (.one aS) fun (t12:Slc)=>aD #[(.int .u8 32)] 5 fun r13=>cE (bP #[22,22] 22 #[(sv t12),(.slice (some ⟨r13,0,none⟩) 1 1)]) (.one aS) fun (t14:Slc)=>bR [(.int .i64 (wN z2.1)),(sv t14)]) (cD 0 [(.int .i64 z2.1),(sv z2.2.1)])) fun (z1:Int×Slc×Unit)=>cE (convert 22 9 (sv z1.2.1)) (.one (.atom .string)) fun (t15:ByteArray)=>bY (.string t15)
theorem Ie (kernel_0_p:Option Addr) (kernel_0_n kernel_0_c:Nat):Af bN Tryz.f27 [(.slice kernel_0_p kernel_0_n kernel_0_c)] =Hc kernel_0_p kernel_0_n kernel_0_c:=by kernel_rfl
noncomputable def Eg (m_0:Option Addr) (n_1:Int):T:=cond (decide (n_1< 0)) (bY (.int .i64 1)) (bW 52 [(.pointer m_0)] (.one aI) fun (t1:Int)=>cond (decide (n_1>t1)) (bY (.int .i64 5)) (AJ m_0 fun a2=>aR a2 1 fun t3=>AJ m_0 fun a4=>cL (a4.add 1) (.int .i64 (bM .i64 (t3+n_1)))<|AJ m_0 fun a5=>aR a5 2 fun t6=>AJ m_0 fun a7=>aR a7 1 fun t8=>AJ m_0 fun a9=>cL (a9.add 2) (.int .i64 (if t8>t6 then t8 else t6))<|bY (.int .i64 0)))
theorem GX (m_0:Option Addr) (n_1:Int):Af bN Tryz.f29 [(.pointer m_0),(.int .i64 n_1)] =Eg m_0 n_1:=by kernel_rfl
noncomputable def Eh (m_0:Option Addr):T:=AJ m_0 fun a1=>aR a1 1 fun t2=>bY (.int .i64 t2)
theorem GY (m_0:Option Addr):Af bN Tryz.f32 [(.pointer m_0)] =Eh m_0:=by kernel_rfl
noncomputable def Ei (m_0:Option Addr):T:=AJ m_0 fun a1=>bG a1 fun t2=>AJ m_0 fun a3=>aR a3 1 fun t4=>bY (.int .i64 (bM .i64 (t2 - t4)))
theorem GZ (m_0:Option Addr):Af bN Tryz.f52 [(.pointer m_0)] =Ei m_0:=by kernel_rfl
noncomputable def Hd (n_0:Int):T:=bY (.int .i64 (if (if 1099511627776 <n_0 then 1099511627776 else n_0) >(0:Int) then (if 1099511627776 <n_0 then 1099511627776 else n_0) else 0))
theorem If (n_0:Int):Af bN Tryz.f45 [(.int .i64 n_0)] =Hd n_0:=by kernel_rfl
noncomputable def D0 (g_0:Slc×Slc×Slc×ByteArray×Slc×Unit):T:=aD #[(sv g_0.1),(sv g_0.2.1),(sv g_0.2.2.1),(.string g_0.2.2.2.1),(sv g_0.2.2.2.2.1)] 65 fun r1=>cA [aB] (aA r1 0 fun t3=>cond (decide ((t3.2.1:Int) >(20:Int))) (bR [(.bool true)]) (aA r1 1 fun t4=>cond (decide ((t4.2.1:Int) >(4:Int))) (bR [(.bool true)]) (aA r1 2 fun t5=>cond (decide ((t5.2.1:Int) >(10:Int))) (bR [(.bool true)]) (aA r1 4 fun t6=>cond (decide ((t6.2.1:Int) < 1)) (bR [(.bool true)]) (aA r1 4 fun t7=>cond (decide ((t7.2.1:Int) >(40:Int))) (bR [(.bool true)]) (aY r1 3 fun t8=>bW 56 [(.string t8)] (.one aB) fun (t9:Bool)=>bR [(.bool (!t9))])))))) fun (z2:Bool×Unit)=>cond z2.1 (bY (.bool false)) (bZ 0 [aI,aS,aB] (cB [aI,aS,aB] [(.int .i64 0),(.slice none 0 0),(.bool false)] fun (z11:Int×Slc×Bool×Unit)=>aA r1 0 fun t12=>cond (decide (z11.1< (t12.2.1:Int))) (aA r1 0 fun t13=>AJ t13.1 fun a14=>chk (0≤z11.1∧z11.1< (t13.2.1:Nat))<|aZ a14 z11.1 4 fun t15=>aD #[(.string t15)] 9 fun r16=>cE (bP #[29,29] 29 #[(sv z11.2.1),(.slice (some ⟨r16,0,none⟩) 1 1)]) (.one aS) fun (t17:Slc)=>aA r1 0 fun t18=>AJ t18.1 fun a19=>chk (0≤z11.1∧z11.1< (t18.2.1:Nat))<|bA a19 z11.1 4 1 fun t20=>bH (((a19.add (bO z11.1 *4)).add 1).add 1) fun t21=>bI (((a19.add (bO z11.1 *4)).add 1).add 2) fun t22=>bW 57 [(.agg #[(.string t20),(.string t21),(.bool t22)])] (.one aB) fun (t23:Bool)=>cond (!t23) (bY (.bool false)) (bR [(.int .i64 (wN z11.1)),(sv t17),(.bool z11.2.2.1)])) (cD 0 [(.int .i64 z11.1),(sv z11.2.1),(.bool z11.2.2.1)])) fun (z10:Int×Slc×Bool×Unit)=>bZ 2 [aI,aB] (cB [aI,aB] [(.int .i64 0),(.bool z10.2.2.1)] fun (z25:Int×Bool×Unit)=>aA r1 1 fun t26=>cond (decide (z25.1< (t26.2.1:Int))) (aA r1 1 fun t27=>AJ t27.1 fun a28=>chk (0≤z25.1∧z25.1< (t27.2.1:Nat))<|aZ a28 z25.1 3 fun t29=>bA a28 z25.1 3 1 fun t30=>bJ a28 z25.1 3 2 fun t31=>bW 57 [(.agg #[(.string t29),(.string t30),(.bool t31)])] (.one aB) fun (t32:Bool)=>cond (!t32) (bY (.bool false)) (bR [(.int .i64 (wN z25.1)),(.bool z25.2.1)])) (cD 2 [(.int .i64 z25.1),(.bool z25.2.1)])) fun (z24:Int×Bool×Unit)=>bZ 4 [aI,aS,aB] (cB [aI,aS,aB] [(.int .i64 0),(.slice none 0 0),(.bool z24.2.1)] fun (z34:Int×Slc×Bool×Unit)=>aA r1 2 fun t35=>cond (decide (z34.1< (t35.2.1:Int))) (aA r1 2 fun t36=>AJ t36.1 fun a37=>chk (0≤z34.1∧z34.1< (t36.2.1:Nat))<|aN a37 z34.1 2 fun t38=>aM a37 z34.1 2 1 fun t39=>aD #[(.int .i64 0),(.slice none 0 0)] 102 fun r40=>aU r40 0 t38<|aJ r40 1 t39<|aA r40 1 fun t41=>cE (bP #[29,29] 29 #[(sv z34.2.1),(sv t41)]) (.one aS) fun (t42:Slc)=>cA [aB] (aW r40 0 fun t44=>cond (decide (t44< 1)) (bR [(.bool true)]) (aW r40 0 fun t45=>cond (decide (t45>(3:Int))) (bR [(.bool true)]) (aA r40 1 fun t46=>bR [(.bool ((t46.2.1:Int)==(0:Int)))]))) fun (z43:Bool×Unit)=>cond z43.1 (bY (.bool false)) (bR [(.int .i64 (wN z34.1)),(sv t42),(.bool z34.2.2.1)])) (cD 4 [(.int .i64 z34.1),(sv z34.2.1),(.bool z34.2.2.1)])) fun (z33:Int×Slc×Bool×Unit)=>bZ 6 [aI,aB] (cB [aI,aB] [(.int .i64 0),(.bool z33.2.2.1)] fun (z48:Int×Bool×Unit)=>aA r1 4 fun t49=>cond (decide (z48.1< (t49.2.1:Int))) (aA r1 4 fun t50=>AJ t50.1 fun a51=>chk (0≤z48.1∧z48.1< (t50.2.1:Nat))<|aZ a51 z48.1 4 fun t52=>aM a51 z48.1 4 1 fun t53=>bA a51 z48.1 4 2 fun t54=>bA a51 z48.1 4 3 fun t55=>aD #[(.string {data:=#[]}),(.slice none 0 0),(.string {data:=#[]}),(.string {data:=#[]})] 95 fun r56=>aO r56 0 (.string t52)<|aJ r56 1 t53<|aO r56 2 (.string t54)<|aO r56 3 (.string t55)<|cA [aB] (aY r56 0 fun t58=>bW 56 [(.string t58)] (.one aB) fun (t59:Bool)=>cond (!t59) (bR [(.bool true)]) (aA r56 1 fun t60=>cond (decide ((t60.2.1:Int) >(8:Int))) (bR [(.bool true)]) (aY r56 2 fun t61=>cond (!(bU t61==bU {data:=#[]})) (aY r56 2 fun t62=>bW 56 [(.string t62)] (.one aB) fun (t63:Bool)=>cond (!t63) (bR [(.bool true)]) (aY r56 3 fun t64=>bW 58 [(.string t64)] (.one aB) fun (t65:Bool)=>bR [(.bool (!t65))])) (aY r56 3 fun t66=>bW 58 [(.string t66)] (.one aB) fun (t67:Bool)=>bR [(.bool (!t67))])))) fun (z57:Bool×Unit)=>cond z57.1 (bY (.bool false)) (bZ 8 [aI,aB] (cB [aI,aB] [(.int .i64 0),(.bool z48.2.1)] fun (z69:Int×Bool×Unit)=>aA r56 1 fun t70=>cond (decide (z69.1< (t70.2.1:Int))) (aA r56 1 fun t71=>AJ t71.1 fun a72=>chk (0≤z69.1∧z69.1< (t71.2.1:Nat))<|aZ a72 z69.1 1 fun t73=>bW 56 [(.string t73)] (.one aB) fun (t74:Bool)=>cond (!t74) (bY (.bool false)) (bR [(.int .i64 (wN z69.1)),(.bool z69.2.1)])) (cD 8 [(.int .i64 z69.1),(.bool z69.2.1)])) fun (z68:Int×Bool×Unit)=>bR [(.int .i64 (wN z48.1)),(.bool z68.2.1)])) (cD 6 [(.int .i64 z48.1),(.bool z48.2.1)])) fun (z47:Int×Bool×Unit)=>cA [aB] (bW 59 [(sv z10.2.1)] (.one aB) fun (t76:Bool)=>cond t76 (bW 59 [(sv z33.2.1)] (.one aB) fun (t77:Bool)=>bR [(.bool t77)]) (bR [(.bool false)])) fun (z75:Bool×Unit)=>bY (.bool z75.1))
theorem Fk (g_0:Slc×Slc×Slc×ByteArray×Slc×Unit):Af bN Tryz.f41 [(.agg #[(sv g_0.1),(sv g_0.2.1),(sv g_0.2.2.1),(.string g_0.2.2.2.1),(sv g_0.2.2.2.2.1)])] =D0 g_0:=by kernel_rfl
noncomputable def Cc (l_0_p:Option Addr) (l_0_n l_0_c:Nat) (s_1:ByteArray):T:=bZ 0 [aI,aI] (cB [aI,aI] [(.int .i64 0),(.int .i64 0)] fun (z2:Int×Int×Unit)=>cond (decide (z2.1< ((l_0_n:Nat):Int))) (AJ l_0_p fun a3=>chk (0≤z2.1∧z2.1< (l_0_n:Nat))<|aZ a3 z2.1 1 fun t4=>cond (bU t4==bU s_1) (bY (.int .i64 z2.1)) (bR [(.int .i64 (wN z2.1)),(.int .i64 z2.2.1)])) (cD 0 [(.int .i64 z2.1),(.int .i64 z2.2.1)])) fun (z1:Int×Int×Unit)=>bY (.int .i64 (-1:Int))
theorem DQ (l_0_p:Option Addr) (l_0_n l_0_c:Nat) (s_1:ByteArray):Af bN Tryz.f42 [(.slice l_0_p l_0_n l_0_c),(.string s_1)] =Cc l_0_p l_0_n l_0_c s_1:=by kernel_rfl
noncomputable def D1 (g_0:Slc×Slc×Slc×ByteArray×Slc×Unit) (name_1:ByteArray):T:=aD #[(sv g_0.1),(sv g_0.2.1),(sv g_0.2.2.1),(.string g_0.2.2.2.1),(sv g_0.2.2.2.2.1)] 65 fun r1=>bZ 0 [aI,aI] (cB [aI,aI] [(.int .i64 0),(.int .i64 0)] fun (z3:Int×Int×Unit)=>aA r1 2 fun t4=>cond (decide (z3.1< (t4.2.1:Int))) (aA r1 2 fun t5=>AJ t5.1 fun a6=>chk (0≤z3.1∧z3.1< (t5.2.1:Nat))<|aM a6 z3.1 2 1 fun t7=>bW 42 [(sv t7),(.string name_1)] (.one aI) fun (t8:Int)=>cond (decide (t8≥ 0)) (bY (.int .i64 (wN z3.1))) (bR [(.int .i64 (wN z3.1)),(.int .i64 z3.2.1)])) (cD 0 [(.int .i64 z3.1),(.int .i64 z3.2.1)])) fun (z2:Int×Int×Unit)=>bY (.int .i64 0)
theorem Fl (g_0:Slc×Slc×Slc×ByteArray×Slc×Unit) (name_1:ByteArray):Af bN Tryz.f43 [(.agg #[(sv g_0.1),(sv g_0.2.1),(sv g_0.2.2.1),(.string g_0.2.2.2.1),(sv g_0.2.2.2.2.1)]),(.string name_1)] =D1 g_0 name_1:=by kernel_rfl
noncomputable def Ej (p_0:Pl6) (name_1:ByteArray):T:=aD #[(sv p_0.1),(sv p_0.2.1),(sv p_0.2.2.1),(sv p_0.2.2.2.1),(sv p_0.2.2.2.2.1),(sv p_0.2.2.2.2.2.1)] 32 fun r1=>aA r1 0 fun t2=>bW 42 [(sv t2),(.string name_1)] (.one aI) fun (t3:Int)=>cond (decide (t3≥ 0)) (bY (.int .i64 t3)) (aA r1 1 fun t4=>bW 42 [(sv t4),(.string name_1)] (.one aI) fun (t5:Int)=>cond (decide (t5≥ 0)) (aA r1 0 fun t6=>bY (.int .i64 (bM .i64 ((t6.2.1:Int)+t5)))) (bY (.int .i64 (-1:Int))))
theorem Ga (p_0:Pl6) (name_1:ByteArray):Af bN Tryz.f44 [(aG p_0),(.string name_1)] =Ej p_0 name_1:=by kernel_rfl
noncomputable def He (p_0:Pl6) (sym_1:Int):T:=aD #[(sv p_0.1),(sv p_0.2.1),(sv p_0.2.2.1),(sv p_0.2.2.2.1),(sv p_0.2.2.2.2.1),(sv p_0.2.2.2.2.2.1)] 32 fun r1=>cA [aB] (cond (decide (sym_1≥ 0)) (aA r1 0 fun t3=>bR [(.bool (decide (sym_1< (t3.2.1:Int))))]) (bR [(.bool false)])) fun (z2:Bool×Unit)=>bY (.bool z2.1)
theorem Ig (p_0:Pl6) (sym_1:Int):Af bN Tryz.f48 [(aG p_0),(.int .i64 sym_1)] =He p_0 sym_1:=by kernel_rfl
noncomputable def Bw (s_0_p:Option Addr) (s_0_n s_0_c:Nat) (v_1:Int×Int×Unit):T:=aD #[(.int .i64 v_1.1),(.int .i64 v_1.2.1)] 57 fun r1=>aW r1 0 fun t2=>aW r1 1 fun t3=>bW 61 [(.slice s_0_p s_0_n s_0_c),(.agg #[(.int .i64 t2),(.int .i64 t3)])] (.one aI) fun (t4:Int)=>bY (.bool (decide (t4≥ 0)))
theorem Ck (s_0_p:Option Addr) (s_0_n s_0_c:Nat) (v_1:Int×Int×Unit):Af bN Tryz.f49 [(.slice s_0_p s_0_n s_0_c),(.agg #[(.int .i64 v_1.1),(.int .i64 v_1.2.1)])] =Bw s_0_p s_0_n s_0_c v_1:=by kernel_rfl
noncomputable def EJ (s_0:ByteArray):T:=cA [aB] (cond (decide (((bX s_0:Nat):Int) ≤(32:Int))) (bW 67 [(.string s_0)] (.one aB) fun (t2:Bool)=>bR [(.bool t2)]) (bR [(.bool false)])) fun (z1:Bool×Unit)=>bY (.bool z1.1)
theorem F7 (s_0:ByteArray):Af bN Tryz.f56 [(.string s_0)] =EJ s_0:=by kernel_rfl
noncomputable def DR (p_0:ByteArray×ByteArray×Bool×Unit):T:=aD #[(.string p_0.1),(.string p_0.2.1),(.bool p_0.2.2.1)] 97 fun r1=>aY r1 0 fun t2=>cond (!(bU t2==bU {data:=#[]})) (cA [aB] (aY r1 0 fun t4=>cond (decide (((bX t4:Nat):Int) ≤(32:Int))) (aY r1 1 fun t5=>cond (bU t5==bU {data:=#[]}) (bK r1 2 fun t6=>bR [(.bool (!t6))]) (bR [(.bool false)])) (bR [(.bool false)])) fun (z3:Bool×Unit)=>bY (.bool z3.1)) (bZ 0 [aI,aB] (cB [aI,aB] [(.int .i64 1),(.bool false)] fun (z8:Int×Bool×Unit)=>aY r1 1 fun t9=>cond (decide (z8.1< ((bX t9:Nat):Int))) (aY r1 1 fun t10=>chk (0≤z8.1∧z8.1< (bX t10:Nat))<|aY r1 1 fun t11=>chk (0≤(bM .i64 (z8.1 - 1))∧(bM .i64 (z8.1 - 1)) < (bX t11:Nat))<|cond (decide (((cK (C8 t10 (bO z8.1)):Nat):Int) ≤((cK (C8 t11 (bO (bM .i64 (z8.1 - 1)))):Nat):Int))) (bY (.bool false)) (bR [(.int .i64 (wN z8.1)),(.bool z8.2.1)])) (cD 0 [(.int .i64 z8.1),(.bool z8.2.1)])) fun (z7:Int×Bool×Unit)=>aY r1 1 fun t12=>bY (.bool (!(bU t12==bU {data:=#[]}))))
theorem FD (p_0:ByteArray×ByteArray×Bool×Unit):Af bN Tryz.f57 [(.agg #[(.string p_0.1),(.string p_0.2.1),(.bool p_0.2.2.1)])] =DR p_0:=by kernel_rfl
noncomputable def Dd (s_0:ByteArray):T:=cond (decide (((bX s_0:Nat):Int) >(200:Int))) (bY (.bool false)) (bZ 0 [aI,aI,aB] (cB [aI,aI,aB] [(.int .i64 0),(.int .i64 1),(.bool false)] fun (z2:Int×Int×Bool×Unit)=>cond (decide (z2.1< ((bX s_0:Nat):Int))) (chk (0≤z2.1∧z2.1< (bX s_0:Nat))<|cA [aI] (cond (((cK (C8 s_0 (bO z2.1)):Nat):Int)==(123:Int)) (bR [(.int .i64 (wN z2.2.1))]) (bR [(.int .i64 z2.2.1)])) fun (z3:Int×Unit)=>chk (0≤z2.1∧z2.1< (bX s_0:Nat))<|cA [aI] (cond (((cK (C8 s_0 (bO z2.1)):Nat):Int)==(125:Int)) (bR [(.int .i64 (bM .i64 (z3.1 - 1)))]) (bR [(.int .i64 z3.1)])) fun (z4:Int×Unit)=>cA [aB] (cond (decide (z4.1>(4:Int))) (bR [(.bool true)]) (bR [(.bool (z4.1==(0:Int)))])) fun (z5:Bool×Unit)=>cond z5.1 (bY (.bool false)) (bR [(.int .i64 (wN z2.1)),(.int .i64 z4.1),(.bool z2.2.2.1)])) (cD 0 [(.int .i64 z2.1),(.int .i64 z2.2.1),(.bool z2.2.2.1)])) fun (z1:Int×Int×Bool×Unit)=>bY (.bool (z1.2.1==(1:Int))))
theorem FP (s_0:ByteArray):Af bN Tryz.f58 [(.string s_0)] =Dd s_0:=by kernel_rfl
noncomputable def EK (l_0_p:Option Addr) (l_0_n l_0_c:Nat):T:=bZ 0 [aI,aB] (cB [aI,aB] [(.int .i64 0),(.bool false)] fun (z2:Int×Bool×Unit)=>cond (decide (z2.1< ((l_0_n:Nat):Int))) (AJ l_0_p fun a3=>chk (0≤z2.1∧z2.1< (l_0_n:Nat))<|aZ a3 z2.1 1 fun t4=>bW 56 [(.string t4)] (.one aB) fun (t5:Bool)=>cond (!t5) (bY (.bool false)) (bZ 2 [aI,aB] (cB [aI,aB] [(.int .i64 0),(.bool z2.2.1)] fun (z7:Int×Bool×Unit)=>cond (decide (z7.1<z2.1)) (AJ l_0_p fun a8=>chk (0≤z7.1∧z7.1< (l_0_n:Nat))<|aZ a8 z7.1 1 fun t9=>AJ l_0_p fun a10=>chk (0≤z2.1∧z2.1< (l_0_n:Nat))<|aZ a10 z2.1 1 fun t11=>cond (bU t9==bU t11) (bY (.bool false)) (bR [(.int .i64 (wN z7.1)),(.bool z7.2.1)])) (cD 2 [(.int .i64 z7.1),(.bool z7.2.1)])) fun (z6:Int×Bool×Unit)=>bR [(.int .i64 (wN z2.1)),(.bool z6.2.1)])) (cD 0 [(.int .i64 z2.1),(.bool z2.2.1)])) fun (z1:Int×Bool×Unit)=>bY (.bool true)
theorem F8 (l_0_p:Option Addr) (l_0_n l_0_c:Nat):Af bN Tryz.f59 [(.slice l_0_p l_0_n l_0_c)] =EK l_0_p l_0_n l_0_c:=by kernel_rfl
noncomputable def B8 (s_0_p:Option Addr) (s_0_n s_0_c:Nat) (v_1:Int×Int×Unit):T:=aD #[(.int .i64 v_1.1),(.int .i64 v_1.2.1)] 57 fun r1=>bZ 0 [aI,aI] (cB [aI,aI] [(.int .i64 0),(.int .i64 0)] fun (z3:Int×Int×Unit)=>cond (decide (z3.1< ((s_0_n:Nat):Int))) (aW r1 0 fun t4=>aW r1 1 fun t5=>AJ s_0_p fun a6=>chk (0≤z3.1∧z3.1< (s_0_n:Nat))<|aN a6 z3.1 2 fun t7=>aV a6 z3.1 2 1 fun t8=>cond ((t4==t7) && ((t5==t8) && true)) (bY (.int .i64 z3.1)) (bR [(.int .i64 (wN z3.1)),(.int .i64 z3.2.1)])) (cD 0 [(.int .i64 z3.1),(.int .i64 z3.2.1)])) fun (z2:Int×Int×Unit)=>bY (.int .i64 (-1:Int))
theorem DD (s_0_p:Option Addr) (s_0_n s_0_c:Nat) (v_1:Int×Int×Unit):Af bN Tryz.f61 [(.slice s_0_p s_0_n s_0_c),(.agg #[(.int .i64 v_1.1),(.int .i64 v_1.2.1)])] =B8 s_0_p s_0_n s_0_c v_1:=by kernel_rfl
noncomputable def EL (s_0:ByteArray):T:=bZ 0 [aI,aB] (cB [aI,aB] [(.int .i64 0),(.bool false)] fun (z2:Int×Bool×Unit)=>cond (decide (z2.1< ((bX s_0:Nat):Int))) (cA [aB] (chk (0≤z2.1∧z2.1< (bX s_0:Nat))<|bW 89 [(.int .u8 ((cK (C8 s_0 (bO z2.1)):Nat):Int))] (.one aB) fun (t4:Bool)=>cond (!t4) (cond (z2.1==(0:Int)) (bR [(.bool true)]) (chk (0≤z2.1∧z2.1< (bX s_0:Nat))<|bW 90 [(.int .u8 ((cK (C8 s_0 (bO z2.1)):Nat):Int))] (.one aB) fun (t5:Bool)=>bR [(.bool (!t5))])) (bR [(.bool false)])) fun (z3:Bool×Unit)=>cond z3.1 (bY (.bool false)) (bR [(.int .i64 (wN z2.1)),(.bool z2.2.1)])) (cD 0 [(.int .i64 z2.1),(.bool z2.2.1)])) fun (z1:Int×Bool×Unit)=>bY (.bool (!(bU s_0==bU {data:=#[]})))
theorem F9 (s_0:ByteArray):Af bN Tryz.f67 [(.string s_0)] =EL s_0:=by kernel_rfl
noncomputable def De (c_0:Int):T:=cA [aB] (cond (c_0==(95:Int)) (bR [(.bool true)]) (cond (decide (c_0≥ 97)) (cond (decide (c_0≤(122:Int))) (bR [(.bool true)]) (cond (decide (c_0≥ 65)) (bR [(.bool (decide (c_0≤(90:Int))))]) (bR [(.bool false)]))) (cond (decide (c_0≥ 65)) (bR [(.bool (decide (c_0≤(90:Int))))]) (bR [(.bool false)])))) fun (z1:Bool×Unit)=>bY (.bool z1.1)
theorem FQ (c_0:Int):Af bN Tryz.f89 [(.int .u8 c_0)] =De c_0:=by kernel_rfl
noncomputable def D2 (c_0:Int):T:=cA [aB] (cond (decide (c_0≥ 48)) (bR [(.bool (decide (c_0≤(57:Int))))]) (bR [(.bool false)])) fun (z1:Bool×Unit)=>bY (.bool z1.1)
theorem Fm (c_0:Int):Af bN Tryz.f90 [(.int .u8 c_0)] =D2 c_0:=by kernel_rfl
noncomputable def Cp (small_0:Int×Int×Slc×Slc×Slc×Slc×Slc×Unit) (most_1:Int) (items_2:Int) (n_3:Int) (seq_4_p:Option Addr) (seq_4_n seq_4_c:Nat):T:=aD #[(.int .u8 small_0.1),(.int .u8 small_0.2.1),(sv small_0.2.2.1),(sv small_0.2.2.2.1),(sv small_0.2.2.2.2.1),(sv small_0.2.2.2.2.2.1),(sv small_0.2.2.2.2.2.2.1)] 25 fun r1=>bW 4 [] (.one aB) fun (t2:Bool)=>aF r1 0 fun t3=>aF r1 1 fun t4=>aA r1 2 fun t5=>aA r1 3 fun t6=>aA r1 4 fun t7=>aA r1 5 fun t8=>aA r1 6 fun t9=>bW 5 [(.agg #[(.int .u8 t3),(.int .u8 t4),(sv t5),(sv t6),(sv t7),(sv t8),(sv t9)]),(.int .i64 12),(.int .i64 5)] (.one aB) fun (t10:Bool)=>cA [aB] (cond (!t10) (bR [(.bool true)]) (bR [(.bool (decide (((seq_4_n:Nat):Int) >(10:Int))))])) fun (z11:Bool×Unit)=>cond z11.1 (bY (.bool t2)) (aF r1 0 fun t12=>aF r1 1 fun t13=>aA r1 2 fun t14=>aA r1 3 fun t15=>aA r1 4 fun t16=>aA r1 5 fun t17=>aA r1 6 fun t18=>bW 6 [(.agg #[(.int .u8 t12),(.int .u8 t13),(sv t14),(sv t15),(sv t16),(sv t17),(sv t18)])] (.one (.agg [.slice,.slice,.slice,.slice,.slice,.slice])) fun (t19:Pl6)=>aD #[(.slice none 0 0),(.slice none 0 0),(.slice none 0 0),(.slice none 0 0),(.slice none 0 0),(.slice none 0 0)] 32 fun r20=>aJ r20 0 t19.1<|aJ r20 1 t19.2.1<|aJ r20 2 t19.2.2.1<|aJ r20 3 t19.2.2.2.1<|aJ r20 4 t19.2.2.2.2.1<|aJ r20 5 t19.2.2.2.2.2.1<|L6 r20 fun t21 t22 t23 t24 t25 t26=>bW 7 [(aH t21 t22 t23 t24 t25 t26),(.int .i64 most_1),(.int .i64 items_2)] (.tuple [aP,aI]) fun (t27:(Option Addr)×Int×Unit)=>L6 r20 fun t28 t29 t30 t31 t32 t33=>bW 8 [(aH t28 t29 t30 t31 t32 t33),(.int .i64 most_1),(.int .i64 items_2)] (.one aP) fun (t34:Option Addr)=>cA [aB] (cond (cS t27.1) (bR [(.bool true)]) (bR [(.bool (cS t34))])) fun (z35:Bool×Unit)=>cond z35.1 (cA [aB] (cond t2 (cond (cS t27.1) (cond (cS t34) (bR [(.bool (t27.2.1==(5:Int)))]) (bR [(.bool false)])) (bR [(.bool false)])) (bR [(.bool false)])) fun (z36:Bool×Unit)=>bY (.bool z36.1)) (cA [aB] (cond (t27.2.1 !=(0:Int)) (bR [(.bool true)]) (AJ t34 fun a38=>aL a38 6 fun t39=>bW 9 [(.pointer t27.1)] (.one aI) fun (t40:Int)=>cH (a38.add 6) (sv t39)<|cond (t40 !=(t39.2.1:Int)) (bR [(.bool true)]) (AJ t34 fun a41=>aR a41 11 fun t42=>bW 10 [(.pointer t27.1)] (.one aI) fun (t43:Int)=>cH (a41.add 11) (.int .i64 t42)<|cond (t43 !=t42) (bR [(.bool true)]) (bW 11 [(.pointer t27.1),(.int .i64 n_3),(.int .i64 3)] (.one aI) fun (t44:Int)=>bW 12 [(.pointer t34),(.int .i64 n_3),(.int .i64 3)] (.one aI) fun (t45:Int)=>cond (t44 !=t45) (bR [(.bool true)]) (bW 13 [(.pointer t27.1),(.int .i64 (-1:Int))] (.one aS) fun (t46:Slc)=>cond ((t46.2.1:Int) !=(0:Int)) (bR [(.bool true)]) (AJ t34 fun a47=>aL a47 6 fun t48=>bW 14 [(.pointer t27.1),(.int .i64 (t48.2.1:Int))] (.one aS) fun (t49:Slc)=>bR [(.bool ((t49.2.1:Int) !=(0:Int)))])))))) fun (z37:Bool×Unit)=>cond z37.1 (bY (.bool false)) (bZ 0 [aI,aB] (cB [aI,aB] [(.int .i64 0),(.bool false)] fun (z51:Int×Bool×Unit)=>AJ t34 fun a52=>aL a52 6 fun t53=>cond (decide (z51.1< (t53.2.1:Int))) (cA [aB] (AJ t34 fun a55=>aL a55 6 fun t56=>AJ t56.1 fun a57=>chk (0≤z51.1∧z51.1< (t56.2.1:Nat))<|aC a57 z51.1 1 fun t58=>bW 13 [(.pointer t27.1),(.int .i64 z51.1)] (.one aS) fun (t59:Slc)=>cH (a57.add (bO z51.1 *1)) (sv t58)<|cH (a55.add 6) (sv t56)<|bW 15 [(sv t59),(sv t58)] (.one aB) fun (t60:Bool)=>cond (!t60) (bR [(.bool true)]) (AJ t34 fun a61=>aL a61 7 fun t62=>AJ t62.1 fun a63=>chk (0≤z51.1∧z51.1< (t62.2.1:Nat))<|aC a63 z51.1 1 fun t64=>bW 14 [(.pointer t27.1),(.int .i64 z51.1)] (.one aS) fun (t65:Slc)=>cH (a63.add (bO z51.1 *1)) (sv t64)<|cH (a61.add 7) (sv t62)<|bW 15 [(sv t65),(sv t64)] (.one aB) fun (t66:Bool)=>cond (!t66) (bR [(.bool true)]) (AJ t34 fun a67=>aL a67 8 fun t68=>AJ t68.1 fun a69=>chk (0≤z51.1∧z51.1< (t68.2.1:Nat))<|aC a69 z51.1 1 fun t70=>bW 17 [(.pointer t27.1),(.int .i64 z51.1)] (.one aS) fun (t71:Slc)=>cH (a69.add (bO z51.1 *1)) (sv t70)<|cH (a67.add 8) (sv t68)<|bW 16 [(sv t71),(sv t70)] (.one aB) fun (t72:Bool)=>cond (!t72) (bR [(.bool true)]) (bW 19 [(.pointer t27.1),(.int .i64 z51.1)] (.one aS) fun (t73:Slc)=>bW 20 [(.pointer t34),(.int .i64 z51.1)] (.one aS) fun (t74:Slc)=>bW 18 [(sv t73),(sv t74)] (.one aB) fun (t75:Bool)=>bR [(.bool (!t75))])))) fun (z54:Bool×Unit)=>cond z54.1 (bY (.bool false)) (bR [(.int .i64 (wN z51.1)),(.bool z51.2.1)])) (cD 0 [(.int .i64 z51.1),(.bool z51.2.1)])) fun (z50:Int×Bool×Unit)=>cA [aB] (cond t2 (bW 21 [(.pointer t27.1),(.int .i64 n_3),(.slice seq_4_p seq_4_n seq_4_c)] (.one aI) fun (t77:Int)=>bW 22 [(.pointer t34),(.int .i64 n_3),(.slice seq_4_p seq_4_n seq_4_c)] (.one aI) fun (t78:Int)=>cond (t77==t78) (bW 19 [(.pointer t27.1),(.int .i64 n_3)] (.one aS) fun (t79:Slc)=>bW 20 [(.pointer t34),(.int .i64 n_3)] (.one aS) fun (t80:Slc)=>bW 18 [(sv t79),(sv t80)] (.one aB) fun (t81:Bool)=>bR [(.bool t81)]) (bR [(.bool false)])) (bR [(.bool false)])) fun (z76:Bool×Unit)=>bY (.bool z76.1))))
theorem EV (small_0:Int×Int×Slc×Slc×Slc×Slc×Slc×Unit) (most_1:Int) (items_2:Int) (n_3:Int) (seq_4_p:Option Addr) (seq_4_n seq_4_c:Nat):Af bN Tryz.f3 [(.agg #[(.int .u8 small_0.1),(.int .u8 small_0.2.1),(sv small_0.2.2.1),(sv small_0.2.2.2.1),(sv small_0.2.2.2.2.1),(sv small_0.2.2.2.2.2.1),(sv small_0.2.2.2.2.2.2.1)]),(.int .i64 most_1),(.int .i64 items_2),(.int .i64 n_3),(.slice seq_4_p seq_4_n seq_4_c)] =Cp small_0 most_1 items_2 n_3 seq_4_p seq_4_n seq_4_c:=by kernel_rfl
noncomputable def D3:T:=aD #[(.int .u8 0),(.int .u8 0)] 5 fun r1=>aD #[(.int .u8 0),(.int .u8 2)] 5 fun r2=>aD #[(.int .u8 1)] 5 fun r3=>aD #[(.slice (some ⟨r2,0,none⟩) 2 2),(.slice (some ⟨r3,0,none⟩) 1 1)] 22 fun r4=>bW 6 [(.agg #[(.int .u8 1),(.int .u8 0),(.slice (some ⟨r1,0,none⟩) 2 2),(.slice (some ⟨r4,0,none⟩) 2 2),(.slice none 0 0),(.slice none 0 0),(.slice none 0 0)])] (.one (.agg [.slice,.slice,.slice,.slice,.slice,.slice])) fun (t5:Pl6)=>aD #[(.slice none 0 0),(.slice none 0 0),(.slice none 0 0),(.slice none 0 0),(.slice none 0 0),(.slice none 0 0)] 32 fun r6=>aJ r6 0 t5.1<|aJ r6 1 t5.2.1<|aJ r6 2 t5.2.2.1<|aJ r6 3 t5.2.2.2.1<|aJ r6 4 t5.2.2.2.2.1<|aJ r6 5 t5.2.2.2.2.2.1<|L6 r6 fun t7 t8 t9 t10 t11 t12=>bW 7 [(aH t7 t8 t9 t10 t11 t12),(.int .i64 5),(.int .i64 100)] (.tuple [aP,aI]) fun (t13:(Option Addr)×Int×Unit)=>L6 r6 fun t14 t15 t16 t17 t18 t19=>bW 7 [(aH t14 t15 t16 t17 t18 t19),(.int .i64 4),(.int .i64 100)] (.tuple [aP,aI]) fun (t20:(Option Addr)×Int×Unit)=>cond (cS t13.1) (bY (.bool false)) (cA [aB] (cond (t13.2.1==(0:Int)) (bW 9 [(.pointer t13.1)] (.one aI) fun (t22:Int)=>cond (t22==(5:Int)) (bW 13 [(.pointer t13.1),(.int .i64 4)] (.one aS) fun (t23:Slc)=>aD #[(.int .i64 1),(.int .i64 2)] 57 fun r24=>bW 15 [(sv t23),(.slice (some ⟨r24,0,none⟩) 1 1)] (.one aB) fun (t25:Bool)=>cond t25 (bW 11 [(.pointer t13.1),(.int .i64 1),(.int .i64 3)] (.one aI) fun (t26:Int)=>cond (t26==(4:Int)) (bW 11 [(.pointer t13.1),(.int .i64 2),(.int .i64 3)] (.one aI) fun (t27:Int)=>cond (t27==(-1:Int)) (cond (cS t20.1) (bR [(.bool (t20.2.1==(5:Int)))]) (bR [(.bool false)])) (bR [(.bool false)])) (bR [(.bool false)])) (bR [(.bool false)])) (bR [(.bool false)])) (bR [(.bool false)])) fun (z21:Bool×Unit)=>bY (.bool z21.1))
theorem Fo:Af bN Tryz.f4 [] =D3:=by kernel_rfl
noncomputable def EM (a_0_p:Option Addr) (a_0_n a_0_c:Nat) (b_1_p:Option Addr) (b_1_n b_1_c:Nat):T:=cond (((a_0_n:Nat):Int) !=((b_1_n:Nat):Int)) (bY (.bool false)) (bZ 0 [aI,aB] (cB [aI,aB] [(.int .i64 0),(.bool false)] fun (z2:Int×Bool×Unit)=>cond (decide (z2.1< ((a_0_n:Nat):Int))) (AJ a_0_p fun a3=>chk (0≤z2.1∧z2.1< (a_0_n:Nat))<|aN a3 z2.1 1 fun t4=>AJ b_1_p fun a5=>chk (0≤z2.1∧z2.1< (b_1_n:Nat))<|aN a5 z2.1 1 fun t6=>cond (t4 !=t6) (bY (.bool false)) (bR [(.int .i64 (wN z2.1)),(.bool z2.2.1)])) (cD 0 [(.int .i64 z2.1),(.bool z2.2.1)])) fun (z1:Int×Bool×Unit)=>bY (.bool true))
theorem GA (a_0_p:Option Addr) (a_0_n a_0_c:Nat) (b_1_p:Option Addr) (b_1_n b_1_c:Nat):Af bN Tryz.f18 [(.slice a_0_p a_0_n a_0_c),(.slice b_1_p b_1_n b_1_c)] =EM a_0_p a_0_n a_0_c b_1_p b_1_n b_1_c:=by kernel_rfl
noncomputable def D4 (a_0_p:Option Addr) (a_0_n a_0_c:Nat) (b_1_p:Option Addr) (b_1_n b_1_c:Nat):T:=cond (((a_0_n:Nat):Int) !=((b_1_n:Nat):Int)) (bY (.bool false)) (bZ 0 [aI,aB] (cB [aI,aB] [(.int .i64 0),(.bool false)] fun (z2:Int×Bool×Unit)=>cond (decide (z2.1< ((a_0_n:Nat):Int))) (AJ a_0_p fun a3=>chk (0≤z2.1∧z2.1< (a_0_n:Nat))<|aN a3 z2.1 2 fun t4=>aV a3 z2.1 2 1 fun t5=>AJ b_1_p fun a6=>chk (0≤z2.1∧z2.1< (b_1_n:Nat))<|aN a6 z2.1 2 fun t7=>aV a6 z2.1 2 1 fun t8=>cond (!((t4==t7) && ((t5==t8) && true))) (bY (.bool false)) (bR [(.int .i64 (wN z2.1)),(.bool z2.2.1)])) (cD 0 [(.int .i64 z2.1),(.bool z2.2.1)])) fun (z1:Int×Bool×Unit)=>bY (.bool true))
theorem Fp (a_0_p:Option Addr) (a_0_n a_0_c:Nat) (b_1_p:Option Addr) (b_1_n b_1_c:Nat):Af bN Tryz.f15 [(.slice a_0_p a_0_n a_0_c),(.slice b_1_p b_1_n b_1_c)] =D4 a_0_p a_0_n a_0_c b_1_p b_1_n b_1_c:=by kernel_rfl
noncomputable def D5 (a_0_p:Option Addr) (a_0_n a_0_c:Nat) (b_1_p:Option Addr) (b_1_n b_1_c:Nat):T:=cond (((a_0_n:Nat):Int) !=((b_1_n:Nat):Int)) (bY (.bool false)) (bZ 0 [aI,aB] (cB [aI,aB] [(.int .i64 0),(.bool false)] fun (z2:Int×Bool×Unit)=>cond (decide (z2.1< ((a_0_n:Nat):Int))) (AJ a_0_p fun a3=>chk (0≤z2.1∧z2.1< (a_0_n:Nat))<|aN a3 z2.1 2 fun t4=>aV a3 z2.1 2 1 fun t5=>AJ b_1_p fun a6=>chk (0≤z2.1∧z2.1< (b_1_n:Nat))<|aN a6 z2.1 2 fun t7=>aV a6 z2.1 2 1 fun t8=>cond (!((t4==t7) && ((t5==t8) && true))) (bY (.bool false)) (bR [(.int .i64 (wN z2.1)),(.bool z2.2.1)])) (cD 0 [(.int .i64 z2.1),(.bool z2.2.1)])) fun (z1:Int×Bool×Unit)=>bY (.bool true))
theorem Fq (a_0_p:Option Addr) (a_0_n a_0_c:Nat) (b_1_p:Option Addr) (b_1_n b_1_c:Nat):Af bN Tryz.f16 [(.slice a_0_p a_0_n a_0_c),(.slice b_1_p b_1_n b_1_c)] =D5 a_0_p a_0_n a_0_c b_1_p b_1_n b_1_c:=by kernel_rfl
noncomputable def Ek (l_0_p:Option Addr) (l_0_n l_0_c:Nat) (x_1:Int×Int×Unit):T:=aD #[(.int .i64 x_1.1),(.int .i64 x_1.2.1)] 57 fun r1=>bZ 0 [aI] (cB [aI] [(.int .i64 0)] fun (z3:Int×Unit)=>cA [aB] (cond (decide (z3.1< ((l_0_n:Nat):Int))) (AJ l_0_p fun a5=>chk (0≤z3.1∧z3.1< (l_0_n:Nat))<|aN a5 z3.1 2 fun t6=>aW r1 0 fun t7=>cond (decide (t6<t7)) (bR [(.bool true)]) (AJ l_0_p fun a8=>chk (0≤z3.1∧z3.1< (l_0_n:Nat))<|aN a8 z3.1 2 fun t9=>aW r1 0 fun t10=>cond (t9==t10) (AJ l_0_p fun a11=>chk (0≤z3.1∧z3.1< (l_0_n:Nat))<|aV a11 z3.1 2 1 fun t12=>aW r1 1 fun t13=>bR [(.bool (decide (t12<t13)))]) (bR [(.bool false)]))) (bR [(.bool false)])) fun (z4:Bool×Unit)=>cond z4.1 (bR [(.int .i64 (wN z3.1))]) (cD 0 [(.int .i64 z3.1)])) fun (z2:Int×Unit)=>cA [aB] (cond (decide (z2.1< ((l_0_n:Nat):Int))) (AJ l_0_p fun a15=>chk (0≤z2.1∧z2.1< (l_0_n:Nat))<|aN a15 z2.1 2 fun t16=>aV a15 z2.1 2 1 fun t17=>aW r1 0 fun t18=>aW r1 1 fun t19=>bR [(.bool ((t16==t18) && ((t17==t19) && true)))]) (bR [(.bool false)])) fun (z14:Bool×Unit)=>cond z14.1 (bY (.slice l_0_p l_0_n l_0_c)) (chk (0≤(0:Int)∧(0:Int) ≤z2.1∧z2.1≤(l_0_c:Nat))<|aW r1 0 fun t20=>aW r1 1 fun t21=>chk (0≤z2.1∧z2.1≤((l_0_n:Nat):Int)∧((l_0_n:Nat):Int) ≤(l_0_c:Nat))<|gJ (aD #[] 57 fun r22=>bL r1 0 t20<|bL r1 1 t21<|gJ (cE (bP #[46,46] 46 #[(.slice (some ⟨r22,0,none⟩) 0 0),(.slice (if l_0_c=bO 0 then l_0_p else dS (fun x=>eU x (bO 0 *2)) l_0_p) (bO z2.1 - bO 0) (l_0_c - bO 0))]) (.one aS) fun (t23:Slc)=>bL r1 0 t20<|bL r1 1 t21<|aD #[(.int .i64 t20),(.int .i64 t21)] 57 fun r24=>cE (bP #[46,46] 46 #[(sv t23),(.slice (some ⟨r24,0,none⟩) 1 1)]) (.one aS) fun (t25:Slc)=>cE (bP #[46,46] 46 #[(sv t25),(.slice (if l_0_c=bO z2.1 then l_0_p else dS (fun x=>eU x (bO z2.1 *2)) l_0_p) (bO ((l_0_n:Nat):Int) - bO z2.1) (l_0_c - bO z2.1))]) (.one aS) fun (t26:Slc)=>bY (sv t26)) (aD #[(.int .i64 t20),(.int .i64 t21)] 57 fun r27=>cE (bP #[46,46] 46 #[(.slice (some ⟨r22,0,none⟩) 0 0),(.slice (if l_0_c=bO 0 then l_0_p else dS (fun x=>eU x (bO 0 *2)) l_0_p) (bO z2.1 - bO 0) (l_0_c - bO 0))]) (.one aS) fun (t28:Slc)=>cE (bP #[46,46] 46 #[(sv t28),(.slice (some ⟨r27,0,none⟩) 1 1)]) (.one aS) fun (t29:Slc)=>cE (bP #[46,46] 46 #[(sv t29),(.slice (if l_0_c=bO z2.1 then l_0_p else dS (fun x=>eU x (bO z2.1 *2)) l_0_p) (bO ((l_0_n:Nat):Int) - bO z2.1) (l_0_c - bO z2.1))]) (.one aS) fun (t30:Slc)=>bY (sv t30))) (aD #[(.int .i64 t20),(.int .i64 t21)] 57 fun r31=>aD #[] 57 fun r32=>cE (bP #[46,46] 46 #[(.slice (some ⟨r32,0,none⟩) 0 0),(.slice (if l_0_c=bO 0 then l_0_p else dS (fun x=>eU x (bO 0 *2)) l_0_p) (bO z2.1 - bO 0) (l_0_c - bO 0))]) (.one aS) fun (t33:Slc)=>cE (bP #[46,46] 46 #[(sv t33),(.slice (some ⟨r31,0,none⟩) 1 1)]) (.one aS) fun (t34:Slc)=>cE (bP #[46,46] 46 #[(sv t34),(.slice (if l_0_c=bO z2.1 then l_0_p else dS (fun x=>eU x (bO z2.1 *2)) l_0_p) (bO ((l_0_n:Nat):Int) - bO z2.1) (l_0_c - bO z2.1))]) (.one aS) fun (t35:Slc)=>bY (sv t35)))
theorem Gb (l_0_p:Option Addr) (l_0_n l_0_c:Nat) (x_1:Int×Int×Unit):Af bN Tryz.f36 [(.slice l_0_p l_0_n l_0_c),(.agg #[(.int .i64 x_1.1),(.int .i64 x_1.2.1)])] =Ek l_0_p l_0_n l_0_c x_1:=by kernel_rfl
noncomputable def Df (p_0:Pl6) (x_1:Int×Int×Unit):T:=aD #[(sv p_0.1),(sv p_0.2.1),(sv p_0.2.2.1),(sv p_0.2.2.2.1),(sv p_0.2.2.2.2.1),(sv p_0.2.2.2.2.2.1)] 32 fun r1=>aD #[(.int .i64 x_1.1),(.int .i64 x_1.2.1)] 57 fun r2=>aW r2 1 fun t3=>aA r1 2 fun t4=>aW r2 0 fun t5=>AJ t4.1 fun a6=>chk (0≤t5∧t5< (t4.2.1:Nat))<|aM a6 t5 3 1 fun t7=>cond (decide (t3< (t7.2.1:Int))) (aA r1 2 fun t8=>aW r2 0 fun t9=>AJ t8.1 fun a10=>chk (0≤t9∧t9< (t8.2.1:Nat))<|aM a10 t9 3 1 fun t11=>aW r2 1 fun t12=>AJ t11.1 fun a13=>chk (0≤t12∧t12< (t11.2.1:Nat))<|aN a13 t12 1 fun t14=>bY (.int .i64 t14)) (bY (.int .i64 (-1:Int)))
theorem FR (p_0:Pl6) (x_1:Int×Int×Unit):Af bN Tryz.f35 [(aG p_0),(.agg #[(.int .i64 x_1.1),(.int .i64 x_1.2.1)])] =Df p_0 x_1:=by kernel_rfl
noncomputable def DS (p_0:Pl6) (kernel_1_p:Option Addr) (kernel_1_n kernel_1_c:Nat):T:=aD #[(sv p_0.1),(sv p_0.2.1),(sv p_0.2.2.1),(sv p_0.2.2.2.1),(sv p_0.2.2.2.2.1),(sv p_0.2.2.2.2.2.1)] 32 fun r1=>aD #[] 57 fun r2=>cE (bP #[46,46] 46 #[(.slice (some ⟨r2,0,none⟩) 0 0),(.slice kernel_1_p kernel_1_n kernel_1_c)]) (.one aS) fun (t3:Slc)=>bZ 0 [aB,aS] (cB [aB,aS] [(.bool true),(sv t3)] fun (z5:Bool×Slc×Unit)=>cond z5.1 (bZ 2 [aI,aB,aS] (cB [aI,aB,aS] [(.int .i64 0),(.bool false),(sv z5.2.1)] fun (z7:Int×Bool×Slc×Unit)=>cA [aB] (cond (decide (z7.1< (z7.2.2.1.2.1:Int))) (bR [(.bool (!z7.2.1))]) (bR [(.bool false)])) fun (z8:Bool×Unit)=>cond z8.1 (L6 r1 fun t9 t10 t11 t12 t13 t14=>AJ z7.2.2.1.1 fun a15=>chk (0≤z7.1∧z7.1< (z7.2.2.1.2.1:Nat))<|aN a15 z7.1 2 fun t16=>aV a15 z7.1 2 1 fun t17=>bW 35 [(aH t9 t10 t11 t12 t13 t14),(.agg #[(.int .i64 t16),(.int .i64 t17)])] (.one aI) fun (t18:Int)=>bZ 4 [aI,aB,aS] (cB [aI,aB,aS] [(.int .i64 0),(.bool z7.2.1),(sv z7.2.2.1)] fun (z20:Int×Bool×Slc×Unit)=>aA r1 2 fun t21=>cond (decide (z20.1< (t21.2.1:Int))) (aA r1 2 fun t22=>AJ t22.1 fun a23=>chk (0≤z20.1∧z20.1< (t22.2.1:Nat))<|aN a23 z20.1 3 fun t24=>cA [aB,aS] (cond (t24==t18) (bW 36 [(sv z20.2.2.1),(.agg #[(.int .i64 z20.1),(.int .i64 0)])] (.one aS) fun (t26:Slc)=>cA [aB] (cond z20.2.1 (bR [(.bool true)]) (bR [(.bool (decide ((t26.2.1:Int) >(z20.2.2.1.2.1:Int))))])) fun (z27:Bool×Unit)=>bR [(.bool z27.1),(sv t26)]) (bR [(.bool z20.2.1),(sv z20.2.2.1)])) fun (z25:Bool×Slc×Unit)=>bR [(.int .i64 (wN z20.1)),(.bool z25.1),(sv z25.2.1)]) (cD 4 [(.int .i64 z20.1),(.bool z20.2.1),(sv z20.2.2.1)])) fun (z19:Int×Bool×Slc×Unit)=>bR [(.int .i64 (wN z7.1)),(.bool z19.2.1),(sv z19.2.2.1)]) (cD 2 [(.int .i64 z7.1),(.bool z7.2.1),(sv z7.2.2.1)])) fun (z6:Int×Bool×Slc×Unit)=>bR [(.bool z6.2.1),(sv z6.2.2.1)]) (cD 0 [(.bool z5.1),(sv z5.2.1)])) fun (z4:Bool×Slc×Unit)=>bY (sv z4.2.1)
theorem FE (p_0:Pl6) (kernel_1_p:Option Addr) (kernel_1_n kernel_1_c:Nat):Af bN Tryz.f55 [(aG p_0),(.slice kernel_1_p kernel_1_n kernel_1_c)] =DS p_0 kernel_1_p kernel_1_n kernel_1_c:=by kernel_rfl
noncomputable def D6 (p_0:Pl6) (states_1:Int) (items_2:Int):T:=aD #[(sv p_0.1),(sv p_0.2.1),(sv p_0.2.2.1),(sv p_0.2.2.2.1),(sv p_0.2.2.2.2.1),(sv p_0.2.2.2.2.2.1)] 32 fun r1=>L6 r1 fun t2 t3 t4 t5 t6 t7=>aD #[(sv t2),(sv t3),(sv t4),(sv t5),(sv t6),(sv t7),(.slice none 0 0),(.slice none 0 0),(.slice none 0 0),(.slice none 0 0),(.slice none 0 0),(.int .i64 0)] 44 fun r8=>aD #[(.int .i64 0),(.int .i64 0)] 57 fun r9=>bW 33 [(.pointer (some ⟨r8,0,none⟩)),(.slice (some ⟨r9,0,none⟩) 1 1),(.int .i64 (-1:Int)),(.int .i64 (-1:Int))] (.one aI) fun (t10:Int)=>bZ 0 [aI,aP] (cB [aI,aP] [(.int .i64 0),(.pointer none)] fun (z12:Int×(Option Addr)×Unit)=>aA r8 6 fun t13=>cond (decide (z12.1< (t13.2.1:Int))) (cA [aB] (aA r8 6 fun t15=>bW 34 [(.int .i64 states_1)] (.one aI) fun (t16:Int)=>bB r8 6 t15<|cond (decide ((t15.2.1:Int) >t16)) (bR [(.bool true)]) (aW r8 11 fun t17=>bW 34 [(.int .i64 items_2)] (.one aI) fun (t18:Int)=>bL r8 11 t17<|bR [(.bool (decide (t17>t18)))])) fun (z14:Bool×Unit)=>cond z14.1 (bY (.pointer none)) (bZ 2 [aI] (cB [aI] [(.int .i64 0)] fun (z20:Int×Unit)=>aA r1 0 fun t21=>aA r1 1 fun t22=>cond (decide (z20.1≤(bM .i64 ((t21.2.1:Int)+(t22.2.1:Int))))) (bZ 4 [aI,aS] (cB [aI,aS] [(.int .i64 0),(.slice none 0 0)] fun (z24:Int×Slc×Unit)=>aA r8 7 fun t25=>AJ t25.1 fun a26=>chk (0≤z12.1∧z12.1< (t25.2.1:Nat))<|aC a26 z12.1 1 fun t27=>cond (decide (z24.1< (t27.2.1:Int))) (aA r8 7 fun t28=>AJ t28.1 fun a29=>chk (0≤z12.1∧z12.1< (t28.2.1:Nat))<|aC a29 z12.1 1 fun t30=>AJ t30.1 fun a31=>chk (0≤z24.1∧z24.1< (t30.2.1:Nat))<|aN a31 z24.1 2 fun t32=>aV a31 z24.1 2 1 fun t33=>aD #[(.int .i64 0),(.int .i64 0)] 57 fun r34=>aU r34 0 t32<|aU r34 1 t33<|L6 r1 fun t35 t36 t37 t38 t39 t40=>aW r34 0 fun t41=>aW r34 1 fun t42=>bW 35 [(aH t35 t36 t37 t38 t39 t40),(.agg #[(.int .i64 t41),(.int .i64 t42)])] (.one aI) fun (t43:Int)=>cA [aS] (cond (t43==z20.1) (aW r34 0 fun t45=>aW r34 1 fun t46=>bW 36 [(sv z24.2.1),(.agg #[(.int .i64 t45),(.int .i64 (wN t46))])] (.one aS) fun (t47:Slc)=>bR [(sv t47)]) (bR [(sv z24.2.1)])) fun (z44:Slc×Unit)=>bR [(.int .i64 (wN z24.1)),(sv z44.1)]) (cD 4 [(.int .i64 z24.1),(sv z24.2.1)])) fun (z23:Int×Slc×Unit)=>cA [] (cond (decide ((z23.2.1.2.1:Int) >(0:Int))) (bW 33 [(.pointer (some ⟨r8,0,none⟩)),(sv z23.2.1),(.int .i64 z12.1),(.int .i64 z20.1)] (.one aI) fun (t49:Int)=>aA r8 8 fun t50=>aA r8 8 fun t51=>AJ t51.1 fun a52=>chk (0≤z12.1∧z12.1< (t51.2.1:Nat))<|aC a52 z12.1 1 fun t53=>aD #[(.int .i64 z20.1),(.int .i64 t49)] 84 fun r54=>cH (a52.add (bO z12.1 *1)) (sv t53)<|bB r8 8 t51<|bB r8 8 t50<|cE (bP #[50,50] 50 #[(sv t53),(.slice (some ⟨r54,0,none⟩) 1 1)]) (.one aS) fun (t55:Slc)=>bB r8 8 t50<|AJ t50.1 fun a56=>chk (0≤z12.1∧z12.1< (t50.2.1:Nat))<|cL (a56.add (bO z12.1 *1)) (sv t55)<|bR []) (bR [])) fun (z48:Unit)=>bR [(.int .i64 (wN z20.1))]) (cD 2 [(.int .i64 z20.1)])) fun (z19:Int×Unit)=>bR [(.int .i64 (wN z12.1)),(.pointer z12.2.1)])) (cD 0 [(.int .i64 z12.1),(.pointer z12.2.1)])) fun (z11:Int×(Option Addr)×Unit)=>cA [aB] (aA r8 6 fun t58=>bW 34 [(.int .i64 states_1)] (.one aI) fun (t59:Int)=>bB r8 6 t58<|cond (decide ((t58.2.1:Int) >t59)) (bR [(.bool true)]) (aW r8 11 fun t60=>bW 34 [(.int .i64 items_2)] (.one aI) fun (t61:Int)=>bL r8 11 t60<|bR [(.bool (decide (t60>t61)))])) fun (z57:Bool×Unit)=>cond z57.1 (bY (.pointer none)) (bY (.pointer (some ⟨r8,0,none⟩)))
theorem Fs (p_0:Pl6) (states_1:Int) (items_2:Int):Af bN Tryz.f8 [(aG p_0),(.int .i64 states_1),(.int .i64 items_2)] =D6 p_0 states_1 items_2:=by kernel_rfl
noncomputable def Cq (a_0:Option Addr) (k_1_p:Option Addr) (k_1_n k_1_c:Nat) (from_2:Int) (with_3:Int):T:=bZ 0 [aI,aI] (cB [aI,aI] [(.int .i64 0),(.int .i64 0)] fun (z2:Int×Int×Unit)=>AJ a_0 fun a3=>aL a3 6 fun t4=>cond (decide (z2.1< (t4.2.1:Int))) (AJ a_0 fun a5=>aL a5 6 fun t6=>AJ t6.1 fun a7=>chk (0≤z2.1∧z2.1< (t6.2.1:Nat))<|aC a7 z2.1 1 fun t8=>bW 15 [(sv t8),(.slice k_1_p k_1_n k_1_c)] (.one aB) fun (t9:Bool)=>cond t9 (bY (.int .i64 z2.1)) (bR [(.int .i64 (wN z2.1)),(.int .i64 z2.2.1)])) (cD 0 [(.int .i64 z2.1),(.int .i64 z2.2.1)])) fun (z1:Int×Int×Unit)=>AJ a_0 fun a10=>M6 a10 fun t11 t12 t13 t14 t15 t16=>bW 55 [(aH t11 t12 t13 t14 t15 t16),(.slice k_1_p k_1_n k_1_c)] (.one aS) fun (t17:Slc)=>AJ a_0 fun a18=>aL a18 6 fun t19=>aD #[(.slice k_1_p k_1_n k_1_c)] 46 fun r20=>cE (bP #[41,41] 41 #[(sv t19),(.slice (some ⟨r20,0,none⟩) 1 1)]) (.one aS) fun (t21:Slc)=>AJ a_0 fun a22=>cL (a22.add 6) (sv t21)<|AJ a_0 fun a23=>aL a23 7 fun t24=>aD #[(sv t17)] 46 fun r25=>cE (bP #[41,41] 41 #[(sv t24),(.slice (some ⟨r25,0,none⟩) 1 1)]) (.one aS) fun (t26:Slc)=>AJ a_0 fun a27=>cL (a27.add 7) (sv t26)<|AJ a_0 fun a28=>aL a28 8 fun t29=>aD #[(.slice none 0 0)] 50 fun r30=>cE (bP #[42,42] 42 #[(sv t29),(.slice (some ⟨r30,0,none⟩) 1 1)]) (.one aS) fun (t31:Slc)=>AJ a_0 fun a32=>cL (a32.add 8) (sv t31)<|AJ a_0 fun a33=>aL a33 9 fun t34=>aD #[(.int .i64 from_2)] 3 fun r35=>cE (bP #[26,26] 26 #[(sv t34),(.slice (some ⟨r35,0,none⟩) 1 1)]) (.one aS) fun (t36:Slc)=>AJ a_0 fun a37=>cL (a37.add 9) (sv t36)<|AJ a_0 fun a38=>aL a38 10 fun t39=>aD #[(.int .i64 with_3)] 3 fun r40=>cE (bP #[26,26] 26 #[(sv t39),(.slice (some ⟨r40,0,none⟩) 1 1)]) (.one aS) fun (t41:Slc)=>AJ a_0 fun a42=>cL (a42.add 10) (sv t41)<|AJ a_0 fun a43=>aR a43 11 fun t44=>AJ a_0 fun a45=>cL (a45.add 11) (.int .i64 (bM .i64 (t44+(t17.2.1:Int))))<|AJ a_0 fun a46=>aL a46 6 fun t47=>bY (.int .i64 (bM .i64 ((t47.2.1:Int) - 1)))
theorem EW (a_0:Option Addr) (k_1_p:Option Addr) (k_1_n k_1_c:Nat) (from_2:Int) (with_3:Int):Af bN Tryz.f33 [(.pointer a_0),(.slice k_1_p k_1_n k_1_c),(.int .i64 from_2),(.int .i64 with_3)] =Cq a_0 k_1_p k_1_n k_1_c from_2 with_3:=by kernel_rfl
noncomputable def DT (a_0:Option Addr) (state_1:Int) (sym_2:Int):T:=cA [aB] (cond (decide (state_1< 0)) (bR [(.bool true)]) (AJ a_0 fun a2=>aL a2 8 fun t3=>bR [(.bool (decide (state_1≥ (t3.2.1:Int))))])) fun (z1:Bool×Unit)=>cond z1.1 (bY (.int .i64 (-1:Int))) (bZ 0 [aI,aI] (cB [aI,aI] [(.int .i64 0),(.int .i64 0)] fun (z5:Int×Int×Unit)=>AJ a_0 fun a6=>aL a6 8 fun t7=>AJ t7.1 fun a8=>chk (0≤state_1∧state_1< (t7.2.1:Nat))<|aC a8 state_1 1 fun t9=>cond (decide (z5.1< (t9.2.1:Int))) (AJ a_0 fun a10=>aL a10 8 fun t11=>AJ t11.1 fun a12=>chk (0≤state_1∧state_1< (t11.2.1:Nat))<|aC a12 state_1 1 fun t13=>AJ t13.1 fun a14=>chk (0≤z5.1∧z5.1< (t13.2.1:Nat))<|aN a14 z5.1 2 fun t15=>cond (t15==sym_2) (AJ a_0 fun a16=>aL a16 8 fun t17=>AJ t17.1 fun a18=>chk (0≤state_1∧state_1< (t17.2.1:Nat))<|aC a18 state_1 1 fun t19=>AJ t19.1 fun a20=>chk (0≤z5.1∧z5.1< (t19.2.1:Nat))<|aV a20 z5.1 2 1 fun t21=>bY (.int .i64 t21)) (bR [(.int .i64 (wN z5.1)),(.int .i64 z5.2.1)])) (cD 0 [(.int .i64 z5.1),(.int .i64 z5.2.1)])) fun (z4:Int×Int×Unit)=>bY (.int .i64 (-1:Int)))
theorem FF (a_0:Option Addr) (state_1:Int) (sym_2:Int):Af bN Tryz.f12 [(.pointer a_0),(.int .i64 state_1),(.int .i64 sym_2)] =DT a_0 state_1 sym_2:=by kernel_rfl
noncomputable def C1 (a_0:Option Addr) (state_1:Int) (seq_2_p:Option Addr) (seq_2_n seq_2_c:Nat):T:=cA [aB] (cond (decide (state_1< 0)) (bR [(.bool true)]) (AJ a_0 fun a2=>aL a2 6 fun t3=>bR [(.bool (decide (state_1≥ (t3.2.1:Int))))])) fun (z1:Bool×Unit)=>cond z1.1 (bY (.int .i64 (-1:Int))) (bZ 0 [aI,aI] (cB [aI,aI] [(.int .i64 0),(.int .i64 state_1)] fun (z5:Int×Int×Unit)=>cA [aB] (cond (decide (z5.1< ((seq_2_n:Nat):Int))) (bR [(.bool (decide (z5.2.1≥ 0)))]) (bR [(.bool false)])) fun (z6:Bool×Unit)=>cond z6.1 (AJ seq_2_p fun a7=>chk (0≤z5.1∧z5.1< (seq_2_n:Nat))<|aN a7 z5.1 1 fun t8=>bW 12 [(.pointer a_0),(.int .i64 z5.2.1),(.int .i64 t8)] (.one aI) fun (t9:Int)=>bR [(.int .i64 (wN z5.1)),(.int .i64 t9)]) (cD 0 [(.int .i64 z5.1),(.int .i64 z5.2.1)])) fun (z4:Int×Int×Unit)=>bY (.int .i64 z4.2.1))
theorem El (a_0:Option Addr) (state_1:Int) (seq_2_p:Option Addr) (seq_2_n seq_2_c:Nat):Af bN Tryz.f22 [(.pointer a_0),(.int .i64 state_1),(.slice seq_2_p seq_2_n seq_2_c)] =C1 a_0 state_1 seq_2_p seq_2_n seq_2_c:=by kernel_rfl
noncomputable def C2 (a_0:Option Addr) (state_1:Int):T:=bZ 0 [aS,aI] (cB [aS,aI] [(.slice none 0 0),(.int .i64 state_1)] fun (z2:Slc×Int×Unit)=>cA [aB] (cond (decide (z2.2.1>(0:Int))) (AJ a_0 fun a4=>aL a4 6 fun t5=>bR [(.bool (decide (z2.2.1< (t5.2.1:Int))))]) (bR [(.bool false)])) fun (z3:Bool×Unit)=>cond z3.1 (AJ a_0 fun a6=>aL a6 10 fun t7=>AJ t7.1 fun a8=>chk (0≤z2.2.1∧z2.2.1< (t7.2.1:Nat))<|aN a8 z2.2.1 1 fun t9=>aD #[(.int .i64 t9)] 3 fun r10=>cE (bP #[26,26] 26 #[(.slice (some ⟨r10,0,none⟩) 1 1),(sv z2.1)]) (.one aS) fun (t11:Slc)=>AJ a_0 fun a12=>aL a12 9 fun t13=>AJ t13.1 fun a14=>chk (0≤z2.2.1∧z2.2.1< (t13.2.1:Nat))<|aN a14 z2.2.1 1 fun t15=>bR [(sv t11),(.int .i64 t15)]) (cD 0 [(sv z2.1),(.int .i64 z2.2.1)])) fun (z1:Slc×Int×Unit)=>bY (sv z1.1)
theorem Em (a_0:Option Addr) (state_1:Int):Af bN Tryz.f20 [(.pointer a_0),(.int .i64 state_1)] =C2 a_0 state_1:=by kernel_rfl
noncomputable def EN (n_0:Int):T:=cond (decide (n_0< 0)) (bY (.int .i64 0)) (cond (decide (n_0>(1099511627776:Int))) (bY (.int .i64 1099511627776)) (bY (.int .i64 n_0)))
theorem GB (n_0:Int):Af bN Tryz.f34 [(.int .i64 n_0)] =EN n_0:=by kernel_rfl
end Go.Proofs.YteoafgapjneblaaGreatDoor

namespace Go.Proofs.YteoafgapjneblaaGreatDoor
open Go Go.Eng
set_option maxRecDepth 100000
theorem mixed:Tryz.prog.follows .mixedOrders=true:=by kernel_rfl
set_option linter.unusedVariables false
section
variable {φ:AF}{h:AE}{F:List Chk}
abbrev Rq0:=fM (cG dG) (fM (dO 9 dG) (fM (cG dG) (cG dG)))
abbrev Rq1:=fM (cG (cF .i64)) (fM (dO 3 (cF .i64)) (cG (cF .i64)))
abbrev Wq0 (r:Nat) (s:Int×Int×Slc×Slc×Slc×Slc×Slc×Unit):Chk:=cW 25 r [.int .u8 s.1,.int .u8 s.2.1,sv s.2.2.1,sv s.2.2.2.1,sv s.2.2.2.2.1,sv s.2.2.2.2.2.1,sv s.2.2.2.2.2.2.1]
abbrev Wq1 (r:Nat) (s:Slc×Slc×Slc×ByteArray×Slc×Unit):Chk:=cW 65 r [sv s.1,sv s.2.1,sv s.2.2.1,.string s.2.2.2.1,sv s.2.2.2.2.1]
abbrev Wq2 (r:Nat) (s:Pl6):Chk:=cW 32 r [sv s.1,sv s.2.1,sv s.2.2.1,sv s.2.2.2.1,sv s.2.2.2.2.1,sv s.2.2.2.2.2.1]
abbrev Wq3 (r:Nat) (s:ByteArray×ByteArray×Bool×Unit):Chk:=cW 97 r [.string s.1,.string s.2.1,.bool s.2.2.1]
abbrev Wq4 (r:Nat):Chk:=cW 77 r [.slice none 0 0,.slice none 0 0,.slice none 0 0,.int .i64 (0:Int),.int .i64 (0:Int)]
abbrev Wq5 (r:Nat):Chk:=cW 65 r [.slice none 0 0,.slice none 0 0,.slice none 0 0,.string ({data:=#[]}),.slice none 0 0]
abbrev Wq6 (r:Nat):Chk:=cW 32 r [.slice none 0 0,.slice none 0 0,.slice none 0 0,.slice none 0 0,.slice none 0 0,.slice none 0 0]
noncomputable def BQ (s_0:Ib) (rules_1:Int) (right_2:Int):Option Bool:=
 (cond (decide ((s_0.2.2.1.length:Int) >rules_1))
 (some true)
 (some (decide ((s_0.2.2.2.2.2.1.length:Int) >5)))).bind fun z2=>
 cond z2
 (some false)
 ((CV (σ:=Unit) (β:=Bool) 0 (s_0.2.2.2.1.length:Int) () fun i_z6 z6=>
  (idx s_0.2.2.2.1 i_z6).bind fun e38=>
  cond (decide ((e38.length:Int) >right_2))
  (some (cQ false))
  (some (cY ()))).bind fun e_z5=>match e_z5 with
  |.next z5=>
   some true
  |.done q53=>some q53)
theorem En {s_0:Int×Int×Slc×Slc×Slc×Slc×Slc×Unit}{f:List Int}{i:List (List Int)}{m:List Int}{j:List Int}{n:List Int}{rules_1:Int}{right_2:Int}(z:Ro.SliceIs (cF .u8) φ s_0.2.2.1 f) (o:Ro.SliceIs (gK (cF .u8)) φ s_0.2.2.2.1 i) (ai:Ro.SliceIs (cF .u8) φ s_0.2.2.2.2.1 m) (a0:Ro.SliceIs (cF .u8) φ s_0.2.2.2.2.2.1 j) (aj:Ro.SliceIs (cF .u8) φ s_0.2.2.2.2.2.2.1 n) (s0:St φ (F) h) {r:Bool}(hd:BQ (s_0.1,s_0.2.1,f,i,m,j,n) rules_1 right_2=some r):
 CallsH bN 5 [(.agg #[(.int .u8 s_0.1),(.int .u8 s_0.2.1),(sv s_0.2.2.1),(sv s_0.2.2.2.1),(sv s_0.2.2.2.2.1),(sv s_0.2.2.2.2.2.1),(sv s_0.2.2.2.2.2.2.1)]),(.int .i64 rules_1),(.int .i64 right_2)] h (BL fun v h'=>∃ψ:AF,∃y:Bool,Sub φ ψ∧v=((.one aB):Sh).val y∧y=r∧St ψ (F) h'):=by
 refine AV mixed Tryz.func5 ?_;rw [Eb];unfold Cy;unfold BQ at hd;have a1:s_0.2.2.1.2.1=cI f:=z.length;have p:s_0.2.2.2.1.2.1=cI i:=o.length;have a2:s_0.2.2.2.2.2.1.2.1=cI j:=a0.length;refine AZ (vs:=[.int .u8 s_0.1,.int .u8 s_0.2.1,sv s_0.2.2.1,sv s_0.2.2.2.1,sv s_0.2.2.2.2.1,sv s_0.2.2.2.2.2.1,sv s_0.2.2.2.2.2.2.1]) s0 fun r1 ak d=> ?_;obtain ⟨a3,b,hd⟩:=bS hd;refine Ai (fun (y:Bool×Unit) w_ g=>∃ψ:AF,Sub φ ψ∧y.1=g∧St ψ (Wq0 r1 s_0::F) w_) (g:=a3) ?_ ?_
 ·refine AA (x:=s_0.2.2.1) d rfl<|AG b (by rw [a1] <;>rfl) (fun _ b=> ?_) (fun _ b=> ?_)
  ·obtain rfl:=iS b;exact AP (true,()) rfl ⟨φ,(bV _),rfl,d⟩
  refine AA (x:=s_0.2.2.2.2.2.1) d rfl ?_;obtain rfl:=iS b;exact AP ((decide ((s_0.2.2.2.2.2.1.2.1:Int) >(5:Int))),()) rfl ⟨φ,(bV _),(by rw [a2]),d⟩
 rintro z2 al ⟨k,e,rfl,q⟩;try dsimp only at hd
 refine AG hd rfl (fun _ hd=> ?_) (fun _ hd=> ?_)
 ·obtain rfl:=iS hd;exact AB ⟨k,false,e,rfl,rfl,q.tail⟩
 obtain ⟨am,a4,hd⟩:=bS hd;refine BN a4 (fun a5 (y:Int×Bool×Unit) w_ g=>∃ψ:AF,Sub k ψ∧y.1=a5∧()=g∧St ψ (Wq0 r1 s_0::F) w_) ((0:Int),false,()) rfl ⟨k,(bV _),rfl,rfl,q⟩ ?_ ?_ ?_
 ·rintro _ z6 an _ _ ⟨s,l,rfl,rfl,c⟩ a a6 t u a7;try dsimp only at a a6 t u
  refine AA (x:=s_0.2.2.2.1) c rfl<|BF (dT p t)<|AA (x:=s_0.2.2.2.1) c rfl ?_;obtain ⟨ao,a8,a⟩:=bS a;refine Hv o a8 (dR (e.trans l) c.sub) fun ap a9=> ?_;have aa:=a9.length;refine AG a (by rw [aa] <;>rfl) (fun _ a=> ?_) (fun _ a=> ?_)
  ·obtain rfl:=iS a;obtain rfl:=a7 _ rfl;try dsimp only at hd
   obtain rfl:=iS hd;exact Ae (Ah (AB ⟨s,false,(e.trans l),rfl,rfl,c.tail⟩))
  obtain rfl:=iS a;exact Al ((wN z6.1),z6.2.1,()) _ rfl rfl ⟨s,l,u,rfl,c⟩
 ·rintro _ z6 aq _ ⟨ab,ac,rfl,rfl,w⟩ ad ae;subst ae;refine AA (x:=s_0.2.2.2.1) w rfl<|As (dF p ad)<|AO (AR (z6.1,z6.2.1,()) rfl ⟨_,rfl,_,ab,ac,rfl,rfl,w⟩)
 rintro z5 ar ⟨_,rfl,_,af,ag,_,rfl,ah⟩;try dsimp only at hd
 obtain rfl:=iS hd;exact AB ⟨af,true,(e.trans ag),rfl,rfl,ah.tail⟩
noncomputable def EX (n_0:Int):Option Int:=some (if (if 1099511627776 <n_0 then 1099511627776 else n_0) >0 then (if 1099511627776 <n_0 then 1099511627776 else n_0) else 0)
theorem Ih {n_0:Int}(s0:St φ (F) h) {r:Int}(hd:EX n_0=some r):
 CallsH bN 45 [(.int .i64 n_0)] h (BL fun v h'=>∃ψ:AF,∃y:Int,Sub φ ψ∧v=((.one aI):Sh).val y∧y=r∧St ψ (F) h'):=by
 refine AV mixed Tryz.func45 ?_;rw [If];unfold Hd;unfold EX at hd;obtain rfl:=iS hd;exact AB ⟨φ,(if (if (1099511627776:Int) <n_0 then (1099511627776:Int) else n_0) >(0:Int) then (if (1099511627776:Int) <n_0 then (1099511627776:Int) else n_0) else (0:Int)),(bV _),rfl,rfl,s0⟩
noncomputable def DF (limit_0:Int):Option Bv:=(EX limit_0).bind fun t1=>some (t1,0,0)
theorem G6 {limit_0:Int}(s0:St φ (F) h) {r:Bv}(hd:DF limit_0=some r):
 CallsH bN 25 [(.int .i64 limit_0)] h (BL fun v h'=>∃ψ:AF,∃y:Option Addr,∃a:Bv,Sub φ ψ∧v=((.one aP):Sh).val y∧a=r∧St ψ (cO 107 (cG Dx) y a::F) h'):=by
 refine AV mixed Tryz.func25 ?_;rw [I8];unfold IH;unfold DF at hd;obtain ⟨i,b,hd⟩:=bS hd;refine AM (Ih s0 b) ?_;rintro _ j ⟨c,t1,d,rfl,rfl,e⟩;refine ⟨t1,rfl,?_⟩;refine AZ (vs:=[.int .i64 t1,.int .i64 (0:Int),.int .i64 (0:Int)]) e fun r2 k f=> ?_;have g:=dH (r:=Dx) (x:=(t1,(0:Int),(0:Int))) f ⟨[_],_,rfl,rfl,⟨[_],_,rfl,rfl,rfl⟩⟩;obtain rfl:=iS hd;exact AB ⟨c,(some ⟨r2,0,none⟩),(t1,(0:Int),(0:Int)),d,rfl,rfl,g⟩
noncomputable def CI (m_0:Bv):Option Int:=some (bM .i64 ((m_0.1) - (m_0.2.1)))
theorem Gc {m_0:Option Addr}{a:Bv}(s0:St φ (cO 107 (cG Dx) m_0 a::F) h) {r:Int}(hd:CI a=some r):
 CallsH bN 52 [(.pointer m_0)] h (BL fun v h'=>∃ψ:AF,∃y:Int,Sub φ ψ∧v=((.one aI):Sh).val y∧y=r∧St ψ (cO 107 (cG Dx) m_0 a::F) h'):=by
 refine AV mixed Tryz.func52 ?_;rw [GZ];unfold Ei;unfold CI at hd;obtain ⟨e,f,c,⟨_,_,rfl,rfl,_,_,rfl,rfl,rfl⟩,b⟩:=dU s0;subst c;refine AH _ rfl<|AA (x:=(a.1)) b rfl<|AH _ rfl<|AA (x:=(a.2.1)) b rfl ?_;have d:=dH (r:=Dx) (x:=((a.1),(a.2.1),(a.2.2))) b ⟨[_],_,rfl,rfl,⟨[_],_,rfl,rfl,rfl⟩⟩;obtain rfl:=iS hd;exact AB ⟨φ,(bM .i64 ((a.1) - (a.2.1))),(bV _),rfl,rfl,d⟩
noncomputable def Bj (m_0:Bv) (n_1:Int):Option (Int×Bv):=cond (decide (n_1< 0)) (some (1,m_0)) ((CI m_0).bind fun t1=>cond (decide (n_1>t1)) (some (5,m_0)) (some (0,((m_0.1),(bM .i64 ((m_0.2.1)+n_1)),(if (bM .i64 ((m_0.2.1)+n_1)) >(m_0.2.2) then (bM .i64 ((m_0.2.1)+n_1)) else (m_0.2.2))))))
theorem D7 {m_0:Option Addr}{a:Bv}{n_1:Int}(s0:St φ (cO 107 (cG Dx) m_0 a::F) h) {r:(Int×Bv)}(hd:Bj a n_1=some r):
 CallsH bN 29 [(.pointer m_0),(.int .i64 n_1)] h (BL fun v h'=>∃ψ:AF,∃y:Int,∃c:Bv,Sub φ ψ∧v=((.one aI):Sh).val y∧(y,c)=r∧St ψ (cO 107 (cG Dx) m_0 c::F) h'):=by
 refine AV mixed Tryz.func29 ?_;rw [GX];unfold Eg;unfold Bj at hd;refine AG hd rfl (fun _ hd=> ?_) (fun _ hd=> ?_)
 ·obtain rfl:=iS hd;exact AB ⟨φ,(1:Int),a,(bV _),rfl,rfl,s0⟩
 obtain ⟨m,i,hd⟩:=bS hd;refine AM (Gc s0 i) ?_;rintro _ n ⟨d,t1,e,rfl,rfl,f⟩;refine ⟨t1,rfl,?_⟩;refine AG hd rfl (fun _ hd=> ?_) (fun _ hd=> ?_)
 ·obtain rfl:=iS hd;exact AB ⟨d,(5:Int),a,e,rfl,rfl,f⟩
 obtain ⟨o,p,j,⟨_,_,rfl,rfl,_,_,rfl,rfl,rfl⟩,g⟩:=dU f;subst j;refine AH _ rfl<|AA (x:=(a.2.1)) g rfl<|AH _ rfl<|AI g rfl rfl fun q b=>AH _ rfl<|AA (x:=(a.2.2)) b rfl<|AH _ rfl<|AA (x:=(bM .i64 ((a.2.1)+n_1))) b rfl<|AH _ rfl<|AI b rfl rfl fun s k=> ?_;have l:=dH (r:=Dx) (x:=((a.1),(bM .i64 ((a.2.1)+n_1)),(if (bM .i64 ((a.2.1)+n_1)) >(a.2.2) then (bM .i64 ((a.2.1)+n_1)) else (a.2.2)))) k ⟨[_],_,rfl,rfl,⟨[_],_,rfl,rfl,rfl⟩⟩;obtain rfl:=iS hd;exact AB ⟨d,(0:Int),((a.1),(bM .i64 ((a.2.1)+n_1)),(if (bM .i64 ((a.2.1)+n_1)) >(a.2.2) then (bM .i64 ((a.2.1)+n_1)) else (a.2.2))),e,rfl,rfl,l⟩
noncomputable def CJ (m_0:Bv):Option Int:=some (m_0.2.1)
theorem Gd {m_0:Option Addr}{a:Bv}(s0:St φ (cO 107 (cG Dx) m_0 a::F) h) {r:Int}(hd:CJ a=some r):
 CallsH bN 32 [(.pointer m_0)] h (BL fun v h'=>∃ψ:AF,∃y:Int,Sub φ ψ∧v=((.one aI):Sh).val y∧y=r∧St ψ (cO 107 (cG Dx) m_0 a::F) h'):=by
 refine AV mixed Tryz.func32 ?_;rw [GY];unfold Eh;unfold CJ at hd;obtain ⟨e,f,c,⟨_,_,rfl,rfl,_,_,rfl,rfl,rfl⟩,b⟩:=dU s0;subst c;refine AH _ rfl<|AA (x:=(a.2.1)) b rfl ?_;have d:=dH (r:=Dx) (x:=((a.1),(a.2.1),(a.2.2))) b ⟨[_],_,rfl,rfl,⟨[_],_,rfl,rfl,rfl⟩⟩;obtain rfl:=iS hd;exact AB ⟨φ,(a.2.1),(bV _),rfl,rfl,d⟩
noncomputable def Ag (l_0:List ByteArray) (s_1:ByteArray):Option Int:=
 (CV (σ:=Unit) (β:=Int) 0 (l_0.length:Int) () fun i_z2 z2=>
  (idx l_0 i_z2).bind fun e17=>
  cond (bU e17==bU s_1)
  (some (cQ i_z2))
  (some (cY ()))).bind fun e_z1=>match e_z1 with
 |.next z1=>
  some (-1:Int)
 |.done q30=>some q30
theorem Ew {l_0:Slc}{b:List ByteArray}{s_1:ByteArray}(e:Ro.SliceIs dG φ l_0 b) (s0:St φ (F) h) {r:Int}(hd:Ag b s_1=some r):
 CallsH bN 42 [(sv l_0),(.string s_1)] h (BL fun v h'=>∃ψ:AF,∃y:Int,Sub φ ψ∧v=((.one aI):Sh).val y∧y=r∧St ψ (F) h'):=by
 refine AV mixed Tryz.func42 ?_;rw [DQ];unfold Cc;unfold Ag at hd;have f:l_0.2.1=cI b:=e.length;obtain ⟨a1,l,hd⟩:=bS hd;refine BN l (fun m (y:Int×Int×Unit) w_ g=>∃ψ:AF,Sub φ ψ∧y.1=m∧()=g∧St ψ (F) w_) ((0:Int),(0:Int),()) rfl ⟨φ,(bV _),rfl,rfl,s0⟩ ?_ ?_ ?_
 ·rintro _ z2 a2 _ _ ⟨i,c,rfl,rfl,d⟩ a n j k o;try dsimp only at a n j k
  refine BF (dT f j) ?_;obtain ⟨a3,p,a⟩:=bS a;refine Dv e p (dR c d.sub)<|AG a rfl (fun _ a=> ?_) (fun _ a=> ?_)
  ·obtain rfl:=iS a;obtain rfl:=o _ rfl;try dsimp only at hd
   obtain rfl:=iS hd;exact Ae (Ah (AB ⟨i,z2.1,c,rfl,rfl,d⟩))
  obtain rfl:=iS a;exact Al ((wN z2.1),z2.2.1,()) _ rfl rfl ⟨i,c,k,rfl,d⟩
 ·rintro _ z2 a4 _ ⟨q,s,rfl,rfl,t⟩ u w;subst w;refine As (dF f u)<|AO (AR (z2.1,z2.2.1,()) rfl ⟨_,rfl,_,q,s,rfl,rfl,t⟩)
 rintro z1 a5 ⟨_,rfl,_,x,z,_,rfl,a0⟩;try dsimp only at hd
 obtain rfl:=iS hd;exact AB ⟨x,(-1:Int),z,rfl,rfl,a0⟩
theorem BJ {l_0:Slc}{b:List ByteArray}{s_1:ByteArray}(s0:St φ (cR 9 dG l_0 b::F) h) {r:Int}(hd:Ag b s_1=some r):
 CallsH bN 42 [(sv l_0),(.string s_1)] h (BL fun v h'=>∃ψ:AF,∃y:Int,Sub φ ψ∧v=((.one aI):Sh).val y∧y=r∧St ψ (cR 9 dG l_0 b::F) h'):=by
 refine AV mixed Tryz.func42 ?_;rw [DQ];unfold Cc;unfold Ag at hd;have d:l_0.2.1=cI b:=(s0).rowLen;obtain ⟨a0,k,hd⟩:=bS hd;refine BN k (fun l (y:Int×Int×Unit) w_ g=>∃ψ:AF,Sub φ ψ∧y.1=l∧()=g∧St ψ (cR 9 dG l_0 b::F) w_) ((0:Int),(0:Int),()) rfl ⟨φ,(bV _),rfl,rfl,s0⟩ ?_ ?_ ?_
 ·rintro _ z2 a1 _ _ ⟨e,f,rfl,rfl,c⟩ a m i j n;try dsimp only at a m i j
  refine BF (dT d i) ?_;obtain ⟨a2,o,a⟩:=bS a;refine Jn c o<|AG a rfl (fun _ a=> ?_) (fun _ a=> ?_)
  ·obtain rfl:=iS a;obtain rfl:=n _ rfl;try dsimp only at hd
   obtain rfl:=iS hd;exact Ae (Ah (AB ⟨e,z2.1,f,rfl,rfl,c⟩))
  obtain rfl:=iS a;exact Al ((wN z2.1),z2.2.1,()) _ rfl rfl ⟨e,f,j,rfl,c⟩
 ·rintro _ z2 a3 _ ⟨p,q,rfl,rfl,s⟩ t u;subst u;refine As (dF d t)<|AO (AR (z2.1,z2.2.1,()) rfl ⟨_,rfl,_,p,q,rfl,rfl,s⟩)
 rintro z1 a4 ⟨_,rfl,_,w,x,_,rfl,z⟩;try dsimp only at hd
 obtain rfl:=iS hd;exact AB ⟨w,(-1:Int),x,rfl,rfl,z⟩
noncomputable def BV (g_0:Da) (name_1:ByteArray):Option Int:=
 (CV (σ:=Unit) (β:=Int) 0 (g_0.2.2.1.length:Int) () fun i_z3 z3=>
  (idx g_0.2.2.1 i_z3).bind fun e31=>
  (Ag e31.2 name_1).bind fun t8=>
  cond (decide (t8≥ 0))
  (some (cQ (bM .i64 (i_z3+1))))
  (some (cY ()))).bind fun e_z2=>match e_z2 with
 |.next z2=>
  some 0
 |.done q57=>some q57
theorem DU {g_0:Slc×Slc×Slc×ByteArray×Slc×Unit}{e:List HH}{f:List Hw}{c:List DP}{i:List Dw}{name_1:ByteArray}(ah:Ro.SliceIs Hb φ g_0.1 e) (ai:Ro.SliceIs Jo φ g_0.2.1 f) (j:Ro.SliceIs E1 φ g_0.2.2.1 c) (aj:Ro.SliceIs HI φ g_0.2.2.2.2.1 i) (s0:St φ (F) h) {r:Int}(hd:BV (e,f,c,g_0.2.2.2.1,i) name_1=some r):
 CallsH bN 43 [(.agg #[(sv g_0.1),(sv g_0.2.1),(sv g_0.2.2.1),(.string g_0.2.2.2.1),(sv g_0.2.2.2.2.1)]),(.string name_1)] h (BL fun v h'=>∃ψ:AF,∃y:Int,Sub φ ψ∧v=((.one aI):Sh).val y∧y=r∧St ψ (F) h'):=by
 refine AV mixed Tryz.func43 ?_;rw [Fl];unfold D1;unfold BV at hd;have k:g_0.2.2.1.2.1=cI c:=j.length;refine AZ (vs:=[sv g_0.1,sv g_0.2.1,sv g_0.2.2.1,.string g_0.2.2.2.1,sv g_0.2.2.2.2.1]) s0 fun r1 ak s=> ?_;obtain ⟨al,t,hd⟩:=bS hd;refine BN t (fun u (y:Int×Int×Unit) w_ g=>∃ψ:AF,Sub φ ψ∧y.1=u∧()=g∧St ψ (Wq1 r1 g_0::F) w_) ((0:Int),(0:Int),()) rfl ⟨φ,(bV _),rfl,rfl,s⟩ ?_ ?_ ?_
 ·rintro _ z3 am _ _ ⟨an,d,rfl,rfl,b⟩ a w l m z;try dsimp only at a w l m
  refine AA (x:=g_0.2.2.1) b rfl<|BF (dT k l)<|AA (x:=g_0.2.2.1) b rfl ?_;obtain ⟨ao,a0,a⟩:=bS a;obtain ⟨ap,aq,a1,a2,a3,a4⟩:=(j.mono d).get a0;refine AH _ a1 (Am a2 ?_);obtain ⟨_,_,rfl,rfl,⟨a7,rfl,a8⟩⟩:=a3;refine AN (x:=a7) (by rw [Ac];exact (AD b.sub (a4 1 _ rfl))) rfl ?_;obtain ⟨ar,a9,a⟩:=bS a;refine AM (Ew a8 b a9) ?_;rintro _ au ⟨n,t8,o,rfl,rfl,p⟩;refine ⟨t8,rfl,?_⟩;refine AG a rfl (fun _ a=> ?_) (fun _ a=> ?_)
  ·obtain rfl:=iS a;obtain rfl:=z _ rfl;try dsimp only at hd
   obtain rfl:=iS hd;exact Ae (Ah (AB ⟨n,(wN z3.1),(d.trans o),rfl,rfl,p.tail⟩))
  obtain rfl:=iS a;exact Al ((wN z3.1),z3.2.1,()) _ rfl rfl ⟨n,(d.trans o),m,rfl,p⟩
 ·rintro _ z3 av _ ⟨aa,ab,rfl,rfl,q⟩ ac ad;subst ad;refine AA (x:=g_0.2.2.1) q rfl<|As (dF k ac)<|AO (AR (z3.1,z3.2.1,()) rfl ⟨_,rfl,_,aa,ab,rfl,rfl,q⟩)
 rintro z2 aw ⟨_,rfl,_,ae,af,_,rfl,ag⟩;try dsimp only at hd
 obtain rfl:=iS hd;exact AB ⟨ae,(0:Int),af,rfl,rfl,ag.tail⟩
noncomputable def A3 (p_0:(List ByteArray×List ByteArray)) (name_1:ByteArray):Option Int:=(Ag p_0.1 name_1).bind fun t3=>cond (decide (t3≥ 0)) (some t3) ((Ag p_0.2 name_1).bind fun t5=>cond (decide (t5≥ 0)) (some (bM .i64 ((p_0.1.length:Int)+t5))) (some (-1:Int)))
theorem CC {p_0:Pl6}{a:List ByteArray}{b:List ByteArray}{name_1:ByteArray}(s0:St φ (cR 9 dG p_0.1 a::cR 9 dG p_0.2.1 b::F) h) {r:Int}(hd:A3 (a,b) name_1=some r):
 CallsH bN 44 [(aG p_0),(.string name_1)] h (BL fun v h'=>∃ψ:AF,∃y:Int,Sub φ ψ∧v=((.one aI):Sh).val y∧y=r∧St ψ (cR 9 dG p_0.1 a::cR 9 dG p_0.2.1 b::F) h'):=by
 refine AV mixed Tryz.func44 ?_;rw [Ga];unfold Ej;unfold A3 at hd;have j:p_0.1.2.1=cI a:=(s0).rowLen;refine AZ (vs:=[sv p_0.1,sv p_0.2.1,sv p_0.2.2.1,sv p_0.2.2.2.1,sv p_0.2.2.2.2.1,sv p_0.2.2.2.2.2.1]) s0 fun r1 o f=>AA (x:=p_0.1) f rfl ?_;obtain ⟨p,k,hd⟩:=bS hd;refine AM (BJ f.at1 k) ?_;rintro _ q ⟨l,t3,c,rfl,rfl,d⟩;refine ⟨t3,rfl,?_⟩;refine AG hd rfl (fun _ hd=> ?_) (fun _ hd=> ?_)
 ·obtain rfl:=iS hd;exact AB ⟨l,t3,c,rfl,rfl,d.at1.tail.at1.at1⟩
 refine AA (x:=p_0.2.1) d.at1 rfl ?_;obtain ⟨s,m,hd⟩:=bS hd;refine AM (BJ d.at2 m) ?_;rintro _ t ⟨g,t5,i,rfl,rfl,e⟩;refine ⟨t5,rfl,?_⟩;refine AG hd rfl (fun _ hd=> ?_) (fun _ hd=> ?_)
 ·refine AA (x:=p_0.1) e.at2 rfl ?_;obtain rfl:=iS hd;have n:=e.at2.tail.at1;exact AB ⟨g,(bM .i64 ((p_0.1.2.1:Int)+t5)),(c.trans i),rfl,(by rw [j]),n⟩
 obtain rfl:=iS hd;exact AB ⟨g,(-1:Int),(c.trans i),rfl,rfl,e.at2.tail.at1⟩
noncomputable def BK (a_0:G5) (x_1:Aj):Option Int:=(idx a_0.2.2.1 x_1.1).bind fun e33=>cond (decide (x_1.2≥ (e33.2.1.length:Int))) (some (-1:Int)) ((idx e33.2.1 x_1.2).bind fun e45=>some e45)
theorem CK {a_0:Option Addr}{a:G5}{x_1:Int×Int×Unit}(s0:St φ (cO 69 (cG CH) a_0 a::F) h) {r:Int}(hd:BK a (x_1.1,x_1.2.1)=some r):
 CallsH bN 47 [(.pointer a_0),(.agg #[(.int .i64 x_1.1),(.int .i64 x_1.2.1)])] h (BL fun v h'=>∃ψ:AF,∃y:Int,Sub φ ψ∧v=((.one aI):Sh).val y∧y=r∧St ψ (cO 69 (cG CH) a_0 a::F) h'):=by
 refine AV mixed Tryz.func47 ?_;rw [Fj];unfold Dz;unfold BK at hd;refine AZ (vs:=[.int .i64 x_1.1,.int .i64 x_1.2.1]) s0 fun r1 ab q=> ?_;obtain ⟨ac,ad,s,⟨_,_,rfl,⟨e,rfl,f⟩,_,_,rfl,⟨g,rfl,i⟩,_,_,rfl,⟨c,rfl,d⟩,_,_,rfl,⟨j,rfl,k⟩,_,_,rfl,⟨l,rfl,m⟩,_,_,rfl,⟨n,rfl,o⟩,_,_,rfl,rfl,rfl⟩,b⟩:=dU q.at1;subst s;refine AH _ rfl<|AA (x:=c) b rfl<|AA (x:=x_1.1) b.at1 rfl ?_;obtain ⟨ae,t,hd⟩:=bS hd;obtain ⟨af,ag,u,w,z,a0⟩:=d.get t;refine AH _ u (Am w ?_);obtain ⟨_,_,rfl,rfl,⟨_,_,rfl,⟨a5,rfl,p⟩,a4⟩⟩:=z;have a6:=p.length;obtain rfl:=a4;refine AN (x:=a5) (by rw [Ac];exact (AD b.sub (a0 1 _ rfl))) rfl<|AA (x:=x_1.2.1) b.at1 rfl<|AG hd (by rw [a6] <;>rfl) (fun _ hd=> ?_) (fun _ hd=> ?_)
 ·have a7:=dH (r:=CH) (x:=(a.1,a.2.1,a.2.2.1,a.2.2.2.1,a.2.2.2.2.1,a.2.2.2.2.2.1,a.2.2.2.2.2.2.1,(a.2.2.2.2.2.2.2))) b ⟨[_],_,rfl,⟨e,rfl,f⟩,⟨[_],_,rfl,⟨g,rfl,i⟩,⟨[_],_,rfl,⟨c,rfl,d⟩,⟨[_],_,rfl,⟨j,rfl,k⟩,⟨[_],_,rfl,⟨l,rfl,m⟩,⟨[_],_,rfl,⟨n,rfl,o⟩,⟨[_],_,rfl,rfl,rfl⟩⟩⟩⟩⟩⟩⟩;obtain rfl:=iS hd;exact AB ⟨φ,(-1:Int),(bV _),rfl,rfl,a7.at1.tail⟩
 refine AA (x:=x_1.2.1) b.at1 rfl ?_;obtain ⟨a8,a9,hd⟩:=bS hd;refine Dv p a9 b.sub ?_;have aa:=dH (r:=CH) (x:=(a.1,a.2.1,a.2.2.1,a.2.2.2.1,a.2.2.2.2.1,a.2.2.2.2.2.1,a.2.2.2.2.2.2.1,(a.2.2.2.2.2.2.2))) b ⟨[_],_,rfl,⟨e,rfl,f⟩,⟨[_],_,rfl,⟨g,rfl,i⟩,⟨[_],_,rfl,⟨c,rfl,d⟩,⟨[_],_,rfl,⟨j,rfl,k⟩,⟨[_],_,rfl,⟨l,rfl,m⟩,⟨[_],_,rfl,⟨n,rfl,o⟩,⟨[_],_,rfl,rfl,rfl⟩⟩⟩⟩⟩⟩⟩;obtain rfl:=iS hd;exact AB ⟨φ,a8,(bV _),rfl,rfl,aa.at1.tail⟩
noncomputable def DV (p_0:Aw) (sym_1:Int):Option Bool:=(cond (decide (sym_1≥ 0)) (some (decide (sym_1< (p_0.1.length:Int)))) (some false)).bind fun z2=>some z2
theorem Ik {p_0:Pl6}{b:List ByteArray}{d:List ByteArray}{e:List A0}{f:List Int}{i:List Int}{j:List ByteArray}{sym_1:Int}(k:Ro.SliceIs dG φ p_0.1 b) (q:Ro.SliceIs dG φ p_0.2.1 d) (s:Ro.SliceIs A5 φ p_0.2.2.1 e) (t:Ro.SliceIs (cF .i64) φ p_0.2.2.2.1 f) (u:Ro.SliceIs (cF .i64) φ p_0.2.2.2.2.1 i) (w:Ro.SliceIs dG φ p_0.2.2.2.2.2.1 j) (s0:St φ (F) h) {r:Bool}(hd:DV (b,d,e,f,i,j) sym_1=some r):
 CallsH bN 48 [(aG p_0),(.int .i64 sym_1)] h (BL fun v h'=>∃ψ:AF,∃y:Bool,Sub φ ψ∧v=((.one aB):Sh).val y∧y=r∧St ψ (F) h'):=by
 refine AV mixed Tryz.func48 ?_;rw [Ig];unfold He;unfold DV at hd;have l:p_0.1.2.1=cI b:=k.length;refine AZ (vs:=[sv p_0.1,sv p_0.2.1,sv p_0.2.2.1,sv p_0.2.2.2.1,sv p_0.2.2.2.2.1,sv p_0.2.2.2.2.2.1]) s0 fun r1 z c=> ?_;obtain ⟨m,a,hd⟩:=bS hd;refine Ai (fun (y:Bool×Unit) w_ g=>∃ψ:AF,Sub φ ψ∧y.1=g∧St ψ (Wq2 r1 p_0::F) w_) (g:=m) ?_ ?_
 ·refine AG a rfl (fun _ a=> ?_) (fun _ a=> ?_)
  ·refine AA (x:=p_0.1) c rfl ?_;obtain rfl:=iS a;exact AP ((decide (sym_1< (p_0.1.2.1:Int))),()) rfl ⟨φ,(bV _),(by rw [l]),c⟩
  obtain rfl:=iS a;exact AP (false,()) rfl ⟨φ,(bV _),rfl,c⟩
 rintro z2 a0 ⟨n,o,rfl,p⟩;try dsimp only at hd
 obtain rfl:=iS hd;exact AB ⟨n,z2.1,o,rfl,rfl,p.tail⟩
noncomputable def BH (s_0:List Aj) (v_1:Aj):Option Int:=
 (CV (σ:=Unit) (β:=Int) 0 (s_0.length:Int) () fun i_z3 z3=>
  (idx s_0 i_z3).bind fun e25=>
  cond ((v_1.1==e25.1) && ((v_1.2==e25.2) && true))
  (some (cQ i_z3))
  (some (cY ()))).bind fun e_z2=>match e_z2 with
 |.next z2=>
  some (-1:Int)
 |.done q42=>some q42
theorem Cd {s_0:Slc}{b:List Aj}{v_1:Int×Int×Unit}(s0:St φ (cR 57 Av s_0 b::F) h) {r:Int}(hd:BH b (v_1.1,v_1.2.1)=some r):
 CallsH bN 61 [(sv s_0),(.agg #[(.int .i64 v_1.1),(.int .i64 v_1.2.1)])] h (BL fun v h'=>∃ψ:AF,∃y:Int,Sub φ ψ∧v=((.one aI):Sh).val y∧y=r∧St ψ (cR 57 Av s_0 b::F) h'):=by
 refine AV mixed Tryz.func61 ?_;rw [DD];unfold B8;unfold BH at hd;have d:s_0.2.1=cI b:=(s0).rowLen;refine AZ (vs:=[.int .i64 v_1.1,.int .i64 v_1.2.1]) s0 fun r1 a9 m=> ?_;obtain ⟨aa,n,hd⟩:=bS hd;refine BN n (fun o (y:Int×Int×Unit) w_ g=>∃ψ:AF,Sub φ ψ∧y.1=o∧()=g∧St ψ (cW 57 r1 [.int .i64 v_1.1,.int .i64 v_1.2.1]::cR 57 Av s_0 b::F) w_) ((0:Int),(0:Int),()) rfl ⟨φ,(bV _),rfl,rfl,m.at1.at1⟩ ?_ ?_ ?_
 ·rintro _ z3 ab _ _ ⟨e,f,rfl,rfl,c⟩ a p i j q;try dsimp only at a p i j
  refine BF (dT d i)<|AA (x:=v_1.1) c rfl<|AA (x:=v_1.2.1) c rfl ?_;obtain ⟨k,s,a⟩:=bS a;obtain ⟨ac,ad,t,u,w,l⟩:=(c.at1).get s;refine AH _ t (Am u ?_);obtain ⟨_,_,rfl,rfl,rfl⟩:=w;refine AN (x:=k.1) (l 0 _ rfl) rfl<|AN (x:=k.2) (by rw [Ac];exact (l 1 _ rfl)) rfl<|AG a rfl (fun _ a=> ?_) (fun _ a=> ?_)
  ·obtain rfl:=iS a;obtain rfl:=q _ rfl;try dsimp only at hd
   obtain rfl:=iS hd;exact Ae (Ah (AB ⟨e,z3.1,f,rfl,rfl,c.tail⟩))
  obtain rfl:=iS a;exact Al ((wN z3.1),z3.2.1,()) _ rfl rfl ⟨e,f,j,rfl,c.at1.at1⟩
 ·rintro _ z3 ae _ ⟨a1,a2,rfl,rfl,a3⟩ a4 a5;subst a5;refine As (dF d a4)<|AO (AR (z3.1,z3.2.1,()) rfl ⟨_,rfl,_,a1,a2,rfl,rfl,a3.at1.at1⟩)
 rintro z2 af ⟨_,rfl,_,a6,a7,_,rfl,a8⟩;try dsimp only at hd
 obtain rfl:=iS hd;exact AB ⟨a6,(-1:Int),a7,rfl,rfl,a8.tail⟩
noncomputable def Ap (s_0:List Aj) (v_1:Aj):Option Bool:=(BH s_0 (v_1.1,v_1.2)).bind fun t4=>some (decide (t4≥ 0))
theorem CO {s_0:Slc}{a:List Aj}{v_1:Int×Int×Unit}(s0:St φ (cR 57 Av s_0 a::F) h) {r:Bool}(hd:Ap a (v_1.1,v_1.2.1)=some r):
 CallsH bN 49 [(sv s_0),(.agg #[(.int .i64 v_1.1),(.int .i64 v_1.2.1)])] h (BL fun v h'=>∃ψ:AF,∃y:Bool,Sub φ ψ∧v=((.one aB):Sh).val y∧y=r∧St ψ (cR 57 Av s_0 a::F) h'):=by
 refine AV mixed Tryz.func49 ?_;rw [Ck];unfold Bw;unfold Ap at hd;refine AZ (vs:=[.int .i64 v_1.1,.int .i64 v_1.2.1]) s0 fun r1 g b=>AA (x:=v_1.1) b rfl<|AA (x:=v_1.2.1) b rfl ?_;obtain ⟨i,c,hd⟩:=bS hd;refine AM (Cd (v_1:=(v_1.1,v_1.2.1,())) b.at1 c) ?_;rintro _ j ⟨d,t4,e,rfl,rfl,f⟩;refine ⟨t4,rfl,?_⟩;obtain rfl:=iS hd;exact AB ⟨d,(decide (t4≥ (0:Int))),e,rfl,rfl,f.at1.tail⟩
noncomputable def Bf (c_0:Int):Option Bool:=(cond (c_0==95) (some true) (cond (decide (c_0≥ 97)) (cond (decide (c_0≤122)) (some true) (cond (decide (c_0≥ 65)) (some (decide (c_0≤90))) (some false))) (cond (decide (c_0≥ 65)) (some (decide (c_0≤90))) (some false)))).bind fun z1=>some z1
theorem FS {c_0:Int}(s0:St φ (F) h) {r:Bool}(hd:Bf c_0=some r):
 CallsH bN 89 [(.int .u8 c_0)] h (BL fun v h'=>∃ψ:AF,∃y:Bool,Sub φ ψ∧v=((.one aB):Sh).val y∧y=r∧St ψ (F) h'):=by
 refine AV mixed Tryz.func89 ?_;rw [FQ];unfold De;unfold Bf at hd;obtain ⟨b,a,hd⟩:=bS hd;refine Ai (fun (y:Bool×Unit) w_ g=>∃ψ:AF,Sub φ ψ∧y.1=g∧St ψ (F) w_) (g:=b) ?_ ?_
 ·refine AG a rfl (fun _ a=> ?_) (fun _ a=> ?_)
  ·obtain rfl:=iS a;exact AP (true,()) rfl ⟨φ,(bV _),rfl,s0⟩
  refine AG a rfl (fun _ a=> ?_) (fun _ a=> ?_)
  ·refine AG a rfl (fun _ a=> ?_) (fun _ a=> ?_)
   ·obtain rfl:=iS a;exact AP (true,()) rfl ⟨φ,(bV _),rfl,s0⟩
   refine AG a rfl (fun _ a=> ?_) (fun _ a=> ?_)
   ·obtain rfl:=iS a;exact AP ((decide (c_0≤(90:Int))),()) rfl ⟨φ,(bV _),rfl,s0⟩
   obtain rfl:=iS a;exact AP (false,()) rfl ⟨φ,(bV _),rfl,s0⟩
  refine AG a rfl (fun _ a=> ?_) (fun _ a=> ?_)
  ·obtain rfl:=iS a;exact AP ((decide (c_0≤(90:Int))),()) rfl ⟨φ,(bV _),rfl,s0⟩
  obtain rfl:=iS a;exact AP (false,()) rfl ⟨φ,(bV _),rfl,s0⟩
 rintro z1 f ⟨c,d,rfl,e⟩;try dsimp only at hd
 obtain rfl:=iS hd;exact AB ⟨c,z1.1,d,rfl,rfl,e⟩
noncomputable def Ce (c_0:Int):Option Bool:=(cond (decide (c_0≥ 48)) (some (decide (c_0≤57))) (some false)).bind fun z1=>some z1
theorem Ft {c_0:Int}(s0:St φ (F) h) {r:Bool}(hd:Ce c_0=some r):
 CallsH bN 90 [(.int .u8 c_0)] h (BL fun v h'=>∃ψ:AF,∃y:Bool,Sub φ ψ∧v=((.one aB):Sh).val y∧y=r∧St ψ (F) h'):=by
 refine AV mixed Tryz.func90 ?_;rw [Fm];unfold D2;unfold Ce at hd;obtain ⟨b,a,hd⟩:=bS hd;refine Ai (fun (y:Bool×Unit) w_ g=>∃ψ:AF,Sub φ ψ∧y.1=g∧St ψ (F) w_) (g:=b) ?_ ?_
 ·refine AG a rfl (fun _ a=> ?_) (fun _ a=> ?_)
  ·obtain rfl:=iS a;exact AP ((decide (c_0≤(57:Int))),()) rfl ⟨φ,(bV _),rfl,s0⟩
  obtain rfl:=iS a;exact AP (false,()) rfl ⟨φ,(bV _),rfl,s0⟩
 rintro z1 f ⟨c,d,rfl,e⟩;try dsimp only at hd
 obtain rfl:=iS hd;exact AB ⟨c,z1.1,d,rfl,rfl,e⟩
noncomputable def CF (s_0:ByteArray):Option Bool:=
 (CV (σ:=Unit) (β:=Bool) 0 ((bX s_0:Nat):Int) () fun i_z2 z2=>
  (need (0≤i_z2∧i_z2< (bX s_0:Nat))<|
  (Bf ((cK (C8 s_0 (bO i_z2)):Nat):Int)).bind fun t4=>
  cond (!t4)
  (cond (i_z2==0)
   (some true)
   (need (0≤i_z2∧i_z2< (bX s_0:Nat))<|
    (Ce ((cK (C8 s_0 (bO i_z2)):Nat):Int)).bind fun t5=>
    some (!t5)))
  (some false)).bind fun z3=>
  cond z3
  (some (cQ false))
  (some (cY ()))).bind fun e_z1=>match e_z1 with
 |.next z1=>
  some (!(bU s_0==bU {data:=#[]}))
 |.done q47=>some q47
theorem GC {s_0:ByteArray}(s0:St φ (F) h) {r:Bool}(hd:CF s_0=some r):
 CallsH bN 67 [(.string s_0)] h (BL fun v h'=>∃ψ:AF,∃y:Bool,Sub φ ψ∧v=((.one aB):Sh).val y∧y=r∧St ψ (F) h'):=by
 refine AV mixed Tryz.func67 ?_;rw [F9];unfold EL;unfold CF at hd;obtain ⟨aa,n,hd⟩:=bS hd;refine BN n (fun o (y:Int×Bool×Unit) w_ g=>∃ψ:AF,Sub φ ψ∧y.1=o∧()=g∧St ψ (F) w_) ((0:Int),false,()) rfl ⟨φ,(bV _),rfl,rfl,s0⟩ ?_ ?_ ?_
 ·rintro _ z2 ab _ _ ⟨p,e,rfl,rfl,q⟩ b s f i t;try dsimp only at b s f i
  refine BF (by exact decide_eq_true f) ?_;obtain ⟨u,a,b⟩:=bS b;refine Ai (fun (y:Bool×Unit) w_ g=>∃ψ:AF,Sub p ψ∧y.1=g∧St ψ (F) w_) (g:=u) ?_ ?_
  ·refine Cb a id fun ac a=> ?_;obtain ⟨ad,w,a⟩:=bS a;refine AM (FS q w) ?_;rintro _ ae ⟨j,t4,c,rfl,rfl,d⟩;refine ⟨t4,rfl,?_⟩;refine AG a rfl (fun _ a=> ?_) (fun _ a=> ?_)
   ·refine AG a rfl (fun _ a=> ?_) (fun _ a=> ?_)
    ·obtain rfl:=iS a;exact AP (true,()) rfl ⟨j,c,rfl,d⟩
    refine Cb a id fun af a=> ?_;obtain ⟨ag,x,a⟩:=bS a;refine AM (Ft d x) ?_;rintro _ ah ⟨z,t5,a0,rfl,rfl,a1⟩;refine ⟨t5,rfl,?_⟩;obtain rfl:=iS a;exact AP ((!t5),()) rfl ⟨z,(c.trans a0),rfl,a1⟩
   obtain rfl:=iS a;exact AP (false,()) rfl ⟨j,c,rfl,d⟩
  rintro z3 ai ⟨k,l,rfl,m⟩;try dsimp only at b
  refine AG b rfl (fun _ b=> ?_) (fun _ b=> ?_)
  ·obtain rfl:=iS b;obtain rfl:=t _ rfl;try dsimp only at hd
   obtain rfl:=iS hd;exact Ae (Ah (AB ⟨k,false,(e.trans l),rfl,rfl,m⟩))
  obtain rfl:=iS b;exact Al ((wN z2.1),z2.2.1,()) _ rfl rfl ⟨k,(e.trans l),i,rfl,m⟩
 ·rintro _ z2 aj _ ⟨a2,a3,rfl,rfl,a4⟩ a5 a6;subst a6;refine As (by exact decide_eq_false (Int.not_lt.2 a5))<|AO (AR (z2.1,z2.2.1,()) rfl ⟨_,rfl,_,a2,a3,rfl,rfl,a4⟩)
 rintro z1 ak ⟨_,rfl,_,a7,a8,_,rfl,a9⟩;try dsimp only at hd
 obtain rfl:=iS hd;exact AB ⟨a7,(!(bU s_0==bU {data:=#[]})),a8,rfl,rfl,a9⟩
noncomputable def Au (s_0:ByteArray):Option Bool:=(cond (decide (((bX s_0:Nat):Int) ≤32)) ((CF s_0).bind fun t2=>some t2) (some false)).bind fun z1=>some z1
theorem Bg {s_0:ByteArray}(s0:St φ (F) h) {r:Bool}(hd:Au s_0=some r):
 CallsH bN 56 [(.string s_0)] h (BL fun v h'=>∃ψ:AF,∃y:Bool,Sub φ ψ∧v=((.one aB):Sh).val y∧y=r∧St ψ (F) h'):=by
 refine AV mixed Tryz.func56 ?_;rw [F7];unfold EJ;unfold Au at hd;obtain ⟨b,a,hd⟩:=bS hd;refine Ai (fun (y:Bool×Unit) w_ g=>∃ψ:AF,Sub φ ψ∧y.1=g∧St ψ (F) w_) (g:=b) ?_ ?_
 ·refine AG a rfl (fun _ a=> ?_) (fun _ a=> ?_)
  ·obtain ⟨l,c,a⟩:=bS a;refine AM (GC s0 c) ?_;rintro _ m ⟨d,t2,e,rfl,rfl,f⟩;refine ⟨t2,rfl,?_⟩;obtain rfl:=iS a;exact AP (t2,()) rfl ⟨d,e,rfl,f⟩
  obtain rfl:=iS a;exact AP (false,()) rfl ⟨φ,(bV _),rfl,s0⟩
 rintro z1 n ⟨i,j,rfl,k⟩;try dsimp only at hd
 obtain rfl:=iS hd;exact AB ⟨i,z1.1,j,rfl,rfl,k⟩
noncomputable def BM (p_0:Hw):Option Bool:=
 cond (!(bU p_0.1==bU {data:=#[]}))
 ((cond (decide (((bX p_0.1:Nat):Int) ≤32))
  (cond (bU p_0.2.1==bU {data:=#[]})
   (some (!p_0.2.2))
   (some false))
  (some false)).bind fun z3=>
  some z3)
 ((CV (σ:=Unit) (β:=Bool) 1 ((bX p_0.2.1:Nat):Int) () fun i_z8 z8=>
  need (0≤i_z8∧i_z8< (bX p_0.2.1:Nat))<|
  need (0≤(bM .i64 (i_z8 - 1))∧(bM .i64 (i_z8 - 1)) < (bX p_0.2.1:Nat))<|
  cond (decide (((cK (C8 p_0.2.1 (bO i_z8)):Nat):Int) ≤((cK (C8 p_0.2.1 (bO (bM .i64 (i_z8 - 1)))):Nat):Int)))
  (some (cQ false))
  (some (cY ()))).bind fun e_z7=>match e_z7 with
  |.next z7=>
   some (!(bU p_0.2.1==bU {data:=#[]}))
  |.done q40=>some q40)
theorem C3 {p_0:ByteArray×ByteArray×Bool×Unit}(s0:St φ (F) h) {r:Bool}(hd:BM (p_0.1,p_0.2.1,p_0.2.2.1)=some r):
 CallsH bN 57 [(.agg #[(.string p_0.1),(.string p_0.2.1),(.bool p_0.2.2.1)])] h (BL fun v h'=>∃ψ:AF,∃y:Bool,Sub φ ψ∧v=((.one aB):Sh).val y∧y=r∧St ψ (F) h'):=by
 refine AV mixed Tryz.func57 ?_;rw [FD];unfold DR;unfold BM at hd;refine AZ (vs:=[.string p_0.1,.string p_0.2.1,.bool p_0.2.2.1]) s0 fun r1 a4 c=>AA (x:=p_0.1) c rfl<|AG hd rfl (fun _ hd=> ?_) (fun _ hd=> ?_)
 ·obtain ⟨m,b,hd⟩:=bS hd;refine Ai (fun (y:Bool×Unit) w_ g=>∃ψ:AF,Sub φ ψ∧y.1=g∧St ψ (Wq3 r1 p_0::F) w_) (g:=m) ?_ ?_
  ·refine AA (x:=p_0.1) c rfl<|AG b rfl (fun _ b=> ?_) (fun _ b=> ?_)
   ·refine AA (x:=p_0.2.1) c rfl<|AG b rfl (fun _ b=> ?_) (fun _ b=> ?_)
    ·refine AA (x:=p_0.2.2.1) c rfl ?_;obtain rfl:=iS b;exact AP ((!p_0.2.2.1),()) rfl ⟨φ,(bV _),rfl,c⟩
    obtain rfl:=iS b;exact AP (false,()) rfl ⟨φ,(bV _),rfl,c⟩
   obtain rfl:=iS b;exact AP (false,()) rfl ⟨φ,(bV _),rfl,c⟩
  rintro z3 a5 ⟨n,o,rfl,p⟩;try dsimp only at hd
  obtain rfl:=iS hd;exact AB ⟨n,z3.1,o,rfl,rfl,p.tail⟩
 obtain ⟨a6,q,hd⟩:=bS hd;refine BN q (fun s (y:Int×Bool×Unit) w_ g=>∃ψ:AF,Sub φ ψ∧y.1=s∧()=g∧St ψ (Wq3 r1 p_0::F) w_) ((1:Int),false,()) rfl ⟨φ,(bV _),rfl,rfl,c⟩ ?_ ?_ ?_
 ·rintro _ z8 a7 _ _ ⟨e,f,rfl,rfl,d⟩ a t i j u;try dsimp only at a t i j
  refine AA (x:=p_0.2.1) d rfl<|BF (by exact decide_eq_true i)<|AA (x:=p_0.2.1) d rfl<|Cb a id fun a8 a=>AA (x:=p_0.2.1) d rfl<|Cb a id fun a9 a=>AG a rfl (fun _ a=> ?_) (fun _ a=> ?_)
  ·obtain rfl:=iS a;obtain rfl:=u _ rfl;try dsimp only at hd
   obtain rfl:=iS hd;exact Ae (Ah (AB ⟨e,false,f,rfl,rfl,d.tail⟩))
  obtain rfl:=iS a;exact Al ((wN z8.1),z8.2.1,()) _ rfl rfl ⟨e,f,j,rfl,d⟩
 ·rintro _ z8 aa _ ⟨w,z,rfl,rfl,k⟩ a0 a1;subst a1;refine AA (x:=p_0.2.1) k rfl<|As (by exact decide_eq_false (Int.not_lt.2 a0))<|AO (AR (z8.1,z8.2.1,()) rfl ⟨_,rfl,_,w,z,rfl,rfl,k⟩)
 rintro z7 ab ⟨_,rfl,_,a2,a3,_,rfl,l⟩;try dsimp only at hd
 refine AA (x:=p_0.2.1) l rfl ?_;obtain rfl:=iS hd;exact AB ⟨a2,(!(bU p_0.2.1==bU {data:=#[]})),a3,rfl,rfl,l.tail⟩
noncomputable def Bh (s_0:ByteArray):Option Bool:=
 cond (decide (((bX s_0:Nat):Int) >200))
 (some false)
 ((CV (σ:=Int) (β:=Bool) 0 ((bX s_0:Nat):Int) 1 fun i_z2 z2=>
  need (0≤i_z2∧i_z2< (bX s_0:Nat))<|
  (cond (((cK (C8 s_0 (bO i_z2)):Nat):Int)==123)
  (some (bM .i64 (z2+1)))
  (some z2)).bind fun z3=>
  need (0≤i_z2∧i_z2< (bX s_0:Nat))<|
  (cond (((cK (C8 s_0 (bO i_z2)):Nat):Int)==125)
  (some (bM .i64 (z3 - 1)))
  (some z3)).bind fun z4=>
  (cond (decide (z4>4))
  (some true)
  (some (z4==0))).bind fun z5=>
  cond z5
  (some (cQ false))
  (some (cY z4))).bind fun e_z1=>match e_z1 with
  |.next z1=>
   some (z1==1)
  |.done q48=>some q48)
theorem DG {s_0:ByteArray}(s0:St φ (F) h) {r:Bool}(hd:Bh s_0=some r):
 CallsH bN 58 [(.string s_0)] h (BL fun v h'=>∃ψ:AF,∃y:Bool,Sub φ ψ∧v=((.one aB):Sh).val y∧y=r∧St ψ (F) h'):=by
 refine AV mixed Tryz.func58 ?_;rw [FP];unfold Dd;unfold Bh at hd;refine AG hd rfl (fun _ hd=> ?_) (fun _ hd=> ?_)
 ·obtain rfl:=iS hd;exact AB ⟨φ,false,(bV _),rfl,rfl,s0⟩
 obtain ⟨ac,w,hd⟩:=bS hd;refine BN w (fun x (y:Int×Int×Bool×Unit) w_ g=>∃ψ:AF,Sub φ ψ∧y.1=x∧y.2.1=g∧St ψ (F) w_) ((0:Int),(1:Int),false,()) rfl ⟨φ,(bV _),rfl,rfl,s0⟩ ?_ ?_ ?_
 ·rintro _ z2 ad _ _ ⟨e,j,rfl,rfl,k⟩ a z l m a0;try dsimp only at a z l m
  refine BF (by exact decide_eq_true l)<|Cb a id fun ae a=> ?_;obtain ⟨a1,b,a⟩:=bS a;refine Ai (fun (y:Int×Unit) w_ g=>∃ψ:AF,Sub e ψ∧y.1=g∧St ψ (F) w_) (g:=a1) ?_ ?_
  ·refine AG b rfl (fun _ b=> ?_) (fun _ b=> ?_)
   ·obtain rfl:=iS b;exact AP ((wN z2.2.1),()) rfl ⟨e,(bV _),rfl,k⟩
   obtain rfl:=iS b;exact AP (z2.2.1,()) rfl ⟨e,(bV _),rfl,k⟩
  rintro z3 af ⟨f,n,rfl,o⟩;try dsimp only at a
  refine Cb a id fun ag a=> ?_;obtain ⟨a2,c,a⟩:=bS a;refine Ai (fun (y:Int×Unit) w_ g=>∃ψ:AF,Sub f ψ∧y.1=g∧St ψ (F) w_) (g:=a2) ?_ ?_
  ·refine AG c rfl (fun _ c=> ?_) (fun _ c=> ?_)
   ·obtain rfl:=iS c;exact AP ((bM .i64 (z3.1 - (1:Int))),()) rfl ⟨f,(bV _),rfl,o⟩
   obtain rfl:=iS c;exact AP (z3.1,()) rfl ⟨f,(bV _),rfl,o⟩
  rintro z4 ah ⟨i,p,rfl,q⟩;try dsimp only at a
  obtain ⟨a3,d,a⟩:=bS a;refine Ai (fun (y:Bool×Unit) w_ g=>∃ψ:AF,Sub i ψ∧y.1=g∧St ψ (F) w_) (g:=a3) ?_ ?_
  ·refine AG d rfl (fun _ d=> ?_) (fun _ d=> ?_)
   ·obtain rfl:=iS d;exact AP (true,()) rfl ⟨i,(bV _),rfl,q⟩
   obtain rfl:=iS d;exact AP ((z4.1==(0:Int)),()) rfl ⟨i,(bV _),rfl,q⟩
  rintro z5 ai ⟨s,t,rfl,u⟩;try dsimp only at a
  refine AG a rfl (fun _ a=> ?_) (fun _ a=> ?_)
  ·obtain rfl:=iS a;obtain rfl:=a0 _ rfl;try dsimp only at hd
   obtain rfl:=iS hd;exact Ae (Ah (AB ⟨s,false,(((j.trans n).trans p).trans t),rfl,rfl,u⟩))
  obtain rfl:=iS a;exact Al ((wN z2.1),z4.1,z2.2.2.1,()) _ rfl rfl ⟨s,(((j.trans n).trans p).trans t),m,rfl,u⟩
 ·rintro _ z2 aj _ ⟨a4,a5,rfl,rfl,a6⟩ a7 a8;subst a8;refine As (by exact decide_eq_false (Int.not_lt.2 a7))<|AO (AR (z2.1,z2.2.1,z2.2.2.1,()) rfl ⟨_,rfl,_,a4,a5,rfl,rfl,a6⟩)
 rintro z1 ak ⟨_,rfl,_,a9,aa,_,rfl,ab⟩;try dsimp only at hd
 obtain rfl:=iS hd;exact AB ⟨a9,(z1.2.1==(1:Int)),aa,rfl,rfl,ab⟩
noncomputable def BA (l_0:List ByteArray):Option Bool:=
 (CV (σ:=Unit) (β:=Bool) 0 (l_0.length:Int) () fun i_z2 z2=>
  (idx l_0 i_z2).bind fun e17=>
  (Au e17).bind fun t5=>
  cond (!t5)
  (some (cQ false))
  ((CV (σ:=Unit) (β:=Bool) 0 i_z2 () fun i_z7 z7=>
   (idx l_0 i_z7).bind fun e38=>
   (idx l_0 i_z2).bind fun e41=>
   cond (bU e38==bU e41)
   (some (cQ false))
   (some (cY ()))).bind fun e_z6=>match e_z6 with
   |.next z6=>
    some (cY ())
   |.done q54=>some (cQ q54))).bind fun e_z1=>match e_z1 with
 |.next z1=>
  some true
 |.done q67=>some q67
theorem Dg {l_0:Slc}{j:List ByteArray}(e:Ro.SliceIs dG φ l_0 j) (s0:St φ (F) h) {r:Bool}(hd:BA j=some r):
 CallsH bN 59 [(sv l_0)] h (BL fun v h'=>∃ψ:AF,∃y:Bool,Sub φ ψ∧v=((.one aB):Sh).val y∧y=r∧St ψ (F) h'):=by
 refine AV mixed Tryz.func59 ?_;rw [F8];unfold EK;unfold BA at hd;have l:l_0.2.1=cI j:=e.length;obtain ⟨ao,w,hd⟩:=bS hd;refine BN w (fun x (y:Int×Bool×Unit) w_ g=>∃ψ:AF,Sub φ ψ∧y.1=x∧()=g∧St ψ (F) w_) ((0:Int),false,()) rfl ⟨φ,(bV _),rfl,rfl,s0⟩ ?_ ?_ ?_
 ·rintro _ z2 ap _ _ ⟨aq,c,rfl,rfl,m⟩ a z n o p;try dsimp only at a z n o
  refine BF (dT l n) ?_;obtain ⟨ar,a0,a⟩:=bS a;refine Dv e a0 (dR c m.sub) ?_;obtain ⟨au,a1,a⟩:=bS a;refine AM (Bg m a1) ?_;rintro _ av ⟨k,t5,d,rfl,rfl,q⟩;refine ⟨t5,rfl,?_⟩;refine AG a rfl (fun _ a=> ?_) (fun _ a=> ?_)
  ·obtain rfl:=iS a;obtain rfl:=p _ rfl;try dsimp only at hd
   obtain rfl:=iS hd;exact Ae (Ah (AB ⟨k,false,(c.trans d),rfl,rfl,q⟩))
  obtain ⟨aw,a2,a⟩:=bS a;refine BN a2 (fun a3 (y:Int×Bool×Unit) w_ g=>∃ψ:AF,Sub k ψ∧y.1=a3∧()=g∧St ψ (F) w_) ((0:Int),z2.2.1,()) rfl ⟨k,(bV _),rfl,rfl,q⟩ ?_ ?_ ?_
  ·rintro _ z7 ax _ _ ⟨s,f,rfl,rfl,i⟩ b a4 t u a5;try dsimp only at b a4 t u
   refine BF (by exact decide_eq_true t) ?_;obtain ⟨ay,a6,b⟩:=bS b;refine Dv e a6 (dR ((c.trans d).trans f) i.sub) ?_;obtain ⟨az,a7,b⟩:=bS b;refine Dv e a7 (dR ((c.trans d).trans f) i.sub)<|AG b rfl (fun _ b=> ?_) (fun _ b=> ?_)
   ·obtain rfl:=iS b;obtain rfl:=a5 _ rfl;try dsimp only at a
    obtain rfl:=iS a;obtain rfl:=p _ rfl;try dsimp only at hd
    obtain rfl:=iS hd;exact Ae (Ah (Ae (Ah (AB ⟨s,false,((c.trans d).trans f),rfl,rfl,i⟩))))
   obtain rfl:=iS b;exact Al ((wN z7.1),z7.2.1,()) _ rfl rfl ⟨s,f,u,rfl,i⟩
  ·rintro _ z7 b0 _ ⟨a8,a9,rfl,rfl,aa⟩ ab ac;subst ac;refine As (by exact decide_eq_false (Int.not_lt.2 ab))<|AO (AR (z7.1,z7.2.1,()) rfl ⟨_,rfl,_,a8,a9,rfl,rfl,aa⟩)
  rintro z6 b1 ⟨_,rfl,_,ad,ae,_,rfl,af⟩;try dsimp only at a
  obtain rfl:=iS a;exact Al ((wN z2.1),z6.2.1,()) _ rfl rfl ⟨ad,((c.trans d).trans ae),o,rfl,af⟩
 ·rintro _ z2 b2 _ ⟨ag,ah,rfl,rfl,ai⟩ aj ak;subst ak;refine As (dF l aj)<|AO (AR (z2.1,z2.2.1,()) rfl ⟨_,rfl,_,ag,ah,rfl,rfl,ai⟩)
 rintro z1 b3 ⟨_,rfl,_,al,am,_,rfl,an⟩;try dsimp only at hd
 obtain rfl:=iS hd;exact AB ⟨al,true,am,rfl,rfl,an⟩
noncomputable def BR (s_0:List Int):Option (List Int):=(loop (σ:=(Int×Int×List Int)) (β:=List Int) ((bM .i64 ((s_0.length:Int) - 1)),0,s_0) fun z2=>cond (decide (z2.2.1<z2.1)) ((idx z2.2.2 z2.1).bind fun e18=>(idx z2.2.2 z2.2.1).bind fun e21=>(GO z2.2.2 z2.2.1 e18).bind fun m34=>(GO m34 z2.1 e21).bind fun m48=>some (cY ((bM .i64 (z2.1 - 1)),(bM .i64 (z2.2.1+1)),m48))) (some (cQ z2.2.2))).bind fun z1=>some z1
theorem Eo {s_0:Slc}{c:List Int}(s0:St φ (cR 3 (cF .i64) s_0 c::F) h) {r:(List Int)}(hd:BR c=some r):
 CallsH bN 40 [(sv s_0)] h (BL fun v h'=>∃ψ:AF,∃y:Unit,∃d:List Int,Sub φ ψ∧v=((.tuple []):Sh).val y∧d=r∧St ψ (cR 3 (cF .i64) s_0 d::F) h'):=by
 refine AV mixed Tryz.func40 ?_;rw [Ed];unfold Cz;unfold BR at hd;have p:s_0.2.1=cI c:=(s0).rowLen;obtain ⟨q,s,hd⟩:=bS hd;refine Bc (fun (y:Int×Int×Unit) w_ g=>∃ψ:AF,∃e:List Int,Sub φ ψ∧e=g∧St ψ (cR 3 (cF .i64) s_0 e::F) w_) (g:=q) ?_ ?_
 ·refine Cr s (fun (y:Int×Int×Unit) w_ g=>∃ψ:AF,∃f:List Int,Sub φ ψ∧(y.1,y.2.1,f)=g∧St ψ (cR 3 (cF .i64) s_0 f::F) w_) ((bM .i64 ((s_0.2.1:Int) - (1:Int))),(0:Int),()) rfl ⟨φ,c,(bV _),(by rw [p]),s0⟩ ?_
  ·rintro z2 a7 _ _ ⟨i,t,j,rfl,b⟩ a u;try dsimp only at a
   refine AG a rfl (fun _ a=> ?_) (fun _ a=> ?_)
   ·obtain ⟨a8,w,a⟩:=bS a;refine Jn b w ?_;obtain ⟨a9,x,a⟩:=bS a;refine Jn b x ?_;obtain ⟨aa,k,a⟩:=bS a;obtain ⟨ab,l,z⟩:=b.there k;refine AH _ l (Am z (Mx b k rfl l ?_));intro ac m;obtain ⟨a0,n,a⟩:=bS a;obtain ⟨ad,o,a1⟩:=m.there n;refine AH _ o (Am a1 (Mx m n rfl o ?_));intro ae a2;obtain rfl:=iS a;exact Al ((bM .i64 (z2.1 - (1:Int))),(wN z2.2.1),()) _ rfl rfl ⟨i,a0,j,rfl,a2⟩
   obtain rfl:=iS a;obtain rfl:=u _ rfl;exact AO (AR (z2.1,z2.2.1,()) rfl ⟨i,t,j,rfl,b⟩)
 rintro z1 af ⟨a3,a4,a5,rfl,a6⟩;try dsimp only at hd
 obtain rfl:=iS hd;exact AB ⟨a3,(()),a4,a5,rfl,rfl,a6⟩
end
def EF {α:Type}(l:List α):Option (List α):=if l.length≤1073741824 then some l else none
theorem II {α:Type}{l r:List α}(h:EF l=some r):l.length≤1073741824∧r=l:=by
 unfold EF at h;split at h
 ·rename_i g;exact ⟨g,(Option.some.inj h).symm⟩
 ·cases h
theorem PN:G0 bN 46 46 57 2:=⟨cZ,.inl cZ,⟨Tryz.t57,by kernel_rfl,rfl,⟨_,rfl,rfl⟩,by decide,by decide⟩,by decide⟩
theorem Oe:G0 bN 50 50 84 2:=⟨fN,.inl fN,⟨Tryz.t84,by kernel_rfl,rfl,⟨_,rfl,rfl⟩,by decide,by decide⟩,by decide⟩
section
variable {φ:AF}{h:AE}{F:List Chk}
theorem Ge {t:Slc}{l r:List Aj}(k:Ro.SliceIs Av φ t l) (s0:St φ F h) (hd:EF l=some r):
 CallsH bN 38 [.slice t.1 t.2.1 t.2.2] h (BL fun v h'=>∃ψ:AF,∃y:Slc,∃l1:List Aj,Sub φ ψ∧v=((.one aS):Sh).val y∧l1=r∧St ψ (cR 57 Av y l1::F) h'):=by
 obtain ⟨hb,rfl⟩:=II hd;refine AV mixed Tryz.func38 ?_;rw [DB];unfold B6;cases hp:t.1 with
 |none=>
  rw [k.2.2.2.1 hp];exact AB ⟨φ,(none,0,0),[],bV _,rfl,rfl,s0.nil _ _⟩
 |some a=>
  rw [fE];refine AZ (vs:=[]) s0 fun b h1 s1=> ?_;have s2:=St.lit (r:=Av) (l:=[]) (n:=0) s1 .nil rfl (by decide);obtain ⟨ws,ha,hc⟩:=k.heap s1.sub;rw [hp]at hc;refine Aa (r:=Av) (ms:=r) (l':=r) PN s2 rfl hc ha k.length.symm (by unfold app;rw [if_pos (by have:=hb;simp;omega)];rfl) fun y h2 s3=>AB ⟨φ,y,_,bV _,rfl,rfl,s3⟩
theorem KH {t:Slc}{l r:List GS}(k:Ro.SliceIs ES φ t l) (s0:St φ F h) (hd:EF l=some r):
 CallsH bN 39 [.slice t.1 t.2.1 t.2.2] h (BL fun v h'=>∃ψ:AF,∃y:Slc,∃l1:List GS,Sub φ ψ∧v=((.one aS):Sh).val y∧l1=r∧St ψ (cR 84 ES y l1::F) h'):=by
 obtain ⟨hb,rfl⟩:=II hd;refine AV mixed Tryz.func39 ?_;rw [DC];unfold B7;cases hp:t.1 with
 |none=>
  rw [k.2.2.2.1 hp];exact AB ⟨φ,(none,0,0),[],bV _,rfl,rfl,s0.nil _ _⟩
 |some a=>
  rw [fE];refine AZ (vs:=[]) s0 fun b h1 s1=> ?_;have s2:=St.lit (r:=ES) (l:=[]) (n:=0) s1 .nil rfl (by decide);obtain ⟨ws,ha,hc⟩:=k.heap s1.sub;rw [hp]at hc;refine Aa (r:=ES) (ms:=r) (l':=r) Oe s2 rfl hc ha k.length.symm (by unfold app;rw [if_pos (by have:=hb;simp;omega)];rfl) fun y h2 s3=>AB ⟨φ,y,_,bV _,rfl,rfl,s3⟩
end
end Go.Proofs.YteoafgapjneblaaGreatDoor
namespace Go.Proofs.YteoafgapjneblaaGreatDoor
open Go Go.Shelf Go.Proofs
set_option maxRecDepth 100000
def Cs:Ren:=⟨fun x=>bif bQ x 129 then 78 else bif bQ x 176 then 46 else bif bQ x 249 then 60 else bif bQ x 283 then 91 else bif bQ x 284 then 92 else bif bQ x 285 then 93 else bif bQ x 286 then 94 else bif bQ x 288 then 68 else bif bQ x 317 then 103 else bif bQ x 318 then 104 else bif bQ x 319 then 105 else bif bQ x 320 then 106 else bif bQ x 337 then 109 else bif bQ x 338 then 110 else 0,fun x=>bif bQ x 0 then 0 else bif bQ x 2 then 2 else bif bQ x 3 then 3 else bif bQ x 4 then 4 else bif bQ x 5 then 5 else bif bQ x 9 then 9 else bif bQ x 20 then 20 else bif bQ x 37 then 22 else bif bQ x 46 then 123 else bif bQ x 51 then 136 else bif bQ x 53 then 126 else bif bQ x 171 then 146 else bif bQ x 173 then 148 else bif bQ x 212 then 159 else bif bQ x 213 then 160 else bif bQ x 232 then 165 else bif bQ x 233 then 166 else 0,fun x=>bif bQ x 17 then 0 else bif bQ x 18 then 1 else bif bQ x 19 then 2 else 0⟩
theorem Ny:Lays.n176 bN Cs where
 mixed:=by kernel_rfl
 f129:=(Tryz.func78).trans (congrArg some (show gI=Body.n129 Cs by kernel_rfl))
 f176:=(Tryz.func46).trans (congrArg some (show Tryz.f46=Body.n176 Cs by kernel_rfl))
 f249:=(Tryz.func60).trans (congrArg some (show Tryz.f60=Body.n249 Cs by kernel_rfl))
 f283:=(Tryz.func91).trans (congrArg some (show Tryz.f91=Body.n283 Cs by kernel_rfl))
 f284:=(Tryz.func92).trans (congrArg some (show Tryz.f92=Body.n284 Cs by kernel_rfl))
 f285:=(Tryz.func93).trans (congrArg some (show Tryz.f93=Body.n285 Cs by kernel_rfl))
 f286:=(Tryz.func94).trans (congrArg some (show Tryz.f94=Body.n286 Cs by kernel_rfl))
 f288:=(Tryz.func68).trans (congrArg some (show Tryz.f68=Body.n288 Cs by kernel_rfl))
 f317:=(Tryz.func103).trans (congrArg some (show Tryz.f103=Body.n317 Cs by kernel_rfl))
 f318:=(Tryz.func104).trans (congrArg some (show Tryz.f104=Body.n318 Cs by kernel_rfl))
 f319:=(Tryz.func105).trans (congrArg some (show Tryz.f105=Body.n319 Cs by kernel_rfl))
 f320:=(Tryz.func106).trans (congrArg some (show Tryz.f106=Body.n320 Cs by kernel_rfl))
 f337:=(Tryz.func109).trans (congrArg some (show Tryz.f109=Body.n337 Cs by kernel_rfl))
 f338:=(Tryz.func110).trans (congrArg some (show Tryz.f110=Body.n338 Cs by kernel_rfl))
 t0:=dL
 a0:=eV
 z0:=eN
 v0:=dN
 t2:=Tryz.underlying2
 a2:=Tryz.isAgg2
 z2:=Tryz.sizeOf2
 v2:=Tryz.zeroValue2
 t3:=cN
 a3:=eD
 z3:=dP
 v3:=dD
 t4:=dA
 a4:=eF
 z4:=dQ
 v4:=dE
 t5:=dM
 a5:=gD
 z5:=fO
 v5:=eQ
 t9:=cU
 a9:=gE
 z9:=fP
 v9:=eR
 t20:=Tryz.underlying20
 a20:=Tryz.isAgg20
 z20:=Tryz.sizeOf20
 v20:=Tryz.zeroValue20
 t37:=dI
 a37:=Tryz.isAgg22
 z37:=Tryz.sizeOf22
 v37:=Tryz.zeroValue22
 t46:=dV
 a46:=fB
 z46:=eW
 v46:=eG
 t51:=dW
 a51:=fC
 z51:=eX
 v51:=eH
 t53:=dX
 a53:=fD
 z53:=eY
 v53:=eI
 t171:=Tryz.underlying146
 a171:=Tryz.isAgg146
 z171:=Tryz.sizeOf146
 v171:=Tryz.zeroValue146
 t173:=Tryz.underlying148
 a173:=Tryz.isAgg148
 z173:=Tryz.sizeOf148
 v173:=Tryz.zeroValue148
 t212:=Tryz.underlying159
 a212:=Tryz.isAgg159
 z212:=Tryz.sizeOf159
 v212:=Tryz.zeroValue159
 t213:=Tryz.underlying160
 a213:=Tryz.isAgg160
 z213:=Tryz.sizeOf160
 t232:=Tryz.underlying165
 a232:=Tryz.isAgg165
 z232:=Tryz.sizeOf165
 v232:=Tryz.zeroValue165
 t233:=Tryz.underlying166
 a233:=Tryz.isAgg166
 z233:=Tryz.sizeOf166
 v233:=Tryz.zeroValue166
 g17:=by kernel_rfl
 g18:=by kernel_rfl
 g19:=by kernel_rfl
theorem M0:LaysM.n176 bN Cs:={Ny with
 i0:=by kernel_rfl
 i2:=by kernel_rfl
 i3:=by kernel_rfl
 i4:=by kernel_rfl
 i5:=by kernel_rfl
 i9:=by kernel_rfl
 i20:=by kernel_rfl
 i37:=by kernel_rfl
 i46:=by kernel_rfl
 i51:=by kernel_rfl
 i53:=by kernel_rfl
 i171:=by kernel_rfl
 i173:=by kernel_rfl
 i212:=by kernel_rfl
 i232:=by kernel_rfl
 i233:=by kernel_rfl
 m17:=by kernel_rfl
 m18:=by kernel_rfl
 m19:=by kernel_rfl
 }
end Go.Proofs.YteoafgapjneblaaGreatDoor
namespace Go.Proofs.YteoafgapjneblaaGreatDoor
open Go Go.Eng Go.RowKit
set_option linter.unusedVariables false
set_option maxRecDepth 100000
def IM (φ:AF):Prop:= ∃g t f,Tryz.prog.globalNamed "internal/strconv.uint64pow10" =some g∧φ g=some (.cells (Lib.pow10Tab.map fun z=>Value.int .u64 z).toArray t f)
theorem IM.mono {φ ψ:AF}(H:IM φ) (hs:Sub φ ψ):IM ψ:=by
 obtain ⟨g,t,f,h1,h2⟩:=H;exact ⟨g,t,f,h1,hs _ _ h2⟩
def Bt (i:Int):List Int:=(Lib.itoa i).map fun b=>(b.toNat:Int)
def Cf (l:List Int) (i b:Int):Option (List Int):=if b=10∧ -9223372036854775808≤i∧i≤9223372036854775807∧l.length≤1000000 then some (l++Bt i) else none
theorem Jp (i:Int):Lib.byteCells (Lib.itoa i)=(Bt i).map (fZ .u8).val:=by
 unfold Lib.byteCells Bt;rw [List.map_map];rfl
class Nz (G:List Chk):Prop where
 off:∀c∈G,∀φ h F,Chk.on φ h F c→ ∀k,F k→ ∃o:Obj,h[k]? =some o∧ ∀cs f,o≠.cells cs 5 f
instance PL:Nz []:=⟨fun c hc=>by cases hc⟩
instance O9 {b:Nat}{vs:List Value}{G:List Chk}[H:Nz G]:Nz (⟨Rep.raw 57,[.pointer (some ⟨b,0,none⟩)],vs⟩::G):=⟨fun c hc φ h F hon k hk=>by
 rcases List.mem_cons.1 hc with rfl | hc
 ·obtain ⟨b',e,hb,hF⟩:=hon;have hkb:=(hF k).1 hk;subst hkb;exact ⟨_,hb,fun cs f e=>by cases e⟩
 ·exact H.off c hc φ h F hon k hk⟩
theorem KI {φ:AF}{h h':AE}{X X':F1}(hk:∀(k:Nat) (o:Obj),h[k]? =some o→(∀cs f,o≠.cells cs 5 f)→h'[k]? =some o) (hX:∀k,X' k→ ∃cs f,h'[k]? =some (.cells cs 5 f)) (hs:Sub φ (BX h')):
 ∀ {G:List Chk} {Y:F1},(∀c∈G,∀φ h F,Chk.on φ h F c→ ∀k,F k→ ∃o:Obj,h[k]? =some o∧ ∀cs f,o≠.cells cs 5 f)→StX φ h G (fun k=>X k∨Y k)→StX φ h' G (fun k=>X' k∨Y k):=by
 intro G
 induction G with
 |nil=>intro Y _ _;exact hs
 |cons c G ih=>
  intro Y hG ⟨F,h1,h2,H⟩;have hoff:=hG c (by simp) φ h F h1;refine ⟨F,c.R.loc (fun k hF=> ?_) h1,fun k hF=>⟨(h2 k hF).1,fun g=> ?_⟩,(ih (Y:=fun k=>Y k∨F k) (fun c hc=>hG c (by simp [hc])) (H.less fun k hk=> ?_)).less fun k hk=> ?_⟩
  ·obtain ⟨o,ho,hno⟩:=hoff k hF;rw [ho];exact hk k o ho hno
  ·rcases g with g | g
   ·obtain ⟨o,ho,hno⟩:=hoff k hF;obtain ⟨cs,f,hc⟩:=hX k g;rw [hk k o ho hno]at hc;exact hno cs f (Option.some.inj hc)
   ·exact (h2 k hF).2 (.inr g)
  ·rcases hk with hk | hk | hk
   ·exact .inl (.inl hk)
   ·exact .inl (.inr hk)
   ·exact .inr hk
  ·rcases hk with (hk | hk)|hk
   ·exact .inl hk
   ·exact .inr (.inl hk)
   ·exact .inr (.inr hk)
theorem G7 {h0 h:AE}{G:List Chk}[hG:Nz G] {t:Slc}{l:List Int}{i b:Int}(gk:IM (BX h0)) (s0:St (BX h0) (⟨dO 5 (cF .u8),[.slice t.1 t.2.1 t.2.2],l⟩::G) h) {r:List Int}(hd:Cf l i b=some r):
 CallsH bN 46 [(.slice t.1 t.2.1 t.2.2),(.int .i64 i),(.int .i64 b)] h (BL fun v h'=>∃ψ:AF,∃y:Slc,∃l':List Int,Sub (BX h0) ψ∧ψ=BX h0∧v=((.one aS):Sh).val y∧l'=r∧St ψ (⟨dO 5 (cF .u8),[.slice y.1 y.2.1 y.2.2],l'⟩::G) h'):=by
 unfold Cf at hd;split at hd
 ·rename_i hg
  obtain ⟨rfl,h1,h2,hlen⟩:=hg;cases hd;obtain ⟨F,⟨p,n,c,vs,e,hn,hc,hf,ho,ha,hF⟩,hX,H⟩:=s0;have hn:l.length=n:=hn;have ha':vs=l.map (fZ .u8).val:=FJ ha;simp only [List.cons.injEq,Value.slice.injEq,and_true]at e;obtain ⟨e1,e2,e3⟩:=e;rw [e1,e2,e3];have hs:Sub (BX h0) (BX h):=H.sub;have hB:h0.size≤h.size:=by
   rcases eO h.size h0.size with g | g
   ·have h1:BX h0 h.size=some h0[h.size]:=dB g
    have:=A8 (hs _ _ h1)
    omega
   ·exact g
  have hold:∀k,k<h0.size→(BX h0) k≠none:=fun k hk g=>by
   have h1:BX h0 k=some h0[k]:=dB hk;rw [h1]at g;cases g
  have own:World.ownsRow (DK h) h0.size 5 1 (.slice p n c) n vs:=by
   refine ⟨by rw [ha',List.length_map,hn,Nat.mul_one],?_⟩;rcases ho with ⟨rfl,rfl,rfl,rfl⟩|⟨b,off,arr,rfl,hb,g1,g2,g3,g4⟩
   ·exact .inl ⟨rfl,rfl⟩
   ·obtain ⟨q1,q2⟩:=hf _ _ _ rfl;subst q1;have hsz:=q2 _ _ _ hb;have hsz:arr.size=c *1:=hsz;have g1:vs.length=n *1:=g1;refine .inr ⟨b,c,arr,rfl,?_,hb,g2,hc,hsz,?_⟩
    ·rcases eO b h0.size with g | g
     ·exact absurd (hX b ((hF b).2 (by simp [blk]))).1 (hold b g)
     ·exact g
    ·refine List.ext_getElem? fun i=> ?_;rw [dY];split
     ·rename_i hi
      have hi':i<vs.length:=by omega
      have:=g4 i vs[i] (cJ hi')
      rw [cJ hi'];simpa using this
     ·rw [cP (by omega)]
  intro w hw;subst hw;refine (Any.strconv_AppendInt_10 M0 h0.size n i h1 h2 (.slice p n c) vs w own hB (by omega) (fun w' hb=> ?_)).mono ?_
  ·obtain ⟨g,t',f,g1,g2⟩:=gk;have hg:w.heap[g]? =some (.cells (Lib.pow10Tab.map fun z=>cV .u64 z).toArray t' f):=hs _ _ g2;have hlt:=A8 (h:=h0) g2;show (Tryz.prog.globalNamed _).bind _=_;rw [g1];show (match w'.heap[g]? with | some (.cells cs _ _)=>some cs | _=>none)=_
   rw [hb.block g hlt,hg]
  ·rintro e w' ⟨v',rfl,hown,hb,hoth⟩;have hkeep:∀(k:Nat) (o:Obj),w.heap[k]? =some o→(∀cs f,o≠.cells cs 5 f)→w'.heap[k]? =some o:=fun k o ho hno=>hoth k o ho (by simp) hno;refine ⟨⟨hb.os,hb.tape,hb.output,hb.size⟩,v',rfl,BX h0,?_⟩;obtain ⟨k1,k2⟩:=hown;have hsub:Sub (BX h0) (BX w'.heap):=fun i o ho=>by
    have hlt:=A8 (h:=h0) ho;show w'.heap[i]? =some o;rw [hb.block i hlt];exact hs i o ho
   have hvs:vs++Lib.byteCells (Lib.itoa i)=(l++Bt i).map (fZ .u8).val:=by rw [List.map_append,ha',Jp]
   have hdl:(Bt i).length=(Lib.itoa i).length:=by unfold Bt;simp
   have hall:∀(l:List Int),(cF .u8).All (BX h0) (l.map (fZ .u8).val) l:=fun l=>by
    induction l with
    |nil=>exact .nil
    |cons x l ih=>exact .cons (a:=[_]) rfl ih
   rcases k2 with ⟨rfl,hz⟩|⟨g,cap,cur,rfl,hBg,hg,hle,hm,hcs,hcur⟩
   ·refine ⟨(none,0,0),l++Bt i,bV _,rfl,rfl,rfl,fun _=>False,⟨none,0,0,[],rfl,(by rw [dZ,hdl,hn];exact hz),Nat.zero_le _,(fun _ _ _ h=>by cases h),.inl ⟨rfl,rfl,rfl,rfl⟩,?_,fun i=>by simp [blk]⟩,fun _ hk=>hk.elim,(KI (X:=F) (X':=fun _=>False) (Y:=fun _=>False) hkeep (fun _ g=>g.elim) hsub hG.off (H.less fun k hk=>hk.elim .inr .inl)).less fun k hk=>hk.elim (fun g=>.inl g) (fun g=>.inl g)⟩
    have:l++Bt i= []:=cX (by rw [dZ,hdl,hn];exact hz)
    show (cF .u8).All (BX h0) [] (l++Bt i);rw [this];exact .nil
   ·refine ⟨(some ⟨g,0,none⟩,n+(Lib.itoa i).length,cap),l++Bt i,bV _,rfl,rfl,rfl,fun k=>k=g,⟨_,_,cap,(l++Bt i).map (fZ .u8).val,rfl,by simp;omega,hm,(fun b' off s e=>by cases e;exact ⟨rfl,fun arr ty f harr=>by
     rw [hg]at harr;cases harr;exact hcs⟩),.inr ⟨g,0,cur,rfl,hg,by show _=_ *1;simp;omega,hle,by show 0+cap *1≤_;omega,fun j v hv=> ?_⟩,hall _,fun k=>by simp [blk]⟩,fun k hk=>⟨?_,fun g=>g⟩,(KI (X:=F) (X':=fun k=>k=g) (Y:=fun _=>False) hkeep (fun k hk=>by subst hk;exact ⟨_,_,hg⟩) hsub hG.off (H.less fun k hk=>hk.elim .inr .inl)).less fun k hk=>hk.elim (fun g=>.inr g) (fun g=>.inl g)⟩
    ·rw [←hvs,←hcur,dY]at hv;split at hv
     ·simpa using hv
     ·cases hv
    ·subst hk;exact Array.getElem?_eq_none hBg
 ·cases hd
end Go.Proofs.YteoafgapjneblaaGreatDoor
namespace Go.Proofs.YteoafgapjneblaaGreatDoor
open Go Go.Shelf Go.Proofs
set_option maxRecDepth 100000
def An:Ren:=⟨fun x=>bif bQ x 125 then 63 else bif bQ x 128 then 77 else bif bQ x 129 then 78 else bif bQ x 189 then 53 else bif bQ x 215 then 79 else bif bQ x 216 then 86 else bif bQ x 257 then 66 else bif bQ x 294 then 80 else bif bQ x 295 then 81 else bif bQ x 296 then 82 else bif bQ x 297 then 83 else bif bQ x 298 then 84 else bif bQ x 299 then 85 else bif bQ x 300 then 87 else bif bQ x 301 then 88 else bif bQ x 328 then 100 else bif bQ x 329 then 96 else bif bQ x 330 then 97 else bif bQ x 331 then 101 else bif bQ x 332 then 102 else bif bQ x 343 then 108 else 0,fun x=>bif bQ x 0 then 0 else bif bQ x 3 then 3 else bif bQ x 4 then 4 else bif bQ x 5 then 5 else bif bQ x 9 then 9 else bif bQ x 28 then 26 else bif bQ x 46 then 123 else bif bQ x 51 then 136 else bif bQ x 53 then 126 else bif bQ x 131 then 73 else bif bQ x 182 then 129 else bif bQ x 183 then 130 else bif bQ x 218 then 150 else bif bQ x 222 then 154 else bif bQ x 228 then 161 else bif bQ x 229 then 162 else 0,fun _=>0⟩
theorem Hf:Lays.n189 bN An where
 mixed:=by kernel_rfl
 f125:=Tryz.func63.trans (congrArg some (show Tryz.f63=Body.n125 An by kernel_rfl))
 f128:=Tryz.func77.trans (congrArg some (show Tryz.f77=Body.n128 An by kernel_rfl))
 f129:=Tryz.func78.trans (congrArg some (show gI=Body.n129 An by kernel_rfl))
 f189:=Tryz.func53.trans (congrArg some (show Tryz.f53=Body.n189 An by kernel_rfl))
 f215:=Tryz.func79.trans (congrArg some (show Tryz.f79=Body.n215 An by kernel_rfl))
 f216:=Tryz.func86.trans (congrArg some (show Tryz.f86=Body.n216 An by kernel_rfl))
 f257:=Tryz.func66.trans (congrArg some (show Tryz.f66=Body.n257 An by kernel_rfl))
 f294:=Tryz.func80.trans (congrArg some (show Tryz.f80=Body.n294 An by kernel_rfl))
 f295:=Tryz.func81.trans (congrArg some (show Tryz.f81=Body.n295 An by kernel_rfl))
 f296:=Tryz.func82.trans (congrArg some (show Tryz.f82=Body.n296 An by kernel_rfl))
 f297:=Tryz.func83.trans (congrArg some (show Tryz.f83=Body.n297 An by kernel_rfl))
 f298:=Tryz.func84.trans (congrArg some (show Tryz.f84=Body.n298 An by kernel_rfl))
 f299:=Tryz.func85.trans (congrArg some (show Tryz.f85=Body.n299 An by kernel_rfl))
 f300:=Tryz.func87.trans (congrArg some (show Tryz.f87=Body.n300 An by kernel_rfl))
 f301:=Tryz.func88.trans (congrArg some (show Tryz.f88=Body.n301 An by kernel_rfl))
 f328:=Tryz.func100.trans (congrArg some (show Tryz.f100=Body.n328 An by kernel_rfl))
 f329:=Tryz.func96.trans (congrArg some (show Tryz.f96=Body.n329 An by kernel_rfl))
 f330:=Tryz.func97.trans (congrArg some (show Tryz.f97=Body.n330 An by kernel_rfl))
 f331:=Tryz.func101.trans (congrArg some (show Tryz.f101=Body.n331 An by kernel_rfl))
 f332:=Tryz.func102.trans (congrArg some (show Tryz.f102=Body.n332 An by kernel_rfl))
 f343:=Tryz.func108.trans (congrArg some (show Tryz.f108=Body.n343 An by kernel_rfl))
 t0:=dL
 a0:=eV
 z0:=eN
 v0:=dN
 t3:=cN
 a3:=eD
 z3:=dP
 v3:=dD
 t4:=dA
 a4:=eF
 z4:=dQ
 v4:=dE
 t5:=dM
 a5:=gD
 z5:=fO
 v5:=eQ
 t9:=cU
 a9:=gE
 z9:=fP
 v9:=eR
 t28:=dJ
 a28:=Tryz.isAgg26
 z28:=Tryz.sizeOf26
 v28:=gA
 t46:=dV
 a46:=fB
 z46:=eW
 v46:=eG
 t51:=dW
 a51:=fC
 z51:=eX
 v51:=eH
 t53:=dX
 a53:=fD
 z53:=eY
 v53:=eI
 t131:=fQ
 a131:=Tryz.isAgg73
 z131:=Tryz.sizeOf73
 v131:=gB
 t182:=fF
 a182:=Tryz.isAgg129
 z182:=Tryz.sizeOf129
 v182:=fR
 t183:=fG
 a183:=Tryz.isAgg130
 z183:=Tryz.sizeOf130
 v183:=fS
 t218:=fH
 a218:=Tryz.isAgg150
 z218:=Tryz.sizeOf150
 v218:=fT
 t222:=fI
 a222:=Tryz.isAgg154
 z222:=Tryz.sizeOf154
 v222:=fU
 t228:=fJ
 a228:=Tryz.isAgg161
 z228:=Tryz.sizeOf161
 v228:=fV
 t229:=fK
 a229:=Tryz.isAgg162
 z229:=Tryz.sizeOf162
 v229:=fW
def CR:Ren:=⟨fun x=>bif bQ x 6 then 50 else bif bQ x 14 then 62 else bif bQ x 15 then 63 else bif bQ x 20 then 69 else bif bQ x 21 then 70 else bif bQ x 22 then 71 else bif bQ x 23 then 72 else bif bQ x 24 then 73 else bif bQ x 25 then 74 else bif bQ x 26 then 75 else bif bQ x 27 then 76 else bif bQ x 28 then 77 else bif bQ x 29 then 78 else bif bQ x 46 then 95 else bif bQ x 47 then 96 else bif bQ x 48 then 97 else bif bQ x 49 then 98 else bif bQ x 50 then 99 else bif bQ x 57 then 107 else 0,fun x=>bif bQ x 0 then 0 else bif bQ x 3 then 3 else bif bQ x 4 then 4 else bif bQ x 5 then 5 else bif bQ x 9 then 9 else bif bQ x 22 then 46 else bif bQ x 24 then 57 else bif bQ x 25 then 114 else bif bQ x 39 then 123 else bif bQ x 45 then 129 else bif bQ x 46 then 130 else bif bQ x 50 then 73 else bif bQ x 53 then 136 else bif bQ x 55 then 126 else bif bQ x 66 then 150 else bif bQ x 70 then 154 else bif bQ x 76 then 161 else bif bQ x 77 then 162 else 0,fun _=>0⟩
theorem Gf:SlLaysF0.n6 bN CR where
 mixed:=by kernel_rfl
 f6:=⟨ "slices.SortFunc[[]tronage/api.Item,tronage/api.Item]",by decide,Tryz.func50.trans (congrArg some (by kernel_rfl))⟩
 f14:=⟨ "slices.pdqsortCmpFunc[tronage/api.Item]",by decide,Tryz.func62.trans (congrArg some (by kernel_rfl))⟩
 f15:=Tryz.func63.trans (congrArg some (show Tryz.f63=SlBodyF.n15 CR by kernel_rfl))
 f20:=⟨ "slices.insertionSortCmpFunc[tronage/api.Item]",by decide,Tryz.func69.trans (congrArg some (by kernel_rfl))⟩
 f21:=⟨ "slices.heapSortCmpFunc[tronage/api.Item]",by decide,Tryz.func70.trans (congrArg some (by kernel_rfl))⟩
 f22:=⟨ "slices.breakPatternsCmpFunc[tronage/api.Item]",by decide,Tryz.func71.trans (congrArg some (by kernel_rfl))⟩
 f23:=⟨ "slices.choosePivotCmpFunc[tronage/api.Item]",by decide,Tryz.func72.trans (congrArg some (by kernel_rfl))⟩
 f24:=⟨ "slices.reverseRangeCmpFunc[tronage/api.Item]",by decide,Tryz.func73.trans (congrArg some (by kernel_rfl))⟩
 f25:=⟨ "slices.partialInsertionSortCmpFunc[tronage/api.Item]",by decide,Tryz.func74.trans (congrArg some (by kernel_rfl))⟩
 f26:=⟨ "slices.partitionEqualCmpFunc[tronage/api.Item]",by decide,Tryz.func75.trans (congrArg some (by kernel_rfl))⟩
 f27:=⟨ "slices.partitionCmpFunc[tronage/api.Item]",by decide,Tryz.func76.trans (congrArg some (by kernel_rfl))⟩
 f28:=Tryz.func77.trans (congrArg some (show Tryz.f77=SlBodyF.n28 CR by kernel_rfl))
 f29:=Tryz.func78.trans (congrArg some (show gI=SlBodyF.n29 CR by kernel_rfl))
 f46:=⟨ "slices.siftDownCmpFunc[tronage/api.Item]",by decide,Tryz.func95.trans (congrArg some (by kernel_rfl))⟩
 f47:=Tryz.func96.trans (congrArg some (show Tryz.f96=SlBodyF.n47 CR by kernel_rfl))
 f48:=Tryz.func97.trans (congrArg some (show Tryz.f97=SlBodyF.n48 CR by kernel_rfl))
 f49:=⟨ "slices.medianAdjacentCmpFunc[tronage/api.Item]",by decide,Tryz.func98.trans (congrArg some (by kernel_rfl))⟩
 f50:=⟨ "slices.medianCmpFunc[tronage/api.Item]",by decide,Tryz.func99.trans (congrArg some (by kernel_rfl))⟩
 f57:=⟨ "slices.order2CmpFunc[tronage/api.Item]",by decide,Tryz.func107.trans (congrArg some (by kernel_rfl))⟩
 t0:=dL
 a0:=eV
 z0:=eN
 v0:=dN
 t3:=cN
 a3:=eD
 z3:=dP
 v3:=dD
 t4:=dA
 a4:=eF
 z4:=dQ
 v4:=dE
 t5:=dM
 a5:=gD
 z5:=fO
 v5:=eQ
 t9:=cU
 a9:=gE
 z9:=fP
 v9:=eR
 t22:=cZ
 a22:=Tryz.isAgg46
 z22:=Tryz.sizeOf46
 v22:=Tryz.zeroValue46
 t25:=Tryz.underlying114
 a25:=Tryz.isAgg114
 z25:=Tryz.sizeOf114
 v25:=Tryz.zeroValue114
 t39:=dV
 a39:=fB
 z39:=eW
 v39:=eG
 t45:=fF
 a45:=Tryz.isAgg129
 z45:=Tryz.sizeOf129
 v45:=fR
 t46:=fG
 a46:=Tryz.isAgg130
 z46:=Tryz.sizeOf130
 v46:=fS
 t50:=fQ
 a50:=Tryz.isAgg73
 z50:=Tryz.sizeOf73
 v50:=gB
 t53:=dW
 a53:=fC
 z53:=eX
 v53:=eH
 t55:=dX
 a55:=fD
 z55:=eY
 v55:=eI
 t66:=fH
 a66:=Tryz.isAgg150
 z66:=Tryz.sizeOf150
 v66:=fT
 t70:=fI
 a70:=Tryz.isAgg154
 z70:=Tryz.sizeOf154
 v70:=fU
 t76:=fJ
 a76:=Tryz.isAgg161
 z76:=Tryz.sizeOf161
 v76:=fV
 t77:=fK
 a77:=Tryz.isAgg162
 z77:=Tryz.sizeOf162
 v77:=fW
def IJ:Ren:=⟨fun x=>bif bQ x 20 then 54 else 0,fun x=>bif bQ x 0 then 0 else bif bQ x 3 then 3 else bif bQ x 4 then 4 else bif bQ x 22 then 26 else 0,fun _=>0⟩
theorem Hg:Lays2.n20 bN IJ where
 mixed:=by kernel_rfl
 f20:=Tryz.func54.trans (congrArg some (show Tryz.f54=Body2.n20 IJ by kernel_rfl))
 t0:=dL
 a0:=eV
 z0:=eN
 v0:=dN
 t3:=cN
 a3:=eD
 z3:=dP
 v3:=dD
 t4:=dA
 a4:=eF
 z4:=dQ
 v4:=dE
 t22:=dJ
 a22:=Tryz.isAgg26
 z22:=Tryz.sizeOf26
 v22:=gA
 i3:=by kernel_rfl
def Gg:Ren:=⟨fun x=>bif bQ x 122 then 65 else bif bQ x 215 then 79 else 0,fun x=>bif bQ x 3 then 3 else bif bQ x 4 then 4 else 0,fun _=>0⟩
theorem Hh:Lays.n122 bN Gg where
 mixed:=by kernel_rfl
 f122:=Tryz.func65.trans (congrArg some (show Tryz.f65=Body.n122 Gg by kernel_rfl))
 f215:=Tryz.func79.trans (congrArg some (show Tryz.f79=Body.n215 Gg by kernel_rfl))
 t3:=cN
 a3:=eD
 z3:=dP
 v3:=dD
 t4:=dA
 a4:=eF
 z4:=dQ
 v4:=dE
end Go.Proofs.YteoafgapjneblaaGreatDoor
namespace Go.Proofs.YteoafgapjneblaaGreatDoor
open Go Go.Eng Go.RowKit Go.Shelf Go.Sort
set_option linter.unusedVariables false
set_option maxRecDepth 100000
theorem KJ {k:IntKind}{φ:AF}(l:List Int):(cF k).All φ (l.map (fZ k).val) l:=by
 induction l with
 |nil=>exact .nil
 |cons x l ih=>exact gF (a:=[(fZ k).val x]) rfl ih
def ins {α:Type}(le:α→α→Bool) (x:α):List α→List α
 | [] =>[x]
 |y::l=>if le x y then x::y::l else y::ins le x l
def JN {α:Type}(le:α→α→Bool):List α→List α
 | [] =>[]
 |x::l=>ins le x (JN le l)
theorem KK {α:Type}(le:α→α→Bool) (x:α) (l:List α):(ins le x l).Perm (x::l):=by
 induction l with
 |nil=>exact .refl _
 |cons y l ih=>
  unfold ins;split
  ·exact .refl _
  ·exact (ih.cons y).trans (.swap x y l)
theorem CD {α:Type}(le:α→α→Bool) (l:List α):(JN le l).Perm l:=by
 induction l with
 |nil=>exact .refl _
 |cons x l ih=>exact (KK le x _).trans (ih.cons x)
theorem Of {α:Type}{le:α→α→Bool}(ht:∀a b c,le a b=true→le b c=true→le a c=true) (hl:∀a b,(le a b || le b a)=true) (x:α) {l:List α}(h:l.Pairwise fun a b=>le a b=true):(ins le x l).Pairwise fun a b=>le a b=true:=by
 induction l with
 |nil=>exact List.pairwise_singleton _ _
 |cons y l ih=>
  unfold ins;rw [List.pairwise_cons]at h;split
  ·rename_i hxy
   refine List.pairwise_cons.2 ⟨fun z hz=> ?_,List.pairwise_cons.2 h⟩;rcases List.mem_cons.1 hz with rfl | hz
   ·exact hxy
   ·exact ht _ _ _ hxy (h.1 z hz)
  ·rename_i hxy
   refine List.pairwise_cons.2 ⟨fun z hz=> ?_,ih h.2⟩;rcases List.mem_cons.1 ((KK le x l).mem_iff.1 hz) with rfl | hz
   ·have:=hl z y
    rw [eS]at this;rcases this with g | g
    ·exact absurd g hxy
    ·exact g
   ·exact h.1 z hz
theorem Il {α:Type}{le:α→α→Bool}(ht:∀a b c,le a b=true→le b c=true→le a c=true) (hl:∀a b,(le a b || le b a)=true) (l:List α):(JN le l).Pairwise fun a b=>le a b=true:=by
 induction l with
 |nil=>exact .nil
 |cons x l ih=>exact Of ht hl x ih
theorem KL {α:Type}{le:α→α→Bool}(ht:∀a b c,le a b=true→le b c=true→le a c=true) (hl:∀a b,(le a b || le b a)=true) (ha:∀a b,le a b=true→le b a=true→a=b) (l:List α):JN le l=l.mergeSort le:=
 List.Perm.eq_of_pairwise (fun a b _ _ h1 h2=>ha a b h1 h2) (Il ht hl l) (List.pairwise_mergeSort ht hl l) ((CD le l).trans (List.mergeSort_perm l le).symm)
def Gh (l:List Int):List Int:=JN (fun x y=>decide (x≤y)) l
theorem M1 (l:List Int):Gh l=l.mergeSort fun x y=>decide (x≤y):=
 KL (fun a b c h1 h2=>by simp only [decide_eq_true_eq]at *;omega) (fun a b=>by simp only [eS,decide_eq_true_eq];omega) (fun a b h1 h2=>by simp only [decide_eq_true_eq]at *;omega) l
theorem Ld {k:IntKind}{a b:List Int}(h:a.map (cV k)=b.map (cV k)):a=b:=
 (List.map_inj_right (f:=cV k) fun x y hxy=>by cases hxy;rfl).1 h
def Le (l:List Int):Option (List Int):=if l.length<4611686018427387904 then some (Gh l) else none
def Hi (l:List Int):Option (List Int):=if l.length<4611686018427387904 then some (Lib.compact l) else none
theorem St.rowTake {α:Type}{φ:AF}{h:AE}{Γ:List Chk}{ty:TypeId}{r:Ro α}{t:Slc}{l:List α}(H:St φ (⟨dO ty r,[.slice t.1 t.2.1 t.2.2],l⟩::Γ) h) {k:Nat}(hk:k≤l.length):
 St φ (⟨dO ty r,[.slice t.1 k t.2.2],l.take k⟩::Γ) h:=by
 obtain ⟨F,⟨p,n,c,vs,e,hn,hc,hfu,ho,hall,hF⟩,h2,H⟩:=H;have hn:l.length=n:=hn;simp only [List.cons.injEq,Value.slice.injEq,and_true]at e;obtain ⟨e1,e2,e3⟩:=e;refine ⟨F,⟨p,k,c,vs.take (k *r.sz),by rw [e1,e3],by rw [gC];omega,hc,hfu,?_,hall.take k,hF⟩,h2,H⟩;rcases ho with ⟨hp,hn0,hc0,hv0⟩|⟨b,off,arr,hp,hb0,g1,g2,g3,g4⟩
 ·exact .inl ⟨hp,by omega,hc0,by rw [hv0];exact List.take_nil⟩
 ·refine .inr ⟨b,off,arr,hp,hb0,?_,by omega,g3,fun i v hv=> ?_⟩
  ·rw [gC,g1];exact Nat.min_eq_left (eZ _ (by omega))
  ·rw [dY]at hv;split at hv
   ·exact g4 i v hv
   ·cases hv
theorem St.rowCap {α:Type}{φ:AF}{h:AE}{Γ:List Chk}{ty:TypeId}{r:Ro α}{t:Slc}{l:List α}(H:St φ (⟨dO ty r,[.slice t.1 t.2.1 t.2.2],l⟩::Γ) h):l.length≤t.2.2:=by
 obtain ⟨F,⟨p,n,c,vs,e,hn,hc,hfu,ho,hall,hF⟩,h2,H⟩:=H;have hn:l.length=n:=hn;simp only [List.cons.injEq,Value.slice.injEq,and_true]at e;obtain ⟨e1,e2,e3⟩:=e;rcases ho with ⟨hp,hn0,hc0,hv0⟩|⟨b,off,arr,hp,hb0,g1,g2,g3,g4⟩ <;>omega
theorem St.rowHoldsF {α:Type}{φ:AF}{w:World}{Γ:List Chk}{ty:TypeId}{r:Ro α}{t:Slc}{l:List α}(H:St φ (⟨dO ty r,[.slice t.1 t.2.1 t.2.2],l⟩::Γ) w.heap):
 (l= [] ∧t.2.1=0)∨ ∃(b off:Nat) (vs:List Value),t.1=some ⟨b,off,none⟩∧r.All φ vs l∧t.2.1=l.length∧b<w.heap.size∧(∀arr,w.heap[b]? =some (.cells arr ty (0,0))→off+vs.length≤arr.size)∧Sort.Holds id w b off vs.toArray:=by
 obtain ⟨F,⟨p,n,c,vs,e,hn,hc,hfu,ho,hall,hF⟩,h2,H⟩:=H;have hn:l.length=n:=hn;simp only [List.cons.injEq,Value.slice.injEq,and_true]at e;obtain ⟨e1,e2,e3⟩:=e;rcases ho with ⟨hp,hn0,hc0,hv0⟩|⟨b,off,arr,hp,hb0,g1,g2,g3,g4⟩
 ·exact .inl ⟨cX (by omega),by omega⟩
 ·right
  refine ⟨b,off,vs,by rw [e1,hp],hall,by omega,A8 hb0,fun arr' ha=> ?_,fun j hj=> ?_⟩
  ·rw [hb0]at ha;cases ha
   have:=eZ r.sz g2
   omega
  have hj':j<vs.length:=by simpa using hj
  have hc:=g4 j vs[j] (cJ hj');refine ⟨?_,?_⟩
  ·unfold World.cell?;dsimp only;rw [hb0];dsimp only;rw [getElem!_pos _ j hj];simpa using hc
  ·unfold World.frozen?;dsimp only;rw [hb0];simp
theorem St.rowSortedF {α:Type}{φ:AF}{w:World}{Γ:List Chk}{ty:TypeId}{r:Ro α}{t:Slc}{l m:List α}(H:St φ (⟨dO ty r,[.slice t.1 t.2.1 t.2.2],l⟩::Γ) w.heap)
 {b off:Nat} (ht:t.1=some ⟨b,off,none⟩) (ms:List Value) (hall:r.All φ ms m) (hm:m.length=l.length) (hfit:∀arr,w.heap[b]? =some (.cells arr ty (0,0))→off+ms.length≤arr.size) (k:Nat) (os:Array Obj):
 St φ (⟨dO ty r,[.slice t.1 t.2.1 t.2.2],m⟩::Γ) (grow (putRow id (Sort.ahead w k) b off ms.toArray) os).heap:=by
 have hheap:(grow (putRow id (Sort.ahead w k) b off ms.toArray) os).heap=w.heap.modify b (onCells (putCells id off ms.toArray)) ++os:=rfl;rw [hheap];refine H.rowPut hall hm (fun b' off' he arr harr=> ?_) fun j hj hne=> ?_
 ·rw [ht]at he;cases he;have hlt:=A8 harr;refine ⟨putCells id off ms.toArray arr,?_,by simp [putCells],fun i v hv=> ?_⟩
  ·rw [eA (by simpa using hlt),eT,if_pos rfl,harr];rfl
  ·have hi:i<ms.length:=by
    rcases eO i ms.length with g | g
    ·exact g
    ·rw [cP g]at hv;cases hv
   have hf:=hfit arr harr;unfold putCells;rw [Array.getElem?_mapIdx,dB (by omega)];have hc:off≤off+i∧off+i<off+ms.toArray.size:=by simp;exact hi
   simp only [Option.map_some];rw [if_pos hc,Nat.add_sub_cancel_left,getElem!_pos _ i (by simpa using hi)];rw [cJ hi]at hv;cases hv;simp
 ·rw [eA (by simpa using hj),eT,if_neg fun e=>hne b off ht e.symm]
section
variable {φ:AF}{h:AE}{F:List Chk}
theorem MF {t:Slc}{l r:List Int}(s0:St φ (cR 3 (cF .i64) t l::F) h) (hd:Le l=some r):
 CallsH bN 53 [.slice t.1 t.2.1 t.2.2] h (BL fun v h'=>∃ψ:AF,∃y:Unit,∃l1:List Int,Sub φ ψ∧v=((.tuple []):Sh).val y∧l1=r∧St ψ (cR 3 (cF .i64) t l1::F) h'):=by
 unfold Le at hd;split at hd
 ·rename_i hb
  cases hd;intro w hw;subst hw;rcases s0.rowHolds rfl (cV .i64) (fun vs ha=>⟨l,FJ ha⟩) with ⟨hl,hn⟩|⟨b,off,bs,ht,hall,hn,hlen,hlt,hfit,hH⟩
  ·subst hl;rw [hn];have hc:=Any.slices_Sort_int_none Hf t.1 t.2.2 w;refine (show Calls bN 53 #[.slice t.1 0 t.2.2] w _ from hc).mono ?_;rintro e w' ⟨rfl,rfl⟩;exact ⟨gL _,_,rfl,φ,(),_,bV _,rfl,rfl,by rw [show Gh [] = [] from rfl];exact s0⟩
  ·have hbl:bs=l:=Ld (FJ hall);subst hbl;rw [ht,hn];have hc:=Any.slices_Sort_int Hf b off t.2.2 bs w hH hlt hb;rw [←M1]at hc;refine (show Calls bN 53 #[.slice (some ⟨b,off,none⟩) bs.length t.2.2] w _ from hc).mono ?_;rintro e w' ⟨rfl,k,os,rfl⟩;refine ⟨⟨rfl,rfl,rfl,by rw [Go.Sort.size_grow,Go.Sort.size_putRow];exact Nat.le_add_right _ _⟩,_,rfl,φ,(),_,bV _,rfl,rfl,?_⟩;exact s0.rowSorted ht (cV .i64) (Gh bs) (KJ _) (CD _ _).length_eq (CD _ _).length_eq hfit k os
 ·cases hd
theorem Im (l:List Int):(Lib.compact l).length≤l.length:=by
 unfold Lib.compact Lib.compactUpTo;rw [List.length_map];refine Nat.le_trans (List.length_filter_le _ _) ?_;simp
theorem KM {t:Slc}{l r:List Int}(s0:St φ (cR 3 (cF .i64) t l::F) h) (hd:Hi l=some r):
 CallsH bN 54 [.slice t.1 t.2.1 t.2.2] h (BL fun v h'=>∃ψ:AF,∃y:Slc,∃l1:List Int,Sub φ ψ∧v=((.one aS):Sh).val y∧l1=r∧St ψ (cR 3 (cF .i64) y l1::F) h'):=by
 unfold Hi at hd;split at hd
 ·rename_i hb
  cases hd;intro w hw;subst hw;have hcap:=St.rowCap s0;rcases s0.rowHolds rfl (cV .i64) (fun vs ha=>⟨l,FJ ha⟩) with ⟨hl,hn⟩|⟨b,off,bs,ht,hall,hn,hlen,hlt,hfit,hH⟩
  ·subst hl;rw [hn];have hc:=Any.slices_Compact_int_empty Hg t.1 t.2.2 w;refine (show Calls bN 54 #[.slice t.1 0 t.2.2] w _ from hc).mono ?_;rintro e w' ⟨rfl,rfl⟩;rw [show t=(t.1,t.2.1,t.2.2) from rfl,hn]at s0;exact ⟨gL _,_,rfl,φ,(t.1,0,t.2.2),_,bV _,rfl,rfl,s0⟩
  ·have hbl:bs=l:=Ld (FJ hall);subst hbl;rw [ht,hn];have hc:=Any.slices_Compact_int Hg b off t.2.2 bs w hH (by omega) hcap;refine (show Calls bN 54 #[.slice (some ⟨b,off,none⟩) bs.length t.2.2] w _ from hc).mono ?_;rintro e w' ⟨rfl,k,rfl⟩;have hle:=Im bs;have hlz:(Lib.compact bs++List.replicate (bs.length - (Lib.compact bs).length) 0).length=bs.length:=by simp;omega
   have s1:=s0.rowSorted ht (cV .i64) (Lib.compact bs++List.replicate (bs.length - (Lib.compact bs).length) 0) (KJ _) hlz hlz hfit k #[];have s2:=St.rowTake s1 (k:=(Lib.compact bs).length) (by rw [hlz];exact hle);rw [List.take_left,grow_empty]at s2;refine ⟨⟨rfl,rfl,rfl,by rw [Go.Sort.size_putRow];exact Nat.le_refl _⟩,_,rfl,φ,(t.1,(Lib.compact bs).length,t.2.2),_,bV _,by rw [ht];rfl,rfl,s2⟩
 ·cases hd
end
end Go.Proofs.YteoafgapjneblaaGreatDoor
namespace Go.Proofs.YteoafgapjneblaaGreatDoor
open Go Go.Eng
set_option linter.unusedVariables false
set_option maxRecDepth 100000
section
variable {φ:AF}{h:AE}{F:List Chk}
theorem Bp:G0 bN 46 46 57 2:=⟨cZ,.inl cZ,⟨Tryz.t57,by kernel_rfl,rfl,⟨_,rfl,rfl⟩,by decide,by decide⟩,by decide⟩
noncomputable def BU (a_0:G5) (items_1:List Aj) (sym_2:Int):Option (List Aj):=(Fe (σ:=List Aj) 0 (items_1.length:Int) ([]:List Aj) fun i_z2 z2=>(idx items_1 i_z2).bind fun e31=>(BK a_0 (e31.1,e31.2)).bind fun t9=>(cond (t9==sym_2) ((app z2 ([(e31.1,(bM .i64 (e31.2+1)))]:List Aj)).bind fun t14=>some t14) (some z2)).bind fun z10=>some z10).bind fun z1=>some z1
theorem Gi {a_0:Option Addr}{e:G5}{items_1:Slc}{i:List Aj}{sym_2:Int}(m:Ro.SliceIs Av φ items_1 i) (s0:St φ (cO 69 (cG CH) a_0 e::F) h) {r:(List Aj)}(hd:BU e i sym_2=some r):
 CallsH bN 31 [(.pointer a_0),(sv items_1),(.int .i64 sym_2)] h (BL fun v h'=>∃ψ:AF,∃y:Slc,∃n:List Aj,Sub φ ψ∧v=((.one aS):Sh).val y∧n=r∧Ro.SliceIs Av ψ y n∧St ψ (cO 69 (cG CH) a_0 e::F) h'):=by
 refine AV mixed Tryz.func31 ?_;rw [GW];unfold Ef;unfold BU at hd;have o:items_1.2.1=cI i:=m.length;obtain ⟨b1,a1,hd⟩:=bS hd;refine Ca a1 (fun a2 (y:Int×Slc×Unit) w_ g=>∃ψ:AF,∃p:List Aj,Sub φ ψ∧y.1=a2∧p=g∧St ψ (cR 57 Av y.2.1 p::cO 69 (cG CH) a_0 e::F) w_) ((0:Int),((none,0,0):Slc),()) rfl ⟨φ,[],(bV _),rfl,rfl,(((s0.nil 57 Av).at1).at1)⟩ ?_ ?_ ?_
 ·rintro _ z2 b2 _ _ ⟨b3,a3,q,rfl,rfl,j⟩ c a4 s u;try dsimp only at c a4 s u
  refine BF (dT o s) ?_;obtain ⟨b,a5,c⟩:=bS c;obtain ⟨b4,b5,a6,a7,a8,w⟩:=(m.mono q).get a5;refine AH _ a6 (Am a7 ?_);obtain ⟨_,_,rfl,rfl,rfl⟩:=a8;refine AN (x:=b.1) (AD j.sub (w 0 _ rfl)) rfl<|AN (x:=b.2) (by rw [Ac];exact (AD j.sub (w 1 _ rfl))) rfl<|AZ (vs:=[.int .i64 (0:Int),.int .i64 (0:Int)]) j fun r6 b6 ab=>AI ab rfl rfl fun b7 ac=>AI ac rfl rfl fun b8 k=>AA (x:=b.1) k rfl<|AA (x:=b.2) k rfl ?_;obtain ⟨b9,ad,c⟩:=bS c;refine AM (CK (x_1:=(b.1,b.2,())) k.at2 ad) ?_;rintro _ ba ⟨l,t9,ae,rfl,rfl,f⟩;refine ⟨t9,rfl,?_⟩;obtain ⟨af,d,c⟩:=bS c;refine Ai (fun (y:Slc×Unit) w_ g=>∃ψ:AF,∃z:List Aj,Sub l ψ∧z=g∧St ψ (cR 57 Av y.1 z::cO 69 (cG CH) a_0 e::cW 57 r6 [.int .i64 b.1,.int .i64 b.2]::F) w_) (g:=af) ?_ ?_
  ·refine AG d rfl (fun _ d=> ?_) (fun _ d=> ?_)
   ·refine AA (x:=b.1) f.at1 rfl<|AA (x:=b.2) f.at1 rfl<|AZ (vs:=[.int .i64 b.1,.int .i64 (wN b.2)]) f fun r13 bb a0=> ?_;obtain ⟨ag,ah,d⟩:=bS d;refine Aa (r:=Av) (ms:=([(b.1,(wN b.2))]:List Aj)) Bp a0.tail.at2 rfl (fA a0) (.cons (a:=[_,_]) ⟨[_],_,rfl,rfl,rfl⟩ .nil) rfl ah ?_;intro t14 bc ai;obtain rfl:=iS d;exact AP (t14,()) rfl ⟨l,ag,(bV _),rfl,ai.at2.at2.at2⟩
   obtain rfl:=iS d;exact AP (z2.2.1,()) rfl ⟨l,a3,(bV _),rfl,f.at2.at2.at2.at2⟩
  rintro z10 bd ⟨aj,ak,al,rfl,am⟩;try dsimp only at c
  obtain rfl:=iS c;exact Al ((wN z2.1),z10.1,()) _ rfl rfl ⟨aj,ak,((q.trans ae).trans al),u,rfl,am.at2.tail.at1.at1⟩
 ·rintro _ z2 be ⟨an,ao,ap,rfl,rfl,aq⟩ ar;refine As (dF o ar)<|AO (AR (z2.1,z2.2.1,()) rfl ⟨_,an,ao,ap,rfl,rfl,aq.at1.at1⟩)
 rintro z1 bf ⟨_,bg,au,av,_,rfl,aw⟩;try dsimp only at hd
 obtain ⟨ax,ay,az,b0⟩:=dK (t:=z1.2.1) aw;obtain rfl:=iS hd;exact AB ⟨ax,z1.2.1,au,(av.trans ay),rfl,rfl,az,b0⟩
noncomputable def Aq (a_0:ET) (n_1:Int):Option (List Aj×List Aj×List GS×Int×Int):=(cond (decide (n_1< 0)) (some true) (some (decide (n_1≥ (a_0.2.2.2.2.2.2.1.length:Int))))).bind fun z2=>cond z2 (some (([]:List Aj),([]:List Aj),([]:List GS),0,0)) ((idx a_0.2.2.2.2.2.2.1 n_1).bind fun e83=>some (e83.1,e83.2.1,e83.2.2.1,e83.2.2.2.1,e83.2.2.2.2))
theorem Bk {a_0:Option Addr}{o:ET}{n_1:Int}(p:Pt Ic φ a_0 o) (s0:St φ (F) h) {r:(List Aj×List Aj×List GS×Int×Int)}(hd:Aq o n_1=some r):
 CallsH bN 37 [(.pointer a_0),(.int .i64 n_1)] h (BL fun v h'=>∃ψ:AF,∃y:Slc×Slc×Slc×Int×Int×Unit,∃q:List Aj,∃s:List Aj,∃t:List GS,Sub φ ψ∧v=((.one (.agg [.slice,.slice,.slice,(.int .i64),(.int .i64)])):Sh).val y∧(q,s,t,y.2.2.2.1,y.2.2.2.2.1)=r∧Ro.SliceIs Av ψ y.1 q∧Ro.SliceIs Av ψ y.2.1 s∧Ro.SliceIs ES ψ y.2.2.1 t∧St ψ (F) h'):=by
 refine AV mixed Tryz.func37 ?_;rw [HL];unfold FL;unfold Aq at hd;refine AZ (vs:=[.slice none 0 0,.slice none 0 0,.slice none 0 0,.int .i64 (0:Int),.int .i64 (0:Int)]) s0 fun r1 aw k=> ?_;obtain ⟨w,e,hd⟩:=bS hd;refine Ai (fun (y:Bool×Unit) w_ g=>∃ψ:AF,Sub φ ψ∧y.1=g∧St ψ (Wq4 r1::F) w_) (g:=w) ?_ ?_
 ·refine AG e rfl (fun _ e=> ?_) (fun _ e=> ?_)
  ·obtain rfl:=iS e;exact AP (true,()) rfl ⟨φ,(bV _),rfl,k⟩
  obtain ⟨ax,ay,z,⟨_,_,rfl,⟨az,rfl,b0⟩,_,_,rfl,⟨b1,rfl,b2⟩,_,_,rfl,⟨b3,rfl,b4⟩,_,_,rfl,⟨b5,rfl,b6⟩,_,_,rfl,⟨b7,rfl,b8⟩,_,_,rfl,⟨b9,rfl,ba⟩,_,_,rfl,⟨u,rfl,a0⟩,rfl⟩,a1⟩:=id p;have a2:=a0.length;refine AH _ z<|AN (x:=u) (AD k.sub (a1.at 6 rfl)) rfl ?_;obtain rfl:=iS e;exact AP ((decide (n_1≥ (u.2.1:Int))),()) rfl ⟨φ,(bV _),(by rw [a2]),k⟩
 rintro z2 bb ⟨f,j,rfl,b⟩;try dsimp only at hd
 refine AG hd rfl (fun _ hd=> ?_) (fun _ hd=> ?_)
 ·refine AI b rfl rfl fun bc a3=>AI a3 rfl rfl fun bd a4=>AI a4 rfl rfl fun be a5=>AI a5 rfl rfl fun bf a6=>AI a6 rfl rfl fun bg c=>AA (x:=((none,0,0):Slc)) c rfl<|AA (x:=((none,0,0):Slc)) c rfl<|AA (x:=((none,0,0):Slc)) c rfl<|AA (x:=(0:Int)) c rfl<|AA (x:=(0:Int)) c rfl ?_;obtain rfl:=iS hd;exact AB ⟨f,(((none,0,0):Slc),((none,0,0):Slc),((none,0,0):Slc),(0:Int),(0:Int),()),[],[],[],j,rfl,rfl,(eB Av f),(eB Av f),(eB ES f),c.tail⟩
 obtain ⟨bh,bi,a7,⟨_,_,rfl,⟨bj,rfl,bk⟩,_,_,rfl,⟨bl,rfl,bm⟩,_,_,rfl,⟨bn,rfl,bo⟩,_,_,rfl,⟨bp,rfl,bq⟩,_,_,rfl,⟨br,rfl,bs⟩,_,_,rfl,⟨bt,rfl,bu⟩,_,_,rfl,⟨a8,rfl,a9⟩,rfl⟩,aa⟩:=id p;refine AH _ a7<|AN (x:=a8) (AD (dR j b.sub) (aa.at 6 rfl)) rfl ?_;obtain ⟨a,ab,hd⟩:=bS hd;obtain ⟨bv,bw,ac,ad,ae,i⟩:=(a9.mono j).get ab;refine AH _ ac (Am ad ?_);obtain ⟨_,_,rfl,⟨l,rfl,ah⟩,⟨_,_,rfl,⟨m,rfl,ak⟩,⟨_,_,rfl,⟨n,rfl,an⟩,⟨_,_,rfl,rfl,rfl⟩⟩⟩⟩:=ae;refine AN (x:=l) (AD b.sub (i 0 _ rfl)) rfl<|AN (x:=m) (by rw [Ac];exact (AD b.sub (i 1 _ rfl))) rfl<|AN (x:=n) (by rw [Ac];exact (AD b.sub (i 2 _ rfl))) rfl<|AN (x:=a.2.2.2.1) (by rw [Ac];exact (AD b.sub (i 3 _ rfl))) rfl<|AN (x:=a.2.2.2.2) (by rw [Ac];exact (AD b.sub (i 4 _ rfl))) rfl<|AI b rfl rfl fun bx aq=>AI aq rfl rfl fun bz ar=>AI ar rfl rfl fun c0 au=>AI au rfl rfl fun c1 av=>AI av rfl rfl fun c2 d=>AA (x:=l) d rfl<|AA (x:=m) d rfl<|AA (x:=n) d rfl<|AA (x:=a.2.2.2.1) d rfl<|AA (x:=a.2.2.2.2) d rfl ?_;obtain rfl:=iS hd;exact AB ⟨f,(l,m,n,a.2.2.2.1,a.2.2.2.2,()),a.1,a.2.1,a.2.2.1,j,rfl,rfl,ah,ak,an,d.tail⟩
noncomputable def Bo (a_0:ET):Option Int:=some (a_0.2.2.2.2.2.2.1.length:Int)
theorem EO {a_0:Option Addr}{a:ET}(c:Pt Ic φ a_0 a) (s0:St φ (F) h) {r:Int}(hd:Bo a=some r):
 CallsH bN 9 [(.pointer a_0)] h (BL fun v h'=>∃ψ:AF,∃y:Int,Sub φ ψ∧v=((.one aI):Sh).val y∧y=r∧St ψ (F) h'):=by
 refine AV mixed Tryz.func9 ?_;rw [G1];unfold E4;unfold Bo at hd;obtain ⟨i,j,d,⟨_,_,rfl,⟨k,rfl,l⟩,_,_,rfl,⟨m,rfl,n⟩,_,_,rfl,⟨o,rfl,p⟩,_,_,rfl,⟨q,rfl,s⟩,_,_,rfl,⟨t,rfl,u⟩,_,_,rfl,⟨w,rfl,z⟩,_,_,rfl,⟨b,rfl,e⟩,rfl⟩,f⟩:=id c;have g:=e.length;refine AH _ d<|AN (x:=b) (AD s0.sub (f.at 6 rfl)) rfl ?_;obtain rfl:=iS hd;exact AB ⟨φ,(b.2.1:Int),(bV _),rfl,(by rw [g]),s0⟩
noncomputable def Ct (a_0:ET):Option Int:=some a_0.2.2.2.2.2.2.2
theorem GD {a_0:Option Addr}{a:ET}(b:Pt Ic φ a_0 a) (s0:St φ (F) h) {r:Int}(hd:Ct a=some r):
 CallsH bN 10 [(.pointer a_0)] h (BL fun v h'=>∃ψ:AF,∃y:Int,Sub φ ψ∧v=((.one aI):Sh).val y∧y=r∧St ψ (F) h'):=by
 refine AV mixed Tryz.func10 ?_;rw [F4];unfold EG;unfold Ct at hd;obtain ⟨e,f,c,⟨_,_,rfl,⟨g,rfl,i⟩,_,_,rfl,⟨j,rfl,k⟩,_,_,rfl,⟨l,rfl,m⟩,_,_,rfl,⟨n,rfl,o⟩,_,_,rfl,⟨p,rfl,q⟩,_,_,rfl,⟨s,rfl,t⟩,_,_,rfl,⟨u,rfl,w⟩,rfl⟩,d⟩:=id b;refine AH _ c<|AN (x:=a.2.2.2.2.2.2.2) (AD s0.sub (d.at 7 rfl)) rfl ?_;obtain rfl:=iS hd;exact AB ⟨φ,a.2.2.2.2.2.2.2,(bV _),rfl,rfl,s0⟩
noncomputable def Ar (a_0:ET) (n_1:Int) (sym_2:Int):Option Int:=
 (Aq a_0 n_1).bind fun t1=>
 (CV (σ:=Unit) (β:=Int) 0 (t1.2.2.1.length:Int) () fun i_z3 z3=>
  (idx t1.2.2.1 i_z3).bind fun e37=>
  cond (e37.1==sym_2)
  (some (cQ e37.2))
  (some (cY ()))).bind fun e_z2=>match e_z2 with
 |.next z2=>
  some (-1:Int)
 |.done q60=>some q60
theorem CL {a_0:Option Addr}{f:ET}{n_1:Int}{sym_2:Int}(q:Pt Ic φ a_0 f) (s0:St φ (F) h) {r:Int}(hd:Ar f n_1 sym_2=some r):
 CallsH bN 11 [(.pointer a_0),(.int .i64 n_1),(.int .i64 sym_2)] h (BL fun v h'=>∃ψ:AF,∃y:Int,Sub φ ψ∧v=((.one aI):Sh).val y∧y=r∧St ψ (F) h'):=by
 refine AV mixed Tryz.func11 ?_;rw [HJ];unfold FK;unfold Ar at hd;obtain ⟨ah,s,hd⟩:=bS hd;refine AM (Bk q s0 s) ?_;rintro _ ai ⟨i,t1,aj,ak,al,j,rfl,rfl,am,an,k,t⟩;refine ⟨t1,rfl,?_⟩;try dsimp only at hd
 have l:=k.length;obtain ⟨ao,u,hd⟩:=bS hd;refine BN u (fun w (y:Int×Int×Unit) w_ g=>∃ψ:AF,Sub i ψ∧y.1=w∧()=g∧St ψ (F) w_) ((0:Int),(0:Int),()) rfl ⟨i,(bV _),rfl,rfl,t⟩ ?_ ?_ ?_
 ·rintro _ z3 ap _ _ ⟨m,d,rfl,rfl,e⟩ a z n o a0;try dsimp only at a z n o
  refine BF (dT l n) ?_;obtain ⟨b,a1,a⟩:=bS a;obtain ⟨aq,ar,a2,a3,a4,p⟩:=(k.mono d).get a1;refine AH _ a2 (Am a3 ?_);obtain ⟨_,_,rfl,rfl,rfl⟩:=a4;refine AN (x:=b.1) (AD e.sub (p 0 _ rfl)) rfl<|AN (x:=b.2) (by rw [Ac];exact (AD e.sub (p 1 _ rfl))) rfl<|AZ (vs:=[.int .i64 (0:Int),.int .i64 (0:Int)]) e fun r7 au a7=>AI a7 rfl rfl fun av a8=>AI a8 rfl rfl fun aw c=>AA (x:=b.1) c rfl<|AG a rfl (fun _ a=> ?_) (fun _ a=> ?_)
  ·refine AA (x:=b.2) c rfl ?_;obtain rfl:=iS a;obtain rfl:=a0 _ rfl;try dsimp only at hd
   obtain rfl:=iS hd;exact Ae (Ah (AB ⟨m,b.2,(j.trans d),rfl,rfl,c.tail⟩))
  obtain rfl:=iS a;exact Al ((wN z3.1),z3.2.1,()) _ rfl rfl ⟨m,d,o,rfl,c.tail⟩
 ·rintro _ z3 ax _ ⟨a9,aa,rfl,rfl,ab⟩ ac ad;subst ad;refine As (dF l ac)<|AO (AR (z3.1,z3.2.1,()) rfl ⟨_,rfl,_,a9,aa,rfl,rfl,ab⟩)
 rintro z2 ay ⟨_,rfl,_,ae,af,_,rfl,ag⟩;try dsimp only at hd
 obtain rfl:=iS hd;exact AB ⟨ae,(-1:Int),(j.trans af),rfl,rfl,ag⟩
noncomputable def Bx (a_0:ET) (n_1:Int) (seq_2:List Int):Option Int:=(cond (decide (n_1< 0)) (some true) (some (decide (n_1≥ (a_0.2.2.2.2.2.2.1.length:Int))))).bind fun z1=>cond z1 (some (-1:Int)) (((CV (σ:=Int) (β:=Int) 0 (seq_2.length:Int) n_1 fun i_z5 z5=>(idx seq_2 i_z5).bind fun e53=>(Ar a_0 z5 e53).bind fun t8=>cond (decide (t8< 0)) (some (cQ t8)) (some (cY t8))).map AT.get).bind fun z4=>some z4)
theorem Gj {a_0:Option Addr}{i:ET}{n_1:Int}{seq_2:Slc}{f:List Int}(j:Pt Ic φ a_0 i) (k:Ro.SliceIs (cF .i64) φ seq_2 f) (s0:St φ (F) h) {r:Int}(hd:Bx i n_1 f=some r):
 CallsH bN 21 [(.pointer a_0),(.int .i64 n_1),(sv seq_2)] h (BL fun v h'=>∃ψ:AF,∃y:Int,Sub φ ψ∧v=((.one aI):Sh).val y∧y=r∧St ψ (F) h'):=by
 refine AV mixed Tryz.func21 ?_;rw [GV];unfold Ee;unfold Bx at hd;have l:seq_2.2.1=cI f:=k.length;obtain ⟨w,b,hd⟩:=bS hd;refine Ai (fun (y:Bool×Unit) w_ g=>∃ψ:AF,Sub φ ψ∧y.1=g∧St ψ (F) w_) (g:=w) ?_ ?_
 ·refine AG b rfl (fun _ b=> ?_) (fun _ b=> ?_)
  ·obtain rfl:=iS b;exact AP (true,()) rfl ⟨φ,(bV _),rfl,s0⟩
  obtain ⟨al,am,z,⟨_,_,rfl,⟨an,rfl,ao⟩,_,_,rfl,⟨ap,rfl,aq⟩,_,_,rfl,⟨ar,rfl,au⟩,_,_,rfl,⟨av,rfl,aw⟩,_,_,rfl,⟨ax,rfl,ay⟩,_,_,rfl,⟨az,rfl,b0⟩,_,_,rfl,⟨m,rfl,a0⟩,rfl⟩,a1⟩:=id j;have a2:=a0.length;refine AH _ z<|AN (x:=m) (AD s0.sub (a1.at 6 rfl)) rfl ?_;obtain rfl:=iS b;exact AP ((decide (n_1≥ (m.2.1:Int))),()) rfl ⟨φ,(bV _),(by rw [a2]),s0⟩
 rintro z1 b1 ⟨c,d,rfl,n⟩;try dsimp only at hd
 refine AG hd rfl (fun _ hd=> ?_) (fun _ hd=> ?_)
 ·obtain rfl:=iS hd;exact AB ⟨c,(-1:Int),d,rfl,rfl,n⟩
 obtain ⟨b2,a3,hd⟩:=bS hd;obtain ⟨a4,a5,a6⟩:=Option.map_eq_some_iff.1 a3;subst a6;refine Bc (fun (y:Int×Int×Unit) w_ g=>∃ψ:AF,Sub c ψ∧y.2.1=g∧St ψ (F) w_) (g:=(AT.get a4)) ?_ ?_
 ·refine Jj a5 (fun a7 (y:Int×Int×Unit) w_ g=>∃ψ:AF,Sub c ψ∧y.1=a7∧y.2.1=g∧St ψ (F) w_) ((0:Int),n_1,()) rfl ⟨c,(bV _),rfl,rfl,n⟩ ?_ ?_
  ·rintro _ z5 b3 _ _ ⟨b4,e,rfl,rfl,o⟩ a a8 p q a9;try dsimp only at a a8 p q
   refine BF (dT l p) ?_;obtain ⟨b5,aa,a⟩:=bS a;refine Dv k aa (dR (d.trans e) o.sub) ?_;obtain ⟨b6,ab,a⟩:=bS a;refine AM (CL (j.mono (d.trans e)) o ab) ?_;rintro _ b7 ⟨s,t8,t,rfl,rfl,u⟩;refine ⟨t8,rfl,?_⟩;refine AG a rfl (fun _ a=> ?_) (fun _ a=> ?_)
   ·obtain rfl:=iS a;obtain rfl:=a9 _ rfl;exact AO (AR (z5.1,t8,()) rfl ⟨s,(e.trans t),rfl,u⟩)
   obtain rfl:=iS a;exact Al ((wN z5.1),t8,()) _ rfl rfl ⟨s,(e.trans t),q,rfl,u⟩
  ·rintro _ z5 b8 _ ⟨ac,ad,rfl,rfl,ae⟩ af ag;subst ag;refine As (dF l af)<|AO (AR (z5.1,z5.2.1,()) rfl ⟨ac,ad,rfl,ae⟩)
 rintro z4 b9 ⟨ah,ai,aj,ak⟩;rw [←aj]at hd;try dsimp only at hd
 obtain rfl:=iS hd;exact AB ⟨ah,z4.2.1,(d.trans ai),rfl,rfl,ak⟩
end
section
variable {φ:AF}{h:AE}{F:List Chk}
theorem Io:G0 bN 22 22 5 1:=⟨dI,.inl dI,⟨Tryz.t5,by kernel_rfl,rfl,⟨_,rfl,rfl⟩,by decide,by decide⟩,by decide⟩
theorem DE:G0 bN 26 26 3 1:=⟨dJ,.inl dJ,⟨Tryz.t3,by kernel_rfl,rfl,⟨_,rfl,rfl⟩,by decide,by decide⟩,by decide⟩
noncomputable def Cm (kernel_0:List Aj):Option ByteArray:=(Fe (σ:=List Int) 0 (kernel_0.length:Int) ([]:List Int) fun i_z2 z2=>(idx kernel_0 i_z2).bind fun e28=>(Cf z2 e28.1 10).bind fun t8=>(app t8 ([(46:Int)]:List Int)).bind fun t10=>(Cf t10 e28.2 10).bind fun t12=>(app t12 ([(32:Int)]:List Int)).bind fun t14=>some t14).bind fun z1=>(Lc z1).bind fun t15=>some t15
theorem IN {h:AE}{kernel_0:Slc}{d:List Aj}(gk:IM (BX h)) (f:Ro.SliceIs Av (BX h) kernel_0 d) (s0:St (BX h) [] h) {r:ByteArray}(hd:Cm d=some r):
 CallsH bN 27 [(sv kernel_0)] h (BL fun v h'=>∃ψ:AF,∃y:ByteArray,Sub (BX h) ψ∧v=((.one (.atom .string)):Sh).val y∧y=r∧St ψ [] h'):=by
 refine AV mixed Tryz.func27 ?_;rw [Ie];unfold Hc;unfold Cm at hd;have i:kernel_0.2.1=cI d:=f.length;obtain ⟨ap,w,hd⟩:=bS hd;refine Ca w (fun z (y:Int×Slc×Unit) w_ g=>∃ψ:AF,∃j:List Int,Sub (BX h) ψ∧ψ=(BX h)∧y.1=z∧j=g∧St ψ (cR 5 (cF .u8) y.2.1 j:: []) w_) ((0:Int),((none,0,0):Slc),()) rfl ⟨(BX h),[],(bV _),rfl,rfl,rfl,(s0.nil 5 (cF .u8))⟩ ?_ ?_ ?_
 ·rintro _ z2 aq _ _ ⟨ar,au,k,rfl,rfl,rfl,e⟩ b a0 l m;try dsimp only at b a0 l m
  refine BF (dT i l) ?_;obtain ⟨c,a1,b⟩:=bS b;obtain ⟨av,aw,a2,a3,a4,n⟩:=(f.mono k).get a1;refine AH _ a2 (Am a3 ?_);obtain ⟨_,_,rfl,rfl,rfl⟩:=a4;refine AN (x:=c.1) (AD e.sub (n 0 _ rfl)) rfl<|AN (x:=c.2) (by rw [Ac];exact (AD e.sub (n 1 _ rfl))) rfl<|AZ (vs:=[.int .i64 (0:Int),.int .i64 (0:Int)]) e fun r6 ax a7=>AI a7 rfl rfl fun ay a8=>AI a8 rfl rfl fun az o=>AA (x:=c.1) o rfl ?_;obtain ⟨b0,a9,b⟩:=bS b;refine AM (G7 gk o.at1 a9) ?_;rintro _ b1 ⟨b2,t8,b3,aa,rfl,rfl,rfl,ab⟩;refine ⟨t8,rfl,?_⟩;refine AZ (vs:=[.int .u8 (46:Int)]) ab fun r9 b4 p=> ?_;obtain ⟨b5,ac,b⟩:=bS b;refine Aa (r:=(cF .u8)) (ms:=([(46:Int)]:List Int)) Io p.tail rfl (fA p) (.cons (a:=[_]) rfl .nil) rfl ac ?_;intro t10 b6 q;refine AA (x:=c.2) q.at1 rfl ?_;obtain ⟨b7,ad,b⟩:=bS b;refine AM (G7 gk q ad) ?_;rintro _ b8 ⟨b9,t12,ba,ae,rfl,rfl,rfl,af⟩;refine ⟨t12,rfl,?_⟩;refine AZ (vs:=[.int .u8 (32:Int)]) af fun r13 bb s=> ?_;obtain ⟨ag,ah,b⟩:=bS b;refine Aa (r:=(cF .u8)) (ms:=([(32:Int)]:List Int)) Io s.tail rfl (fA s) (.cons (a:=[_]) rfl .nil) rfl ah ?_;intro t14 bc ai;obtain rfl:=iS b;exact Al ((wN z2.1),t14,()) _ rfl rfl ⟨(BX h),ag,((k.trans aa).trans ae),rfl,m,rfl,ai.at1.tail⟩
 ·rintro _ z2 bd ⟨be,aj,ak,rfl,rfl,rfl,al⟩ am;refine As (dF i am)<|AO (AR (z2.1,z2.2.1,()) rfl ⟨_,(BX h),aj,ak,rfl,rfl,rfl,al⟩)
 rintro z1 bf ⟨_,bg,bh,an,rfl,_,rfl,t⟩;try dsimp only at hd
 obtain ⟨u,ao,hd⟩:=bS hd;refine K8 (x:=u) dI dM cU (St.bytes t) ao ?_;obtain rfl:=iS hd;exact AB ⟨(BX h),u,an,(by first | with_reducible rfl | (show Value.string _=Value.string _;with_reducible rfl)|rfl),(by first | with_reducible rfl | rfl),t.tail⟩
theorem Gk {kernel_0:Slc}{a:List Aj}(gk:IM φ) (b:Ro.SliceIs Av φ kernel_0 a) (s0:St φ (F) h) {r:ByteArray}(hd:Cm a=some r):
 CallsH bN 27 [(sv kernel_0)] h (BL fun v h'=>∃ψ:AF,∃y:ByteArray,Sub φ ψ∧v=((.one (.atom .string)):Sh).val y∧y=r∧St ψ (F) h'):=by
 refine CallsH.mono (IN (gk.mono s0.sub) (b.mono s0.sub) (bV _) hd) ?_;rintro e h' ⟨v,rfl,ψ,y,hs,rfl,rfl,s1⟩;exact ⟨_,rfl,φ,y,bV _,rfl,rfl,s0.keep (hs.trans s1.sub)⟩
noncomputable def BG (a_0:G5) (items_1:List Aj):Option (List Int):=(Fe (σ:=List Int) 0 (items_1.length:Int) ([]:List Int) fun i_z2 z2=>(idx items_1 i_z2).bind fun e31=>(BK a_0 (e31.1,e31.2)).bind fun t9=>(cond (decide (t9≥ 0)) ((app z2 ([t9]:List Int)).bind fun t12=>some t12) (some z2)).bind fun z10=>some z10).bind fun z1=>(Le z1).bind fun t13=>(Hi t13).bind fun t14=>some t14
theorem FT {a_0:Option Addr}{e:G5}{items_1:Slc}{f:List Aj}(l:Ro.SliceIs Av φ items_1 f) (s0:St φ (cO 69 (cG CH) a_0 e::F) h) {r:(List Int)}(hd:BG e f=some r):
 CallsH bN 30 [(.pointer a_0),(sv items_1)] h (BL fun v h'=>∃ψ:AF,∃y:Slc,∃m:List Int,Sub φ ψ∧v=((.one aS):Sh).val y∧m=r∧Ro.SliceIs (cF .i64) ψ y m∧St ψ (cO 69 (cG CH) a_0 e::F) h'):=by
 refine AV mixed Tryz.func30 ?_;rw [FN];unfold Dc;unfold BG at hd;have n:items_1.2.1=cI f:=l.length;obtain ⟨b7,a1,hd⟩:=bS hd;refine Ca a1 (fun a2 (y:Int×Slc×Unit) w_ g=>∃ψ:AF,∃o:List Int,Sub φ ψ∧y.1=a2∧o=g∧St ψ (cR 3 (cF .i64) y.2.1 o::cO 69 (cG CH) a_0 e::F) w_) ((0:Int),((none,0,0):Slc),()) rfl ⟨φ,[],(bV _),rfl,rfl,(((s0.nil 3 (cF .i64)).at1).at1)⟩ ?_ ?_ ?_
 ·rintro _ z2 b8 _ _ ⟨b9,a3,p,rfl,rfl,i⟩ b a4 q s;try dsimp only at b a4 q s
  refine BF (dT n q) ?_;obtain ⟨c,a5,b⟩:=bS b;obtain ⟨ba,bb,a6,a7,a8,u⟩:=(l.mono p).get a5;refine AH _ a6 (Am a7 ?_);obtain ⟨_,_,rfl,rfl,rfl⟩:=a8;refine AN (x:=c.1) (AD i.sub (u 0 _ rfl)) rfl<|AN (x:=c.2) (by rw [Ac];exact (AD i.sub (u 1 _ rfl))) rfl<|AZ (vs:=[.int .i64 (0:Int),.int .i64 (0:Int)]) i fun r6 bc ab=>AI ab rfl rfl fun bd ac=>AI ac rfl rfl fun be j=>AA (x:=c.1) j rfl<|AA (x:=c.2) j rfl ?_;obtain ⟨bf,ad,b⟩:=bS b;refine AM (CK (x_1:=(c.1,c.2,())) j.at2 ad) ?_;rintro _ bg ⟨k,t9,ae,rfl,rfl,w⟩;refine ⟨t9,rfl,?_⟩;obtain ⟨af,d,b⟩:=bS b;refine Ai (fun (y:Slc×Unit) w_ g=>∃ψ:AF,∃z:List Int,Sub k ψ∧z=g∧St ψ (cR 3 (cF .i64) y.1 z::cO 69 (cG CH) a_0 e::cW 57 r6 [.int .i64 c.1,.int .i64 c.2]::F) w_) (g:=af) ?_ ?_
  ·refine AG d rfl (fun _ d=> ?_) (fun _ d=> ?_)
   ·refine AZ (vs:=[.int .i64 t9]) w fun r11 bh a0=> ?_;obtain ⟨ag,ah,d⟩:=bS d;refine Aa (r:=(cF .i64)) (ms:=([t9]:List Int)) DE a0.tail.at2 rfl (fA a0) (.cons (a:=[_]) rfl .nil) rfl ah ?_;intro t12 bi ai;obtain rfl:=iS d;exact AP (t12,()) rfl ⟨k,ag,(bV _),rfl,ai.at2.at2.at2⟩
   obtain rfl:=iS d;exact AP (z2.2.1,()) rfl ⟨k,a3,(bV _),rfl,w.at2.at2.at2.at2⟩
  rintro z10 bj ⟨aj,ak,al,rfl,am⟩;try dsimp only at b
  obtain rfl:=iS b;exact Al ((wN z2.1),z10.1,()) _ rfl rfl ⟨aj,ak,((p.trans ae).trans al),s,rfl,am.at2.tail.at1.at1⟩
 ·rintro _ z2 bk ⟨an,ao,ap,rfl,rfl,aq⟩ ar;refine As (dF n ar)<|AO (AR (z2.1,z2.2.1,()) rfl ⟨_,an,ao,ap,rfl,rfl,aq.at1.at1⟩)
 rintro z1 bl ⟨_,bm,bn,au,_,rfl,av⟩;try dsimp only at hd
 obtain ⟨bo,aw,hd⟩:=bS hd;refine AM (MF av aw) ?_;rintro _ bp ⟨bq,t13,br,ax,rfl,rfl,ay⟩;refine ⟨t13,rfl,?_⟩;obtain ⟨bs,az,hd⟩:=bS hd;refine AM (KM ay az) ?_;rintro _ bt ⟨bu,t14,b0,b1,rfl,rfl,b2⟩;refine ⟨t14,rfl,?_⟩;obtain ⟨b3,b4,b5,b6⟩:=dK (t:=t14) b2;obtain rfl:=iS hd;exact AB ⟨b3,t14,b0,(((au.trans ax).trans b1).trans b4),rfl,rfl,b5,b6⟩
noncomputable def BB (a_0:ET) (n_1:Int):Option (List Aj):=(Aq a_0 n_1).bind fun t1=>(EF t1.2.1).bind fun t2=>some t2
theorem Dh {a_0:Option Addr}{a:ET}{n_1:Int}(c:Pt Ic φ a_0 a) (s0:St φ (F) h) {r:(List Aj)}(hd:BB a n_1=some r):
 CallsH bN 14 [(.pointer a_0),(.int .i64 n_1)] h (BL fun v h'=>∃ψ:AF,∃y:Slc,∃b:List Aj,Sub φ ψ∧v=((.one aS):Sh).val y∧b=r∧Ro.SliceIs Av ψ y b∧St ψ (F) h'):=by
 refine AV mixed Tryz.func14 ?_;rw [F5];unfold EH;unfold BB at hd;obtain ⟨q,d,hd⟩:=bS hd;refine AM (Bk c s0 d) ?_;rintro _ s ⟨u,t1,w,x,z,e,rfl,rfl,a0,f,a1,g⟩;refine ⟨t1,rfl,?_⟩;try dsimp only at hd
 obtain ⟨a2,i,hd⟩:=bS hd;refine AM (Ge f g i) ?_;rintro _ a3 ⟨a4,t2,j,k,rfl,rfl,l⟩;refine ⟨t2,rfl,?_⟩;obtain ⟨m,n,o,p⟩:=dK (t:=t2) l;obtain rfl:=iS hd;exact AB ⟨m,t2,j,((e.trans k).trans n),rfl,rfl,o,p⟩
noncomputable def Bs (a_0:ET) (n_1:Int):Option (List GS):=(Aq a_0 n_1).bind fun t1=>(EF t1.2.2.1).bind fun t2=>some t2
theorem GE {a_0:Option Addr}{a:ET}{n_1:Int}(c:Pt Ic φ a_0 a) (s0:St φ (F) h) {r:(List GS)}(hd:Bs a n_1=some r):
 CallsH bN 17 [(.pointer a_0),(.int .i64 n_1)] h (BL fun v h'=>∃ψ:AF,∃y:Slc,∃b:List GS,Sub φ ψ∧v=((.one aS):Sh).val y∧b=r∧Ro.SliceIs ES ψ y b∧St ψ (F) h'):=by
 refine AV mixed Tryz.func17 ?_;rw [F6];unfold EI;unfold Bs at hd;obtain ⟨q,d,hd⟩:=bS hd;refine AM (Bk c s0 d) ?_;rintro _ s ⟨u,t1,w,x,z,e,rfl,rfl,a0,a1,f,g⟩;refine ⟨t1,rfl,?_⟩;try dsimp only at hd
 obtain ⟨a2,i,hd⟩:=bS hd;refine AM (KH f g i) ?_;rintro _ a3 ⟨a4,t2,j,k,rfl,rfl,l⟩;refine ⟨t2,rfl,?_⟩;obtain ⟨m,n,o,p⟩:=dK (t:=t2) l;obtain rfl:=iS hd;exact AB ⟨m,t2,j,((e.trans k).trans n),rfl,rfl,o,p⟩
noncomputable def Ax (a_0:ET) (n_1:Int):Option (List Aj):=(Aq a_0 n_1).bind fun t1=>(EF t1.1).bind fun t2=>some t2
theorem CM {a_0:Option Addr}{a:ET}{n_1:Int}(c:Pt Ic φ a_0 a) (s0:St φ (F) h) {r:(List Aj)}(hd:Ax a n_1=some r):
 CallsH bN 13 [(.pointer a_0),(.int .i64 n_1)] h (BL fun v h'=>∃ψ:AF,∃y:Slc,∃b:List Aj,Sub φ ψ∧v=((.one aS):Sh).val y∧b=r∧Ro.SliceIs Av ψ y b∧St ψ (F) h'):=by
 refine AV mixed Tryz.func13 ?_;rw [Fi];unfold Dy;unfold Ax at hd;obtain ⟨q,d,hd⟩:=bS hd;refine AM (Bk c s0 d) ?_;rintro _ s ⟨u,t1,w,x,z,e,rfl,rfl,f,a0,a1,g⟩;refine ⟨t1,rfl,?_⟩;try dsimp only at hd
 obtain ⟨a2,i,hd⟩:=bS hd;refine AM (Ge f g i) ?_;rintro _ a3 ⟨a4,t2,j,k,rfl,rfl,l⟩;refine ⟨t2,rfl,?_⟩;obtain ⟨m,n,o,p⟩:=dK (t:=t2) l;obtain rfl:=iS hd;exact AB ⟨m,t2,j,((e.trans k).trans n),rfl,rfl,o,p⟩
end
end Go.Proofs.YteoafgapjneblaaGreatDoor
namespace Go.Proofs.YteoafgapjneblaaGreatDoor
open Go Go.Eng Go.RowKit Go.Shelf Go.Sort
set_option linter.unusedVariables false
set_option maxRecDepth 100000
def orI (x y:Int):Int:=if x=0 then y else x
set_option maxHeartbeats 1000000 in
theorem or2 {b:Nat}{x y:Int}(w:World) (h0:w.cell? ⟨b,0,none⟩=some (.int .i64 x)) (h1:w.cell? ⟨b,1,none⟩=some (.int .i64 y)):
 Calls bN 64 #[.slice (some ⟨b,0,none⟩) 2 2] w fun e w'=>e= .returned (.int .i64 (orI x y))∧w'=w:=by
 have hmx:Tryz.prog.follows .mixedOrders=true:=mixed
 go_enter Tryz.func64,Tryz.ntmps64
 go_wp2
 go_loop [5,8] (fun _ i=>∃k:Nat,k≤2∧i= .int .i64 k∧(1≤k→x=0)∧(2≤k→y=0)) (fun _ i=>match i with | .int _ m=>2 - m.toNat | _=>0)
 case atStart=>exact ⟨0,by omega,rfl,by omega,by omega⟩
 case round=>
  obtain ⟨k,hk,rfl,g1,g2⟩:=hrel;have hk3:k=0∨k=1∨k=2:=by omega
  rcases hk3 with rfl | rfl | rfl
  ·go_wp2
   ·have hne:(x !=0)=true:=by assumption
    go_ret
    exact ⟨by unfold orI;rw [if_neg (by simpa using hne)];rfl,rfl⟩
   ·have hne:(x !=0)=false:=by assumption
    exact ⟨⟨1,by omega,rfl,fun _=>by simpa using hne,fun h=>by omega⟩,by decide⟩
  ·go_wp2
   ·have hne:(y !=0)=true:=by assumption
    go_ret
    have hx:=g1 (by omega);subst hx;exact ⟨rfl,rfl⟩
   ·have hne:(y !=0)=false:=by assumption
    exact ⟨⟨2,by omega,rfl,fun _=>g1 (by omega),fun _=>by simpa using hne⟩,by decide⟩
  ·go_wp2
   go_ret
   have hx:=g1 (by omega);have hy:=g2 (by omega);subst hx;subst hy;exact ⟨rfl,rfl⟩
theorem Gv {w:World}{b i:Nat}{c:Array Value}{t:TypeId}{v:Value}(hb:w.heap[b]? =some (.cells c t (0,0))) (hv:c[i]? =some v):w.cell? ⟨b,i,none⟩=some v:=by
 rw [Kl,Du (c:=c) (t:=t) (f:=(0,0)) hb rfl];exact hv
theorem JO (w:World) (x y:Int):(w.alloc (.cells #[.int .i64 x,.int .i64 y] 3)).cell? ⟨w.heap.size,0,none⟩=some (.int .i64 x)∧(w.alloc (.cells #[.int .i64 x,.int .i64 y] 3)).cell? ⟨w.heap.size,1,none⟩=some (.int .i64 y):=by
 have hb:(w.alloc (.cells #[.int .i64 x,.int .i64 y] 3)).heap[w.heap.size]? =some (.cells #[.int .i64 x,.int .i64 y] 3 (0,0)):=by
  show (w.heap.push _)[w.heap.size]? =_;rw [dC,if_pos rfl]
 exact ⟨Gv hb rfl,Gv hb rfl⟩
theorem Ip (w:World) (o:Obj):w.alloc o=grow w #[o]:=by
 show ({w with heap:=w.heap.push o} :World)= {w with heap:=w.heap++ #[o]};rw [Array.push_eq_append]
set_option maxHeartbeats 4000000 in
theorem PA {a b:Int×Int}(w:World):
 Calls bN 51 #[.agg #[.int .i64 a.1,.int .i64 a.2],.agg #[.int .i64 b.1,.int .i64 b.2]] w fun e w'=>e= .returned (.int .i64 (orI (Lib.compareInt a.1 b.1) (Lib.compareInt a.2 b.2)))∧ ∃q os',w'=grow (w.drewN q) os':=by
 have hmx:Tryz.prog.follows .mixedOrders=true:=mixed;have e61:∀args w,(callFunc 65 args).run bN w= .ok (.enter 65 args) w:=enters_of Tryz.func65 (by kernel_rfl) rfl;have e60:∀args w,(callFunc 64 args).run bN w= .ok (.enter 64 args) w:=enters_of Tryz.func64 (by kernel_rfl) rfl
 go_enter Tryz.func51,Tryz.ntmps51
 go_wp2
 obtain ⟨A,hA⟩:∃A,A=Obj.cells #[cV .i64 a.1,cV .i64 a.2] 57 (0,0):=⟨_,rfl⟩;obtain ⟨B,hB⟩:∃B,B=Obj.cells #[cV .i64 b.1,cV .i64 b.2] 57 (0,0):=⟨_,rfl⟩;obtain ⟨W,hW⟩:∃W,W=(w.alloc A).alloc B:=⟨_,rfl⟩;have hh:W.heap=(w.heap.push A).push B:=by rw [hW];rfl
 have ha:W.heap[w.heap.size]? =some A:=by rw [hh,dC,if_neg (by simp),dC,if_pos rfl]
 have hb:W.heap[w.heap.size+1]? =some B:=by rw [hh,dC,if_pos (by simp)]
 rw [←hA,←hB,←hW];rw [hA]at ha;rw [hB]at hb;have f1:W.drew.cell? ⟨w.heap.size,0,none⟩=some (.int .i64 a.1):=Gv (w:=W.drew) ha rfl;have f2:W.drew.cell? ⟨w.heap.size,1,none⟩=some (.int .i64 a.2):=Gv (w:=W.drew) ha rfl;have f3:W.drew.cell? ⟨w.heap.size+1,0,none⟩=some (.int .i64 b.1):=Gv (w:=W.drew) hb rfl;have f4:W.drew.cell? ⟨w.heap.size+1,1,none⟩=some (.int .i64 b.2):=Gv (w:=W.drew) hb rfl;have hWg:grow w #[A,B] =W:=by rw [hW,Ip,Ip,grow_grow];rfl
 clear hh ha hb hW hA hB;refine wp_region_still_tail 10 (by kernel_rfl) (by kernel_rfl) ?_;simp only [List.take_succ_cons,List.take_zero,List.drop_succ_cons,List.drop_zero]
 still_step
 still_step
 still_step
 still_step
 still_call (Any.cmp_Compare_int Hh _ _ _)
 still_step
 still_step
 still_step
 still_step
 still_call (Any.cmp_Compare_int Hh _ _ _)
 refine wpStill_nil ?_;clear f1 f2 f3 f4;change wpList _ _ _ _ _ W.drew
 generalize hV:W.drew=V
 go_wp2_with (go_at_call 64;refine (or2 (x:=Lib.compareInt a.1 b.1) (y:=Lib.compareInt a.2 b.2) _ (JO _ _ _).1 (JO _ _ _).2).mono ?_;rintro e w' ⟨rfl,rfl⟩)
 go_ret
 refine ⟨rfl,1,#[A,B] ++ #[.cells #[.int .i64 (Lib.compareInt a.1 b.1),.int .i64 (Lib.compareInt a.2 b.2)] 3 (0,0)],?_⟩;rw [Ip,←hV,←hWg,←grow_grow];rfl
abbrev Item:=Int×Int
def D8 (x:Item):List Value:=[.int .i64 x.1,.int .i64 x.2]
def cfI (x y:Item):Int:=orI (Lib.compareInt x.1 y.1) (Lib.compareInt x.2 y.2)
def Cg (x y:Item):Bool:=decide (x.1<y.1∨x.1=y.1∧x.2<y.2)
def Ep (l:List Item):List Item:=JN (fun x y=> !Cg y x) l
theorem Hk (a b c:Item) (h1:(!Cg b a)=true) (h2:(!Cg c b)=true):(!Cg c a)=true:=by
 simp only [Cg,eJ,decide_eq_false_iff_not]at *;omega
theorem Hl (a b:Item):(!Cg b a || !Cg a b)=true:=by
 simp only [Cg,eS,eJ,decide_eq_false_iff_not];omega
theorem MG (l:List Item):Ep l=l.mergeSort fun x y=> !Cg y x:=
 KL Hk Hl (fun a b h1 h2=>by
  simp only [Cg,eJ,decide_eq_false_iff_not]at *;exact Prod.ext (by omega) (by omega)) l
def Fu (l:List Item):Option (List Item):=if l.length<4611686018427387904 then some (Ep l) else none
theorem MH {φ:AF}{vs:List Value}{l:List Item}(H:Av.All φ vs l):vs=l.flatMap D8:=by
 induction H with
 |nil=>rfl
 |cons h _ ih=>
  obtain ⟨_,_,rfl,rfl,rfl⟩:=h;rw [ih,eK];rfl
theorem MI {φ:AF}(l:List Item):Av.All φ (l.flatMap D8) l:=by
 induction l with
 |nil=>exact .nil
 |cons x l ih=>exact gF (a:=D8 x) ⟨[_],_,rfl,rfl,rfl⟩ ih
theorem M2 (l:List Item):∀t:Nat,t<l.length *2→(l.flatMap D8)[t]? =some ((D8 (l[t / 2]?.getD (0,0)))[t % 2]!):=by
 induction l with
 |nil=>intro t h;simp at h
 |cons x l ih=>
  intro t h;rw [eK]
  match t with
  | 0=>rfl
  | 1=>rfl
  |t+2=>
   rw [eC (by simp [D8])];have e:t+2 - (D8 x).length=t:=by simp [D8]
   rw [e,ih t (by simp at h;omega),show (t+2) / 2=t / 2+1 by omega,List.getElem?_cons_succ,show (t+2) % 2=t % 2 by omega]
theorem Hm (l:List Item):(l.flatMap D8).length=l.length *2:=by
 induction l with
 |nil=>rfl
 |cons x l ih=>rw [eK,dZ,ih,List.length_cons];simp [D8];omega
theorem Iq (l:List Item):flatK D8 2 l.toArray=(l.flatMap D8).toArray:=by
 refine ext_get! (by rw [size_flatK,eL,eL,Hm]) fun t ht=> ?_;rw [size_flatK,eL]at ht;rw [get_flatK _ _ _ _ (by simpa using ht)];have h1:=M2 l t ht;have ht':t< (l.flatMap D8).length:=by rw [Hm];exact ht
 rw [cJ ht']at h1;rw [getElem!_pos _ t (by simpa using ht')];have h2:t / 2<l.length:=by omega
 rw [getElem!_pos _ (t / 2) (by simpa using h2)];rw [cJ h2]at h1;simp only [List.getElem_toArray];exact (Option.some.inj h1).symm
theorem Ir (x y:Item):ltOf cfI x y=Cg x y:=by
 unfold ltOf cfI Cg orI Lib.compareInt;by_cases h1:x.1<y.1
 ·simp [h1]
 ·by_cases h2:y.1<x.1
  ·have:¬x.1=y.1:=by omega
   simp [h1,h2,this]
  ·have h3:x.1=y.1:=by omega
   by_cases h4:x.2<y.2
   ·simp [h3,h4]
   ·by_cases h5:y.2<x.2<;>simp [h3,h4,h5]
theorem K9 (x y:Item):Cg x y=true↔(x.1<y.1∨x.1=y.1∧x.2<y.2):=by unfold Cg;exact decide_eq_true_iff
theorem Gl (x y:Item):Cg x y=false↔¬(x.1<y.1∨x.1=y.1∧x.2<y.2):=by unfold Cg;exact decide_eq_false_iff_not
theorem PO:SWO (ltOf cfI) where
 irrefl x:=by rw [Ir,Gl];omega
 trans x y z h1 h2:=by rw [Ir,K9]at *;omega
 ntrans x y z h1 h2:=by rw [Ir,Gl]at *;omega
theorem PP (x y:Item) (h1:ltOf cfI x y=false) (h2:ltOf cfI y x=false):x=y:=by
 rw [Ir,Gl]at h1 h2;exact Prod.ext (by omega) (by omega)
section
variable {φ:AF}{h:AE}{F:List Chk}
theorem LA {t:Slc}{l r:List Item}(s0:St φ (cR 57 Av t l::F) h) (hd:Fu l=some r):
 CallsH bN 50 [.slice t.1 t.2.1 t.2.2,.func (.func 51) #[] #[]] h (BL fun v h'=>∃ψ:AF,∃y:Unit,∃l1:List Item,Sub φ ψ∧v=((.tuple []):Sh).val y∧l1=r∧St ψ (cR 57 Av t l1::F) h'):=by
 unfold Fu at hd;split at hd
 ·rename_i hb
  cases hd;intro w hw;subst hw;rcases St.rowHoldsF s0 with ⟨hl,hn⟩|⟨b,off,vs,ht,hall,hn,hlt,hfit,hH⟩
  ·subst hl;rw [hn];have hc:=AnyF.slices_SortFunc_none Gf t.1 t.2.2 (.func (.func 51) #[] #[]) w;refine (show Calls bN 50 #[.slice t.1 0 t.2.2,_] w _ from hc).mono ?_;rintro e w' ⟨rfl,rfl⟩;exact ⟨gL _,_,rfl,φ,(),_,bV _,rfl,rfl,by rw [show Ep [] = [] from rfl];exact s0⟩
  ·have hvs:=MH hall;subst hvs;have hHd:HoldsK D8 2 w b off l.toArray:=by unfold HoldsK;rw [Iq];exact hH
   have hc:=AnyQ.slices_SortFunc_total Gf 2 (fun w=>Tryz.isAgg57 w) (fun w=>Tryz.sizeOf57 w) D8 (fun _=>rfl) (fun x v hv=>by simp [D8]at hv;rcases hv with rfl | rfl<;>rfl) cfI PO 51 #[] b off t.2.2 l.toArray w
    (enters_of Tryz.func51 (by kernel_rfl) rfl) (fun m os dk hdk x y=>PA (a:=x) (b:=y) _) hHd hlt (by simpa using hb) PP
   have hn2:t.2.1=l.toArray.size:=by rw [hn];simp
   rw [ht,hn2];refine (show Calls bN 50 #[.slice (some ⟨b,off,none⟩) l.toArray.size t.2.2,_] w _ from hc).mono ?_;rintro e w' ⟨rfl,k,os,rfl⟩;have hsrt:(l.toArray.toList.mergeSort fun x y=> !(ltOf cfI) y x)=Ep l:=by
    rw [MG];congr 1;funext x y;rw [Ir]
   rw [hsrt];have hlen:(Ep l).length=l.length:=(CD _ _).length_eq;have s1:=St.rowSortedF s0 ht ((Ep l).flatMap D8) (MI _) hlen (by rw [Hm,hlen,←Hm];exact hfit) k os;refine ⟨⟨rfl,rfl,rfl,by unfold sortWorldK;rw [size_grow,size_putRowK];exact Nat.le_add_right _ _⟩,_,rfl,φ,(),_,bV _,rfl,rfl,?_⟩;unfold sortWorldK putRowK;rw [Iq];exact s1
 ·cases hd
end
end Go.Proofs.YteoafgapjneblaaGreatDoor
namespace Go.Proofs.YteoafgapjneblaaGreatDoor
open Go Go.Eng
set_option linter.unusedVariables false
set_option maxRecDepth 100000
noncomputable def At (a_0:G5) (kernel_1:List Aj):Option (List Aj):=(EF kernel_1).bind fun t1=>(loop (σ:=(Int×List Aj×List (Int×Bool))) (β:=(List Aj×List (Int×Bool))) (0,t1,([]:List (Int×Bool))) fun z4=>cond (decide (z4.1< (z4.2.1.length:Int))) (((idx z4.2.1 z4.1).bind fun e45=>(BK a_0 (e45.1,e45.2)).bind fun t9=>(cond (decide (t9< 0)) (some true) ((DV (a_0.1,a_0.2.1,a_0.2.2.1,a_0.2.2.2.1,a_0.2.2.2.2.1,a_0.2.2.2.2.2.1) t9).bind fun t18=>cond t18 (some true) ((some (CW t9 z4.2.2)).bind fun t19=>some (Option.getD t19 false)))).bind fun z10=>cond z10 (some (z4.2.1,z4.2.2)) ((Fe (σ:=List Aj) 0 (a_0.2.2.1.length:Int) z4.2.1 fun i_z24 z24=>(idx a_0.2.2.1 i_z24).bind fun e160=>(cond (e160.1==t9) ((Ap z24 (i_z24,0)).bind fun t35=>some (!t35)) (some false)).bind fun z31=>(cond z31 ((app z24 ([(i_z24,0)]:List Aj)).bind fun t40=>some t40) (some z24)).bind fun z36=>some z36).bind fun z23=>some (z23,(F2 t9 true z4.2.2)))).bind fun z5=>some (cY ((bM .i64 (z4.1+1)),z5.1,z5.2))) (some (cQ (z4.2.1,z4.2.2)))).bind fun z3=>(Fu z3.1).bind fun t41=>some t41
theorem FU {φ:AF}{h:AE}{F:List Chk}{a_0:Option Addr}{b:G5}{kernel_1:Slc}{ar:List Aj}(bk:Ro.SliceIs Av φ kernel_1 ar) (s0:St φ (cO 69 (cG CH) a_0 b::F) h) {r:(List Aj)}(hd:At b ar=some r):
 CallsH bN 28 [(.pointer a_0),(sv kernel_1)] h (BL fun v h'=>∃ψ:AF,∃y:Slc,∃au:List Aj,Sub φ ψ∧v=((.one aS):Sh).val y∧au=r∧Ro.SliceIs Av ψ y au∧St ψ (cO 69 (cG CH) a_0 b::F) h'):=by
 refine AV mixed Tryz.func28 ?_;rw [FM];unfold Db;unfold At at hd;obtain ⟨e2,bl,hd⟩:=bS hd;refine AM (Ge bk s0 bl) ?_;rintro _ e3 ⟨ad,t1,bm,bn,rfl,rfl,bo⟩;refine ⟨t1,rfl,?_⟩;refine KF (kyI .i64) eP bo fun r2 e4 bp=> ?_;obtain ⟨bq,br,hd⟩:=bS hd;refine Bc (fun (y:Int×Slc×Unit) w_ g=>∃ψ:AF,∃av:List Aj,∃aw:List (Int×Bool),Sub ad ψ∧(av,aw)=g∧St ψ (cR 57 Av y.2.1 av::cM (kyI .i64) eP r2 aw::cO 69 (cG CH) a_0 b::F) w_) (g:=bq) ?_ ?_
 ·refine Cr br (fun (y:Int×Slc×Unit) w_ g=>∃ψ:AF,∃ax:List Aj,∃ay:List (Int×Bool),Sub ad ψ∧(y.1,ax,ay)=g∧St ψ (cR 57 Av y.2.1 ax::cM (kyI .i64) eP r2 ay::cO 69 (cG CH) a_0 b::F) w_) ((0:Int),t1,()) rfl ⟨ad,bm,([]:List (Int×Bool)),(bV _),rfl,bp.at1.at2.at2.at2⟩ ?_
  ·rintro z4 e5 _ _ ⟨az,u,k,b0,rfl,w⟩ j bs;try dsimp only at j
   have bt:=w.rowLen;refine AG j (by rw [bt] <;>rfl) (fun _ j=> ?_) (fun _ j=> ?_)
   ·obtain ⟨bu,c,j⟩:=bS j;refine Bc (fun (y:Slc×Unit) w_ g=>∃ψ:AF,∃b1:List Aj,∃b2:List (Int×Bool),Sub az ψ∧(b1,b2)=g∧St ψ (cR 57 Av y.1 b1::cM (kyI .i64) eP r2 b2::cO 69 (cG CH) a_0 b::F) w_) (g:=bu) ?_ ?_
    ·obtain ⟨z,bv,c⟩:=bS c;obtain ⟨e6,e7,bw,bx,bz,b3⟩:=(w).get bv;refine AH _ bw (Am bx ?_);obtain ⟨_,_,rfl,rfl,rfl⟩:=bz;refine AN (x:=z.1) (b3 0 _ rfl) rfl<|AN (x:=z.2) (by rw [Ac];exact (b3 1 _ rfl)) rfl ?_;obtain ⟨e8,c2,c⟩:=bS c;refine AM (CK (x_1:=(z.1,z.2,())) w.at2 c2) ?_;rintro _ e9 ⟨b4,t9,b5,rfl,rfl,b6⟩;refine ⟨t9,rfl,?_⟩;obtain ⟨c3,e,c⟩:=bS c;refine Ai (fun (y:Bool×Unit) w_ g=>∃ψ:AF,Sub b4 ψ∧y.1=g∧St ψ (cO 69 (cG CH) a_0 b::cR 57 Av z4.2.1 u::cM (kyI .i64) eP r2 k::F) w_) (g:=c3) ?_ ?_
     ·refine AG e rfl (fun _ e=> ?_) (fun _ e=> ?_)
      ·have c4:=b6.at2;obtain rfl:=iS e;exact AP (true,()) rfl ⟨b4,(bV _),rfl,c4.at2.at2⟩
      obtain ⟨ea,eb,c5,⟨_,_,rfl,⟨a0,rfl,ae⟩,_,_,rfl,⟨a1,rfl,af⟩,_,_,rfl,⟨a2,rfl,ag⟩,_,_,rfl,⟨a3,rfl,ah⟩,_,_,rfl,⟨a4,rfl,ai⟩,_,_,rfl,⟨a5,rfl,aj⟩,_,_,rfl,rfl,rfl⟩,l⟩:=dU b6;subst c5;refine AH _ rfl<|AA (x:=a0) l rfl<|AA (x:=a1) l rfl<|AA (x:=a2) l rfl<|AA (x:=a3) l rfl<|AA (x:=a4) l rfl<|AA (x:=a5) l rfl ?_;obtain ⟨ec,c6,e⟩:=bS e;refine AM (Ik (p_0:=(a0,a1,a2,a3,a4,a5,())) ae af ag ah ai aj l c6) ?_;rintro _ ed ⟨b7,t18,d,rfl,rfl,ak⟩;refine ⟨t18,rfl,?_⟩;refine AG e rfl (fun _ e=> ?_) (fun _ e=> ?_)
      ·have c7:=dH (r:=CH) (x:=(b.1,b.2.1,b.2.2.1,b.2.2.2.1,b.2.2.2.2.1,b.2.2.2.2.2.1,b.2.2.2.2.2.2.1,(b.2.2.2.2.2.2.2))) ak ⟨[_],_,rfl,⟨a0,rfl,(ae.mono d)⟩,⟨[_],_,rfl,⟨a1,rfl,(af.mono d)⟩,⟨[_],_,rfl,⟨a2,rfl,(ag.mono d)⟩,⟨[_],_,rfl,⟨a3,rfl,(ah.mono d)⟩,⟨[_],_,rfl,⟨a4,rfl,(ai.mono d)⟩,⟨[_],_,rfl,⟨a5,rfl,(aj.mono d)⟩,⟨[_],_,rfl,rfl,rfl⟩⟩⟩⟩⟩⟩⟩;obtain rfl:=iS e;exact AP (true,()) rfl ⟨b7,d,rfl,c7.at2.at2.at2⟩
      obtain ⟨ee,c8,e⟩:=bS e;obtain rfl:=iS c8;refine ME (a:=.bool) (kk:=(kyI .i64)) (i:=Tryz.t4) false fL cN (by kernel_rfl) rfl ak.at2 ?_;have c9:=dH (r:=CH) (x:=(b.1,b.2.1,b.2.2.1,b.2.2.2.1,b.2.2.2.2.1,b.2.2.2.2.2.1,b.2.2.2.2.2.2.1,(b.2.2.2.2.2.2.2))) ak ⟨[_],_,rfl,⟨a0,rfl,(ae.mono d)⟩,⟨[_],_,rfl,⟨a1,rfl,(af.mono d)⟩,⟨[_],_,rfl,⟨a2,rfl,(ag.mono d)⟩,⟨[_],_,rfl,⟨a3,rfl,(ah.mono d)⟩,⟨[_],_,rfl,⟨a4,rfl,(ai.mono d)⟩,⟨[_],_,rfl,⟨a5,rfl,(aj.mono d)⟩,⟨[_],_,rfl,rfl,rfl⟩⟩⟩⟩⟩⟩⟩;obtain rfl:=iS e;exact AP (((CW t9 k).getD false),()) rfl ⟨b7,d,rfl,c9.at2.at2.at2⟩
     rintro z10 ef ⟨al,b8,rfl,b9⟩;try dsimp only at c
     refine AG c rfl (fun _ c=> ?_) (fun _ c=> ?_)
     ·have ca:=b9.at1;obtain rfl:=iS c;exact AR (z4.2.1,()) rfl ⟨al,u,k,(b5.trans b8),rfl,ca.at1.at2.at2⟩
     refine KG (kk:=(kyI .i64)) (y:=true) fL cN b9.at2 rfl fun eg cb=> ?_;obtain ⟨am,eh,cc,⟨_,_,rfl,⟨a6,rfl,cd⟩,_,_,rfl,⟨a7,rfl,ce⟩,_,_,rfl,⟨q,rfl,an⟩,_,_,rfl,⟨a8,rfl,cf⟩,_,_,rfl,⟨a9,rfl,cg⟩,_,_,rfl,⟨aa,rfl,ch⟩,_,_,rfl,rfl,rfl⟩,ba⟩:=dU cb.at1;subst cc;have bb:=an.length;refine AH _ rfl<|AA (x:=q) ba rfl ?_;obtain ⟨ei,ci,c⟩:=bS c;refine Ca ci (fun cj (y:Int×Slc×Unit) w_ g=>∃ψ:AF,∃bc:List Aj,Sub al ψ∧y.1=cj∧bc=g∧St ψ (cR 57 Av y.2.1 bc::cW 69 am [sv a6,sv a7,sv q,sv a8,sv a9,sv aa,sv b.2.2.2.2.2.2.1,.int .i64 (b.2.2.2.2.2.2.2)]::cM (kyI .i64) eP r2 (F2 t9 true k)::F) w_) ((0:Int),z4.2.1,()) rfl ⟨al,u,(bV _),rfl,rfl,ba.at2.at2.at2.at2⟩ ?_ ?_ ?_
     ·rintro _ z24 ej _ _ ⟨bd,be,bf,rfl,rfl,ab⟩ f ck bg bh;try dsimp only at f ck bg bh
      refine BF (dT bb bg) ?_;obtain ⟨m,cl,f⟩:=bS f;obtain ⟨ek,el,cm,cn,co,ao⟩:=(an.mono bf).get cl;refine AH _ cm (Am cn ?_);obtain ⟨_,_,rfl,rfl,⟨_,_,rfl,⟨ap,rfl,em⟩,rfl⟩⟩:=co;refine AN (x:=m.1) (AD ab.sub (ao 0 _ rfl)) rfl<|AN (x:=ap) (by rw [Ac];exact (AD ab.sub (ao 1 _ rfl))) rfl<|AN (x:=m.2.2) (by rw [Ac];exact (AD ab.sub (ao 2 _ rfl))) rfl<|AZ (vs:=[.int .i64 (0:Int),.slice none 0 0,.int .i64 (0:Int)]) ab fun r29 en ct=>AI ct rfl rfl fun eo cu=>AI cu rfl rfl fun ep cv=>AI cv rfl rfl fun er cw=>AZ (vs:=[.int .i64 (0:Int),.int .i64 (0:Int)]) cw fun r30 es cx=>AI cx rfl rfl fun eu cy=>AI cy rfl rfl fun ev s=> ?_;obtain ⟨cz,n,f⟩:=bS f;refine Ai (fun (y:Bool×Unit) w_ g=>∃ψ:AF,Sub bd ψ∧y.1=g∧St ψ (cW 57 r30 [.int .i64 z24.1,.int .i64 (0:Int)]::cW 105 r29 [.int .i64 m.1,sv ap,.int .i64 m.2.2]::cR 57 Av z24.2.1 be::cW 69 am [sv a6,sv a7,sv q,sv a8,sv a9,sv aa,sv b.2.2.2.2.2.2.1,.int .i64 (b.2.2.2.2.2.2.2)]::cM (kyI .i64) eP r2 (F2 t9 true k)::F) w_) (g:=cz) ?_ ?_
      ·refine AA (x:=m.1) s.at1 rfl<|AG n rfl (fun _ n=> ?_) (fun _ n=> ?_)
       ·refine AA (x:=z24.1) s rfl<|AA (x:=(0:Int)) s rfl ?_;obtain ⟨ew,d0,n⟩:=bS n;refine AM (CO (v_1:=(z24.1,(0:Int),())) s.at2 d0) ?_;rintro _ ex ⟨d1,t35,d2,rfl,rfl,d3⟩;refine ⟨t35,rfl,?_⟩;obtain rfl:=iS n;exact AP ((!t35),()) rfl ⟨d1,d2,rfl,d3.at4.at4.at2.at4.at4⟩
       obtain rfl:=iS n;exact AP (false,()) rfl ⟨bd,(bV _),rfl,s.at4.at4.at4.at4.at4⟩
      rintro z31 ey ⟨aq,d4,rfl,ac⟩;try dsimp only at f
      obtain ⟨d5,o,f⟩:=bS f;refine Ai (fun (y:Slc×Unit) w_ g=>∃ψ:AF,∃bi:List Aj,Sub aq ψ∧bi=g∧St ψ (cR 57 Av y.1 bi::cW 57 r30 [.int .i64 z24.1,.int .i64 (0:Int)]::cW 105 r29 [.int .i64 m.1,sv ap,.int .i64 m.2.2]::cW 69 am [sv a6,sv a7,sv q,sv a8,sv a9,sv aa,sv b.2.2.2.2.2.2.1,.int .i64 (b.2.2.2.2.2.2.2)]::cM (kyI .i64) eP r2 (F2 t9 true k)::F) w_) (g:=d5) ?_ ?_
      ·refine AG o rfl (fun _ o=> ?_) (fun _ o=> ?_)
       ·refine AA (x:=z24.1) ac rfl<|AA (x:=(0:Int)) ac rfl<|AZ (vs:=[.int .i64 z24.1,.int .i64 (0:Int)]) ac fun r39 ez bj=> ?_;obtain ⟨d6,d7,o⟩:=bS o;refine Aa (r:=Av) (ms:=([(z24.1,(0:Int))]:List Aj)) Bp bj.tail.at2 rfl (fA bj) (.cons (a:=[_,_]) ⟨[_],_,rfl,rfl,rfl⟩ .nil) rfl d7 ?_;intro t40 f0 d8;obtain rfl:=iS o;exact AP (t40,()) rfl ⟨aq,d6,(bV _),rfl,d8.at4.at4.at4.at4.at4⟩
       obtain rfl:=iS o;exact AP (z24.2.1,()) rfl ⟨aq,be,(bV _),rfl,ac.at2.at4.at4.at4.at4.at4⟩
      rintro z36 f1 ⟨d9,da,db,rfl,dc⟩;try dsimp only at f
      obtain rfl:=iS f;exact Al ((wN z24.1),z36.1,()) _ rfl rfl ⟨d9,da,((bf.trans d4).trans db),bh,rfl,dc.at1.tail.at1.tail.at2.at2.at2⟩
     ·rintro _ z24 f2 ⟨dd,de,df,rfl,rfl,dg⟩ dh;refine As (dF bb dh)<|AO (AR (z24.1,z24.2.1,()) rfl ⟨_,dd,de,df,rfl,rfl,dg.at2.at2.at2⟩)
     rintro z23 f3 ⟨_,di,dj,p,_,rfl,dk⟩;try dsimp only at c
     have dl:=dH (r:=CH) (x:=(b.1,b.2.1,b.2.2.1,b.2.2.2.1,b.2.2.2.2.1,b.2.2.2.2.2.1,b.2.2.2.2.2.2.1,(b.2.2.2.2.2.2.2))) dk.at1 ⟨[_],_,rfl,⟨a6,rfl,(cd.mono p)⟩,⟨[_],_,rfl,⟨a7,rfl,(ce.mono p)⟩,⟨[_],_,rfl,⟨q,rfl,(an.mono p)⟩,⟨[_],_,rfl,⟨a8,rfl,(cf.mono p)⟩,⟨[_],_,rfl,⟨a9,rfl,(cg.mono p)⟩,⟨[_],_,rfl,⟨aa,rfl,(ch.mono p)⟩,⟨[_],_,rfl,rfl,rfl⟩⟩⟩⟩⟩⟩⟩;obtain rfl:=iS c;exact Oc (z23.2.1,()) rfl ⟨di,dj,(F2 t9 true k),((b5.trans b8).trans p),rfl,dl.at2.at2⟩
    rintro z5 f4 ⟨dm,dn,dp,dq,rfl,dr⟩;try dsimp only at j
    obtain rfl:=iS j;exact Al ((wN z4.1),z5.1,()) _ rfl rfl ⟨dm,dn,dp,(b0.trans dq),rfl,dr.at2.at2.at2⟩
   obtain rfl:=iS j;obtain rfl:=bs _ rfl;exact AO (AR (z4.1,z4.2.1,()) rfl ⟨az,u,k,b0,rfl,w.at2.at2.at2⟩)
 rintro z3 f5 ⟨f6,f7,f8,ds,rfl,dt⟩;try dsimp only at hd
 obtain ⟨f9,du,hd⟩:=bS hd;refine AM (LA dt du) ?_;rintro _ fa ⟨fb,t41,dv,dw,rfl,rfl,dx⟩;refine ⟨t41,rfl,?_⟩;obtain ⟨dy,dz,e0,e1⟩:=dK (t:=z3.2.1) dx;obtain rfl:=iS hd;exact AB ⟨dy,z3.2.1,dv,(((bn.trans ds).trans dw).trans dz),rfl,rfl,e0,e1.tail⟩
abbrev dtB:Type:=(List Item×List Item×Slc×Int×Int)
abbrev roB:Ro dtB:=gH (gK Av) (gH (gK Av) (gH Ro.slc (gH (cF .i64) (cF .i64))))
abbrev dtK:Type:=(List Item×List Item×Int×Int)
abbrev G8 {ε:Type}(b:dtK) (s:ε):List Item×List Item×ε×Int×Int:=(b.1,b.2.1,s,b.2.2.1,b.2.2.2)
abbrev C4 {ε:Type}(B:List dtK) (S:List ε):List (List Item×List Item×ε×Int×Int):=List.zipWith G8 B S
theorem CP {ε:Type}{B:List dtK}{S:List ε}(h:S.length=B.length):(C4 B S).length=B.length:=by
 unfold C4;rw [List.length_zipWith];omega
theorem MJ {ε:Type}{B:List dtK}{S:List ε}(h:S.length=B.length) (b:dtK) (s:ε):C4 (B++ [b]) (S++ [s])=C4 B S++ [G8 b s]:=by
 unfold C4;rw [List.zipWith_append h.symm];rfl
abbrev Fd:Type:=List (ByteArray×Int)
abbrev qA (p:Aw) (s:Slc) (t:Int):G5:=(p.1,p.2.1,p.2.2.1,p.2.2.2.1,p.2.2.2.2.1,p.2.2.2.2.2,s,t)
abbrev B1:Slc:=(none,0,0)
theorem KN (p:Aw) (s:Slc) (t:Int) (k:List Item):At (qA p s t) k=At (qA p B1 0) k:=rfl
abbrev bC (c3 c4 c5 c6 m a r1 r2:Nat) (fd:Fd) (p:Aw) (ls:Slc) (tot:Int) (L:List dtB) (rm cl:Bv) (F:List Chk):List Chk:=
 cW 72 c3 [.map (some m)]::cM kyS (cF .i64) m fd::cW 34 c4 [pv a]::cO 69 (cG CH) (some ⟨a,0,none⟩) (qA p ls tot)::cR 77 roB ls L::
 cW 70 c5 [pv r1]::cO 107 (cG Dx) (some ⟨r1,0,none⟩) rm::cW 70 c6 [pv r2]::cO 107 (cG Dx) (some ⟨r2,0,none⟩) cl::F
noncomputable def MK (p:Aw) (fd:Fd) (B:List dtK) (rm cl:Bv) (k:List Item) (fr wi:Int):Option (Int×Int×Fd×List dtK×Bv×Bv):=(Cm k).bind fun s=>cond (CW s fd).isSome (some ((CW s fd).getD 0,0,fd,B,rm,cl)) ((At (qA p B1 0) k).bind fun its=>(Bj rm 1).bind fun t=>(cond (t.1==0) ((Bj cl (its.length:Int)).bind fun u=>some (u.1,u.2)) (some (t.1,cl))).bind fun z=>(app B [(k,its,fr,wi)]).bind fun B'=>some (bM .i64 ((B'.length:Int) - 1),z.1,F2 s (B.length:Int) fd,B',t.2,z.2))
theorem PQ:G0 bN 67 67 77 5:=⟨fX,.inl fX,⟨Tryz.t77,by kernel_rfl,rfl,⟨_,rfl,rfl⟩,by decide,by decide⟩,by decide⟩
theorem St.bC_of {φ:AF}{h:AE}{a0 a1 a2 a3 a4 a5 a6 a7 a8:Chk}{F:List Chk}(H:St φ (a3::a4::a1::a8::a6::a0::a2::a5::a7::F) h):St φ (a0::a1::a2::a3::a4::a5::a6::a7::a8::F) h:=
 H.at3.at8.at5.at8.at5.at5.at8.at7.at8
set_option maxHeartbeats 2000000 in
theorem Lf {φ:AF}{h:AE}{F:List Chk}{t:Slc}{k:List Item}{fr wi:Int}{c3 c4 c5 c6 m a r1 r2:Nat}{fd:Fd}{p:Aw}{ls:Slc}{tot:Int}{B:List dtK}{S:List Slc}{rm cl:Bv}
 (gk:IM φ) (k1:Ro.SliceIs Av φ t k) (hS:S.length=B.length) (s0:St φ (bC c3 c4 c5 c6 m a r1 r2 fd p ls tot (C4 B S) rm cl F) h) {r:Int×Int×Fd×List dtK×Bv×Bv} (hd:MK p fd B rm cl k fr wi=some r):
 CallsH bN 26 [.slice t.1 t.2.1 t.2.2,.int .i64 fr,.int .i64 wi,pv c3,pv c4,pv c5,pv c6] h (BL fun v h'=>∃(ψ:AF) (y:Int×Int×Unit) (ls':Slc) (S':List Slc),Sub φ ψ∧v=((.tuple [.atom (.int .i64),.atom (.int .i64)]):Sh).val y∧y.1=r.1∧y.2.1=r.2.1∧
  ((r.2.2.2.1=B∧S'=S)∨ ∃x,r.2.2.2.1=B++ [x] ∧S'=S++ [B1])∧St ψ (bC c3 c4 c5 c6 m a r1 r2 r.2.2.1 p ls' tot (C4 r.2.2.2.1 S') r.2.2.2.2.1 r.2.2.2.2.2 F) h'):=by
 refine AV mixed Tryz.func26 ?_;rw [HM];unfold FO;unfold MK at hd;obtain ⟨s,hs,hd⟩:=bS hd;refine AA (x:=some m) s0 rfl<|AM (Gk gk k1 s0 hs) ?_;rintro _ h1 ⟨ψ1,s,le1,rfl,rfl,s1⟩;refine ⟨s,rfl,?_⟩;refine AS (eM s1 rfl)<|MD (a:=.int .i64) (kk:=kyS) (i:=Tryz.t3) 0 fY cU (by kernel_rfl) rfl s1.at1 fun y hy=> ?_;subst hy;refine AG hd rfl (fun _ hd=> ?_) (fun _ hd=> ?_)
 ·obtain rfl:=iS hd;exact AB ⟨ψ1,((CW s fd).getD 0,0,()),ls,S,le1,rfl,rfl,rfl,.inl ⟨rfl,rfl⟩,s1⟩
 obtain ⟨its,hc,hd⟩:=bS hd;obtain ⟨tk,ht,hd⟩:=bS hd;obtain ⟨z,hz,hd⟩:=bS hd;obtain ⟨B',hB,hd⟩:=bS hd;obtain rfl:=iS hd;refine AA (x:=some ⟨a,0,none⟩) s1.at2 rfl<|AM (FU (k1.mono le1) s1.at3 (by rw [KN];exact hc)) ?_;rintro _ h2 ⟨ψ2,y2,l2,le2,rfl,rfl,k2,s2⟩;refine ⟨y2,rfl,?_⟩;have n2:=k2.length;have le12:=le1.trans le2;refine AZ (vs:=[.slice none 0 0,.slice none 0 0,.slice none 0 0,.int .i64 (0:Int),.int .i64 (0:Int)]) s2 fun r6 h3 s3=>AI s3 rfl rfl fun h4 s4=>AI s4 rfl rfl fun h5 s5=>AI s5 rfl rfl fun h6 s6=>AI s6 rfl rfl fun h7 s7=>AI s7 rfl rfl fun h8 s8=> ?_;have s8':St ψ2 (cW 77 r6 [sv t,sv y2,.slice none 0 0,.int .i64 fr,.int .i64 wi]::cO 69 (cG CH) (some ⟨a,0,none⟩) (qA p ls tot)::cW 72 c3 [.map (some m)]::cM kyS (cF .i64) m fd::cW 34 c4 [pv a]::cR 77 roB ls (C4 B S)::
  cW 70 c5 [pv r1]::cO 107 (cG Dx) (some ⟨r1,0,none⟩) rm::cW 70 c6 [pv r2]::cO 107 (cG Dx) (some ⟨r2,0,none⟩) cl::F) h8:=s8
 refine AA (x:=some ⟨r1,0,none⟩) s8'.at6 rfl<|AM (D7 s8'.at7 ht) ?_;rintro _ h9 ⟨ψ3,y3,rm',le3,rfl,rfl,s9⟩;refine ⟨y3,rfl,?_⟩;dsimp only at hz;refine Ai (fun (y:Int×Unit) w (g:Int×Bv)=>∃(ψ:AF) (cl':Bv),Sub ψ3 ψ∧(y.1,cl')=g∧St ψ (cO 107 (cG Dx) (some ⟨r2,0,none⟩) cl'::cO 107 (cG Dx) (some ⟨r1,0,none⟩) rm'::cW 77 r6 [sv t,sv y2,.slice none 0 0,.int .i64 fr,.int .i64 wi]::
  cO 69 (cG CH) (some ⟨a,0,none⟩) (qA p ls tot)::cW 72 c3 [.map (some m)]::cM kyS (cF .i64) m fd::cW 34 c4 [pv a]::cR 77 roB ls (C4 B S)::cW 70 c5 [pv r1]::cW 70 c6 [pv r2]::F) w) (g:=z) ?_ ?_
 ·refine AG hz rfl (fun _ hz=> ?_) (fun _ hz=> ?_)
  ·obtain ⟨u,hu,hz⟩:=bS hz;obtain rfl:=iS hz;refine AA (x:=some ⟨r2,0,none⟩) s9.at8 rfl<|AA (x:=y2) s9.at1 rfl ?_;rw [←n2]at hu;refine AM (D7 s9.at9 hu) ?_;rintro _ h10 ⟨ψ4,y4,cl',le4,rfl,rfl,s10⟩;refine ⟨y4,rfl,?_⟩;exact AP (y4,()) rfl ⟨ψ4,cl',le4,rfl,s10⟩
  ·obtain rfl:=iS hz;exact AP (y3,()) rfl ⟨ψ3,cl,bV _,rfl,s9.at9⟩
 rintro z9 h11 ⟨ψ5,cl',le5,rfl,s11⟩;refine AA (x:=some m) s11.at4 rfl<|AA (x:=some ⟨a,0,none⟩) s11.at6 rfl<|AH _ rfl ?_;have s12':=s11.at3;obtain ⟨b,vs,e,⟨_,_,rfl,⟨u1,rfl,kk1⟩,_,_,rfl,⟨u2,rfl,kk2⟩,_,_,rfl,⟨u3,rfl,kk3⟩,_,_,rfl,⟨u4,rfl,kk4⟩,_,_,rfl,⟨u5,rfl,kk5⟩,_,_,rfl,⟨u6,rfl,kk6⟩,_,_,rfl,rfl,rfl⟩,s12⟩:=dU s12';obtain rfl:a=b:=by simpa using e
 refine AA (x:=ls) s12 rfl ?_;have le25:=(le2.trans le3).trans le5;have le15:=le1.trans le25;refine AM (Gk (gk.mono le15) (k1.mono le15) s12 hs) ?_;rintro _ h13 ⟨ψ6,q6,le6,rfl,rfl,s13⟩;refine ⟨q6,rfl,?_⟩;refine AS (eM (b:=a) (j:=6) s13 rfl)<|AS (eM s13.at6 rfl)<|AS (eM s13.at4 rfl) ?_;have nL:=St.rowLen s13.at7;rw [CP hS]at nL;refine KG (kk:=kyS) (y:=(ls.2.1:Int)) fY cU s13.at5 rfl fun h14 s14=>AA (x:=some ⟨a,0,none⟩) s14.at6 rfl<|AA (x:=some ⟨a,0,none⟩) s14.at6 rfl<|AH _ rfl<|AA (x:=ls) s14.at1 rfl<|AA (x:=t) s14.at4 rfl<|AA (x:=y2) s14.at4 rfl<|AA (x:=B1) s14.at4 rfl<|AA (x:=fr) s14.at4 rfl<|AA (x:=wi) s14.at4 rfl<|AZ (vs:=[sv t,sv y2,.slice none 0 0,.int .i64 fr,.int .i64 wi]) s14 fun r28 h15 s15=>AS (eM (b:=a) (j:=6) s15.at2 rfl)<|AS (eM s15.at7 rfl)<|AS (eM s15.at7 rfl) ?_;have cw:=fA s15;have le26:=le25.trans le6;have le16:=le1.trans le26;obtain ⟨hapl,rfl⟩:=GP hB;have hap:app (C4 B S) [G8 (k,l2,fr,wi) B1] =some (C4 (B++ [(k,l2,fr,wi)]) (S++ [B1])):=by
  unfold app;rw [CP hS,MJ hS,if_pos (by simpa using hapl)]
 refine Aa (r:=roB) (ms:=[G8 (k,l2,fr,wi) B1]) PQ (s15.tail.at7) rfl cw (.cons (a:=[_,_,_,_,_]) ⟨[_],_,rfl,⟨t,rfl,k1.mono le16⟩,[_],_,rfl,⟨y2,rfl,k2.mono (((le3.trans le5)).trans le6)⟩,[_],_,rfl,rfl,[_],_,rfl,rfl,rfl⟩ .nil) rfl hap fun ls' h16 s16=> ?_;have nL':=St.rowLen s16;rw [CP (by simp [hS])]at nL';refine AS (eM s16.at7 rfl)<|AH _ rfl<|AI s16.at2 rfl rfl fun h17 s17=>AA (x:=some ⟨a,0,none⟩) s17.at7 rfl<|AH _ rfl<|AA (x:=ls') s17 rfl ?_;have s18:=dH (r:=CH) (x:=qA p ls' tot) s17 ⟨[_],_,rfl,⟨u1,rfl,kk1.mono le6⟩,[_],_,rfl,⟨u2,rfl,kk2.mono le6⟩,[_],_,rfl,⟨u3,rfl,kk3.mono le6⟩,[_],_,rfl,⟨u4,rfl,kk4.mono le6⟩,[_],_,rfl,⟨u5,rfl,kk5.mono le6⟩,[_],_,rfl,⟨u6,rfl,kk6.mono le6⟩,[_],_,rfl,rfl,rfl⟩;refine AB ⟨ψ6,(bM .i64 ((ls'.2.1:Int) - 1),z9.1,()),ls',S++ [B1],le16,rfl,by rw [nL'],rfl,.inr ⟨_,rfl,rfl⟩,?_⟩;rw [nL]at s18;exact St.bC_of s18.at5.tail
abbrev Edge:Type:=Int×Int
abbrev BSt:Type:=Fd×List dtK×List (List Edge)×Bv×Bv
def CQ (E:List (List Edge)) (n n':Nat):List (List Edge):=if n'=n then E else E++ [[]]
noncomputable def Lg (p:Aw) (b:dtK) (i sym:Int) (y:BSt):Option (AT BSt Int):=(BU (qA p B1 0) b.2.1 sym).bind fun k=>(MK p y.1 y.2.1 y.2.2.2.1 y.2.2.2.2 k i sym).bind fun r=>cond (r.2.1 !=0) (some (cQ r.2.1)) ((idx (CQ y.2.2.1 y.2.1.length r.2.2.2.1.length) i).bind fun el=>(app el [(sym,r.1)]).bind fun el'=>(GO (CQ y.2.2.1 y.2.1.length r.2.2.2.1.length) i el').bind fun E'=>some (cY (r.2.2.1,r.2.2.2.1,E',r.2.2.2.2.1,r.2.2.2.2.2)))
noncomputable def Jq (p:Aw) (b:dtK) (i:Int) (y:BSt):Option (AT BSt Int):=(BG (qA p B1 0) b.2.1).bind fun syms=>CV 0 (syms.length:Int) y fun j y=>(idx syms j).bind fun sym=>Lg p b i sym y
noncomputable def IS (p:Aw) (y:BSt):Option (AT BSt Int):=
 loop (σ:=Int×BSt) (0,y) fun z=>
  cond (decide (z.1< (z.2.2.1.length:Int)))
   ((idx z.2.2.1 z.1).bind fun b=>(Jq p b z.1 z.2).bind fun e=>match e with
    |.next y=>some (cY (bM .i64 (z.1+1),y))
    |.done q=>some (cQ (cQ q)))
   (some (cQ (cY z.2)))
noncomputable def HN (p:Aw) (st it:Int):Option (Option ET×Int):=
 (DF st).bind fun rm=>
 (DF it).bind fun cl=>
 (MK p [] [] rm cl [(0,0)] (-1) (-1)).bind fun r=>
 cond (r.2.1 !=0) (some (none,r.2.1))
 ((IS p (r.2.2.1,r.2.2.2.1,CQ [] 0 r.2.2.2.1.length,r.2.2.2.2.1,r.2.2.2.2.2)).bind fun e=>match e with
  |.next y=>(CJ y.2.2.2.2).bind fun tot=>some (some (p.1,p.2.1,p.2.2.1,p.2.2.2.1,p.2.2.2.2.1,p.2.2.2.2.2,C4 y.2.1 y.2.2.1,tot),0)
  |.done q=>some (none,q))
theorem M3 (p:Aw) (s:Slc) (t:Int) (l:List Item) (x:Int):BU (qA p s t) l x=BU (qA p B1 0) l x:=rfl
theorem KO (p:Aw) (s:Slc) (t:Int) (l:List Item):BG (qA p s t) l=BG (qA p B1 0) l:=rfl
theorem Is {ε:Type}{B:List dtK}{S:List ε}{i:Int}{b:dtK}{s:ε}(hb:idx B i=some b) (hs:S[i.toNat]? =some s):idx (C4 B S) i=some (G8 b s):=by
 obtain ⟨h0,_,h2⟩:=Ea hb;unfold idx;rw [if_pos h0];unfold C4;rw [List.getElem?_zipWith,h2,hs]
theorem M4 {ε:Type}:∀ {B:List dtK}{S:List ε}{n:Nat}{b:dtK}(s:ε),B[n]? =some b→(C4 B S).set n (G8 b s)=C4 B (S.set n s):=by
 intro B
 induction B with
 |nil=>intro S n b s h;simp at h
 |cons x B ih=>
  intro S n b s h;cases S with
  |nil=>rfl
  |cons u S=>
   cases n with
   |zero=>
    simp only [List.getElem?_cons_zero,Option.some.injEq]at h;subst h;rfl
   |succ n=>exact congrArg _ (ih s (by simpa using h))
def By (φ:AF) (S:List Slc) (E:List (List Edge)) (c:Nat):Prop:= ∀(j:Nat) s e,j≠c→S[j]? =some s→E[j]? =some e→Ro.SliceIs ES φ s e
def D9 (S:List Slc) (E:List (List Edge)) (i:Nat):Prop:= ∀j:Nat,i≤j→(∀s,S[j]? =some s→s=B1)∧ ∀e,E[j]? =some e→e= []
theorem By.mono {φ ψ:AF}{S:List Slc}{E:List (List Edge)}{c:Nat}(H:By φ S E c) (hs:Sub φ ψ):By ψ S E c:=fun j s e hj h1 h2=>(H j s e hj h1 h2).mono hs
theorem DW {α:Type}{l:List α}{x y:α}{j:Nat}(h:(l++ [x])[j]? =some y):l[j]? =some y∨j=l.length∧y=x:=by
 rcases eO j l.length with g | g
 ·rw [List.getElem?_append_left g]at h;exact .inl h
 ·rw [eC g]at h
  right
  have:j - l.length=0:=by
   rcases Nat.eq_zero_or_pos (j - l.length) with q | q
   ·exact q
   ·rw [cP (by simp;omega)]at h;cases h
  rw [this]at h;simp at h;exact ⟨by omega,h.symm⟩
theorem By.snoc {φ:AF}{S:List Slc}{E:List (List Edge)}{c:Nat}(H:By φ S E c) (hl:S.length=E.length):By φ (S++ [B1]) (E++ [[]]) c:=by
 intro j s e hj h1 h2;rcases DW h1 with h1 | ⟨h1,rfl⟩
 ·rcases DW h2 with h2 | ⟨h2,rfl⟩
  ·exact H j s e hj h1 h2
  ·rw [cP (by omega)]at h1;cases h1
 ·rcases DW h2 with h2 | ⟨h2,rfl⟩
  ·rw [cP (by omega)]at h2;cases h2
  ·exact eB _ _
theorem D9.snoc {S:List Slc}{E:List (List Edge)}{i:Nat}(H:D9 S E i):D9 (S++ [B1]) (E++ [[]]) i:=by
 intro j hj;refine ⟨fun s h=> ?_,fun e h=> ?_⟩
 ·rcases DW h with h | ⟨_,h⟩
  ·exact (H j hj).1 s h
  ·exact h
 ·rcases DW h with h | ⟨_,h⟩
  ·exact (H j hj).2 e h
  ·exact h
theorem N0 {φ:AF}:∀ {B:List dtK}{S:List Slc}{E:List (List Edge)}{vs:List Value},S.length=B.length→E.length=B.length→(∀(j:Nat) s e,S[j]? =some s→E[j]? =some e→Ro.SliceIs ES φ s e)→roB.All φ vs (C4 B S)→Od.All φ vs (C4 B E):=by
 intro B
 induction B with
 |nil=>intro S E vs h1 h2 h3 H;cases H;exact .nil
 |cons b B ih=>
  intro S E vs h1 h2 h3 H;cases S with
  |nil=>cases h1
  |cons s S=>
   cases E with
   |nil=>cases h2
   |cons e E=>
    cases H with
    | @cons a v _ _ hx hr=>
     obtain ⟨_,_,rfl,⟨t0,rfl,q0⟩,_,_,rfl,⟨t1,rfl,q1⟩,_,_,rfl,rfl,_,_,rfl,rfl,rfl⟩:=hx;exact gF (a:=[_,_,_,_,_]) ⟨[_],_,rfl,⟨t0,rfl,q0⟩,[_],_,rfl,⟨t1,rfl,q1⟩,[_],_,rfl,⟨s,rfl,h3 0 s e rfl rfl⟩,[_],_,rfl,rfl,rfl⟩ (ih (by simpa using h1) (by simpa using h2) (fun j s' e' g1 g2=>h3 (j+1) s' e' (by simpa using g1) (by simpa using g2)) hr)
theorem ML {φ:AF}{t:Slc}{B:List dtK}{S:List Slc}{E:List (List Edge)}(h1:S.length=B.length) (h2:E.length=B.length) (h3:∀(j:Nat) s e,S[j]? =some s→E[j]? =some e→Ro.SliceIs ES φ s e) (H:Ro.SliceIs roB φ t (C4 B S)):Ro.SliceIs Od φ t (C4 B E):=by
 obtain ⟨g1,g2,g3,g4,vs,g5,g6⟩:=H;have hl:(C4 B E).length=(C4 B S).length:=by rw [CP h1,CP h2]
 exact ⟨hl.trans g1,g2,g3,fun hp=>cX (by rw [hl,g4 hp];rfl),vs,N0 h1 h2 h3 g5,g6⟩
section
variable {φ:AF}{h:AE}{F:List Chk}
theorem LB {c3 c4 c5 c6 m a r1 r2:Nat}{fd:Fd}{p:Aw}{ls:Slc}{tot:Int}{L:List dtB}{rm cl:Bv}(H:St φ (bC c3 c4 c5 c6 m a r1 r2 fd p ls tot L rm cl F) h):B4 h ⟨a,6,none⟩=some (.slice ls.1 ls.2.1 ls.2.2):=by
 obtain ⟨b,vs,e,⟨_,_,rfl,⟨u1,rfl,kk1⟩,_,_,rfl,⟨u2,rfl,kk2⟩,_,_,rfl,⟨u3,rfl,kk3⟩,_,_,rfl,⟨u4,rfl,kk4⟩,_,_,rfl,⟨u5,rfl,kk5⟩,_,_,rfl,⟨u6,rfl,kk6⟩,_,_,rfl,rfl,rfl⟩,s⟩:=dU H.at3;obtain rfl:a=b:=by simpa using e
 exact eM s rfl
theorem St.back3 {a0 a1 a2 a3:Chk}(H:St φ (a3::a0::a1::a2::F) h):St φ (a0::a1::a2::a3::F) h:=H.at3.at3.at3
theorem St.to9 {e a0 a1 a2 a3 a4 a5 a6 a7 a8:Chk}(H:St φ (e::a0::a1::a2::a3::a4::a5::a6::a7::a8::F) h):St φ (a0::a1::a2::a3::a4::a5::a6::a7::a8::e::F) h:=
 H.at9.at9.at9.at9.at9.at9.at9.at9.at9
theorem St.tail9 {a0 a1 a2 a3 a4 a5 a6 a7 a8:Chk}(H:St φ (a0::a1::a2::a3::a4::a5::a6::a7::a8::F) h):St φ F h:=H.tail.tail.tail.tail.tail.tail.tail.tail.tail
end
end Go.Proofs.YteoafgapjneblaaGreatDoor
