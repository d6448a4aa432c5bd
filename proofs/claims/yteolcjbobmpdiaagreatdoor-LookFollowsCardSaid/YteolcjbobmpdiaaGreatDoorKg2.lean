/-
  DenS, DenD, Den, Base, Sim0, Sim1, Sim2, EngP, EngO, G1, G2, Lays, put together.
  Conditions: none; each part tells its own.
-/
import Derived.Test.YteolcjbobmpdiaaGreatDoorKg1
import Derived.Test.YteolcjbobmpdiaaGreatDoorProg
import Derived.KernelRfl
import Derived.Shelf.Sort.Plain
import Derived.Shelf.SlSortCmp.NoneTotal
import Derived.Shelf.Slices.CompactI
import Derived.Shelf.Small.Wraps
open Go.IntKind renaming wrap → bR,bits → cS
open Int renaming tmod → bT,toNat → bU,tdiv → dN,emod_lt_of_pos → dO,emod_nonneg → dU,toNat_natCast → eA,le_refl → fY,fdiv → gC
open ByteArray renaming extract → bV,toList → bX,size → bY
open Go.Proofs.Tryz renaming prog → bW,underlying30 → dP,underlying3 → dR,underlying4 → dS,zeroValue3 → dV,zeroValue4 → dW,underlying0 → eD,sizeOf3 → eG,sizeOf4 → eH,zeroValue0 → eI,isAgg3 → eM,isAgg4 → eN,underlying102 → eQ,underlying104 → eR,underlying105 → eS,underlying244 → eT,underlying263 → eU,underlying237 → eV,underlying186 → eW,underlying256 → eX,underlying257 → eY,underlying275 → eZ,underlying279 → fA,underlying287 → fB,underlying288 → fC,underlying28 → fE,underlying29 → fF,sizeOf0 → fH,zeroValue244 → fI,zeroValue263 → fJ,zeroValue237 → fK,zeroValue186 → fL,zeroValue256 → fM,zeroValue257 → fN,zeroValue275 → fO,zeroValue279 → fP,zeroValue287 → fQ,zeroValue288 → fR,underlying5 → fV,underlying9 → fW,zeroValue30 → fX,isAgg0 → fZ
open Go.Eng.Sub renaming refl → bZ,trans → dJ
open Go.Eng.Ro renaming str → cA,int → cH,list → gG
open Go.Builtin renaming append_ → cC
open Nat renaming beq → cD
open Go.Eng.T renaming out → cE,call → cG,ret → cI,block → cL,loop → cP,join → cQ,brk → cU,load → cY,sem → dD,still → dG,store → dK
open Go.Eng.Ro.SliceIs renaming nil → cF
open List renaming getElem?_eq_getElem → cJ,length → cK,getElem_mem → cZ,length_append → dM,getElem?_append_right → dY,getElem?_append_left → dZ,getElem?_of_mem → eK,mem_append_left → eL,append_assoc → fG,perm_middle → fT,length_cons → fU
open Go.Eng.St renaming freezeRow → cN,cell → cT,unpair → dE,cells → dI,unro → dL,lit → eF,shutR → eJ,shut → eO,openR → gE
open UInt8 renaming toNat → cV,ofNat → eB
open Go.Eng.Ab renaming done → dB,next → dC
open BitVec renaming ofInt → dH,toNat → dX
open Go.Eng.Rep renaming ro → dQ,prod → fD
open Option renaming isNone → eC,map → eP,bind_some → fS
open Go.Instr renaming mapUpdate → gA,makeSlice → gB
open Go.Addr renaming add → gD
open Go.Eng.BT renaming val → gF
namespace Go.Proofs.YteolcjbobmpdiaaGreatDoor
open Go Go.Eng
set_option linter.unusedVariables false
set_option maxRecDepth 100000
abbrev aA (r j:Nat) (k:Slc→T):T:=cY .slice ⟨r,j,none⟩ k
abbrev aC (a:Addr) (i:Int) (j:Nat) (k:Slc→T):T:=cY .slice (a.add (bU i * j)) k
abbrev aD (a:Array Value) (t:Nat) (k:Nat→T):T:=T.new (.cells a t (0,0)) k
abbrev aE (r j:Nat) (k:Int→T):T:=cY (.int .u8) ⟨r,j,none⟩ k
abbrev aF (r j:Nat) (v:Slc) (k:T):T:=dK ⟨r,j,none⟩ (sv v) k
abbrev aJ (a:Addr) (i:Int) (j:Nat) (k:Int→T):T:=cY (.int .i64) (a.add (bU i * j)) k
abbrev aK (r j:Nat) (k:Option Addr→T):T:=cY .pointer ⟨r,j,none⟩ k
abbrev aL (a:Addr) (j:Nat) (k:Slc→T):T:=cY .slice (a.add j) k
abbrev aM (a:Addr) (i:Int) (j n:Nat) (k:Slc→T):T:=cY .slice ((a.add (bU i * j)).add n) k
abbrev aN (r j:Nat) (v:Value) (k:T):T:=dK ⟨r,j,none⟩ v k
abbrev aO (r j:Nat) (v:Value) (k:T):T:=dG ⟨r,j,none⟩ v k
abbrev aQ (a:Addr) (i:Int) (j n:Nat) (k:Int→T):T:=cY (.int .i64) ((a.add (bU i * j)).add n) k
abbrev aR (r j:Nat) (k:Int→T):T:=cY (.int .i64) ⟨r,j,none⟩ k
abbrev aT (r j:Nat) (v:Int) (k:T):T:=dK ⟨r,j,none⟩ (.int .i64 v) k
abbrev aU (r j:Nat) (k:T):T:=dK ⟨r,j,none⟩ (.slice none 0 0) k
abbrev aV (r j:Nat) (k:ByteArray→T):T:=cY .string ⟨r,j,none⟩ k
abbrev aW (a:Addr) (i:Int) (j:Nat) (k:ByteArray→T):T:=cY .string (a.add (bU i * j)) k
abbrev aX (a:Addr) (i:Int) (j n:Nat) (k:ByteArray→T):T:=cY .string ((a.add (bU i * j)).add n) k
abbrev aY (r j:Nat) (v:Slc) (k:T):T:=dG ⟨r,j,none⟩ (sv v) k
abbrev aZ (a:Addr) (i:Int) (j:Nat) (k:Int→T):T:=cY (.int .u8) (a.add (bU i * j)) k
abbrev bA (r j:Nat) (k:Option Nat→T):T:=cY .map ⟨r,j,none⟩ k
abbrev bB (a:Addr) (j:Nat) (k:Int→T):T:=cY (.int .i64) (a.add j) k
abbrev bE (a:Addr) (k:Int→T):T:=cY (.int .i64) a k
abbrev bF (a:Addr) (k:ByteArray→T):T:=cY .string a k
abbrev bG (a:Addr) (k:Bool→T):T:=cY .bool a k
abbrev bH (a:Addr) (i:Int) (j n:Nat) (k:Bool→T):T:=cY .bool ((a.add (bU i * j)).add n) k
abbrev bI (r j:Nat) (k:Bool→T):T:=cY .bool ⟨r,j,none⟩ k
abbrev bJ (a:Addr) (i:Int) (j:Nat) (k:Option Addr→T):T:=cY .pointer (a.add (bU i * j)) k
abbrev bK (a:Addr) (k:Int→T):T:=cY (.int .u8) a k
abbrev bL (a:Addr) (i:Int) (j:Nat) (k:Bool→T):T:=cY .bool (a.add (bU i * j)) k
abbrev bM (a:Addr) (k:Slc→T):T:=cY .slice a k
abbrev bN (a:Addr) (j:Nat) (k:Option Addr→T):T:=cY .pointer (a.add j) k
abbrev bP (a:Addr) (j:Nat) (k:Option Nat→T):T:=cY .map (a.add j) k
abbrev bQ (r j:Nat) (v:Int) (k:T):T:=dG ⟨r,j,none⟩ (.int .i64 v) k
noncomputable def EA (s_0:Int×Int×Slc×Slc×Slc×Slc×Slc×Unit) (rules_1:Int) (right_2:Int):T:=aD #[(.int .u8 s_0.1),(.int .u8 s_0.2.1),(sv s_0.2.2.1),(sv s_0.2.2.2.1),(sv s_0.2.2.2.2.1),(sv s_0.2.2.2.2.2.1),(sv s_0.2.2.2.2.2.2.1)] 25 fun r1=>cQ [aB] (aA r1 2 fun t3=>cond (decide ((t3.2.1:Int) >rules_1)) (cE [(.bool true)]) (aA r1 5 fun t4=>cE [(.bool (decide ((t4.2.1:Int) >(5:Int))))])) fun (z2:Bool×Unit)=>cond z2.1 (cI (.bool false)) (cL 0 [aI,aB] (cP [aI,aB] [(.int .i64 0),(.bool false)] fun (z6:Int×Bool×Unit)=>aA r1 3 fun t7=>cond (decide (z6.1< (t7.2.1:Int))) (aA r1 3 fun t8=>deref t8.1 fun a9=>chk (0≤z6.1∧z6.1< (t8.2.1:Nat))<|aC a9 z6.1 1 fun t10=>cond (decide ((t10.2.1:Int) >right_2)) (cI (.bool false)) (cE [(.int .i64 (wN z6.1)),(.bool z6.2.1)])) (cU 0 [(.int .i64 z6.1),(.bool z6.2.1)])) fun (z5:Int×Bool×Unit)=>cI (.bool true))
theorem GS (s_0:Int×Int×Slc×Slc×Slc×Slc×Slc×Unit) (rules_1:Int) (right_2:Int):AZ bW Tryz.f14 [(.agg #[(.int .u8 s_0.1),(.int .u8 s_0.2.1),(sv s_0.2.2.1),(sv s_0.2.2.2.1),(sv s_0.2.2.2.2.1),(sv s_0.2.2.2.2.2.1),(sv s_0.2.2.2.2.2.2.1)]),(.int .i64 rules_1),(.int .i64 right_2)] =EA s_0 rules_1 right_2:=by kernel_rfl
noncomputable def Dy (s_0:Int×Int×Slc×Slc×Slc×Slc×Slc×Unit):T:=aD #[(.int .u8 s_0.1),(.int .u8 s_0.2.1),(sv s_0.2.2.1),(sv s_0.2.2.2.1),(sv s_0.2.2.2.2.1),(sv s_0.2.2.2.2.2.1),(sv s_0.2.2.2.2.2.2.1)] 25 fun r1=>aD #[(.slice none 0 0),(.slice none 0 0),(.slice none 0 0),(.slice none 0 0),(.slice none 0 0),(.slice none 0 0)] 32 fun r2=>aE r1 0 fun t3=>aE r1 1 fun t4=>aA r1 2 fun t5=>aA r1 3 fun t6=>aA r1 4 fun t7=>aA r1 5 fun t8=>aA r1 6 fun t9=>cG 56 [(.agg #[(.int .u8 t3),(.int .u8 t4),(sv t5),(sv t6),(sv t7),(sv t8),(sv t9)])] (.one (.agg [.slice,.slice,.slice,.string,.slice])) fun (t10:Slc×Slc×Slc×ByteArray×Slc×Unit)=>cG 55 [(.agg #[(sv t10.1),(sv t10.2.1),(sv t10.2.2.1),(.string t10.2.2.2.1),(sv t10.2.2.2.2.1)])] (.tuple [(.agg [.slice,.slice,.slice,.slice,.slice,.slice]),aI,(.atom .string)]) fun (t11:(Pl6)×Int×ByteArray×Unit)=>aD #[(.slice none 0 0),(.slice none 0 0),(.slice none 0 0),(.slice none 0 0),(.slice none 0 0),(.slice none 0 0)] 32 fun r12=>aF r12 0 t11.1.1<|aF r12 1 t11.1.2.1<|aF r12 2 t11.1.2.2.1<|aF r12 3 t11.1.2.2.2.1<|aF r12 4 t11.1.2.2.2.2.1<|aF r12 5 t11.1.2.2.2.2.2.1<|L6 r12 fun t13 t14 t15 t16 t17 t18=>aF r2 0 t13<|aF r2 1 t14<|aF r2 2 t15<|aF r2 3 t16<|aF r2 4 t17<|aF r2 5 t18<|L6 r2 fun res19 res20 res21 res22 res23 res24=>cI (aH res19 res20 res21 res22 res23 res24)
theorem GC (s_0:Int×Int×Slc×Slc×Slc×Slc×Slc×Unit):AZ bW Tryz.f15 [(.agg #[(.int .u8 s_0.1),(.int .u8 s_0.2.1),(sv s_0.2.2.1),(sv s_0.2.2.2.1),(sv s_0.2.2.2.2.1),(sv s_0.2.2.2.2.2.1),(sv s_0.2.2.2.2.2.2.1)])] =Dy s_0:=by kernel_rfl
noncomputable def Gv (l_0_p:Option Addr) (l_0_n l_0_c:Nat) (x_1:Int):T:=cL 0 [aI,aB] (cP [aI,aB] [(.int .i64 0),(.bool false)] fun (z2:Int×Bool×Unit)=>cond (decide (z2.1< ((l_0_n:Nat):Int))) (deref l_0_p fun a3=>chk (0≤z2.1∧z2.1< (l_0_n:Nat))<|aJ a3 z2.1 1 fun t4=>cond (t4==x_1) (cI (.bool true)) (cE [(.int .i64 (wN z2.1)),(.bool z2.2.1)])) (cU 0 [(.int .i64 z2.1),(.bool z2.2.1)])) fun (z1:Int×Bool×Unit)=>cI (.bool false)
theorem Jy (l_0_p:Option Addr) (l_0_n l_0_c:Nat) (x_1:Int):AZ bW Tryz.f31 [(.slice l_0_p l_0_n l_0_c),(.int .i64 x_1)] =Gv l_0_p l_0_n l_0_c x_1:=by kernel_rfl
noncomputable def I9 (p_0:Pl6) (states_1:Int) (items_2:Int):T:=aD #[(sv p_0.1),(sv p_0.2.1),(sv p_0.2.2.1),(sv p_0.2.2.2.1),(sv p_0.2.2.2.2.1),(sv p_0.2.2.2.2.2.1)] 32 fun r1=>L6 r1 fun t2 t3 t4 t5 t6 t7=>aD #[(sv t2),(sv t3),(sv t4),(sv t5),(sv t6),(sv t7),(.slice none 0 0),(.int .i64 0)] 131 fun r8=>aD #[(.pointer none)] 41 fun r9=>aN r9 0 (.pointer (some ⟨r8,0,none⟩))<|cG 98 [(.int .i64 states_1)] (.one aP) fun (t10:Option Addr)=>cG 98 [(.int .i64 items_2)] (.one aP) fun (t11:Option Addr)=>aD #[(.pointer none)] 183 fun r12=>aD #[(.pointer none)] 183 fun r13=>aN r12 0 (.pointer t10)<|aN r13 0 (.pointer t11)<|T.new (.map #[] 0) fun r14=>aD #[(.map none)] 185 fun r15=>aN r15 0 (.map (some r14))<|aD #[(.int .i64 0),(.int .i64 0)] 70 fun r16=>cG 99 [(.slice (some ⟨r16,0,none⟩) 1 1),(.int .i64 (-1:Int)),(.int .i64 (-1:Int)),(.pointer (some ⟨r15,0,none⟩)),(.pointer (some ⟨r9,0,none⟩)),(.pointer (some ⟨r12,0,none⟩)),(.pointer (some ⟨r13,0,none⟩))] (.tuple [aI,aI]) fun (t17:Int×Int×Unit)=>cond (t17.2.1 !=(0:Int)) (cI (.tuple #[(.pointer none),(.int .i64 t17.2.1)])) (cL 0 [aI,aI,aP] (cP [aI,aI,aP] [(.int .i64 0),(.int .i64 0),(.pointer none)] fun (z19:Int×Int×(Option Addr)×Unit)=>aK r9 0 fun t20=>deref t20 fun a21=>aL a21 6 fun t22=>cond (decide (z19.1< (t22.2.1:Int))) (aK r9 0 fun t23=>deref t23 fun a24=>aL a24 6 fun t25=>deref t25.1 fun a26=>chk (0≤z19.1∧z19.1< (t25.2.1:Nat))<|aM a26 z19.1 5 1 fun t27=>aK r9 0 fun t28=>cG 103 [(.pointer t28),(sv t27)] (.one aS) fun (t29:Slc)=>cL 2 [aI,aI,aP] (cP [aI,aI,aP] [(.int .i64 0),(.int .i64 z19.2.1),(.pointer z19.2.2.1)] fun (z31:Int×Int×(Option Addr)×Unit)=>cond (decide (z31.1< (t29.2.1:Int))) (deref t29.1 fun a32=>chk (0≤z31.1∧z31.1< (t29.2.1:Nat))<|aJ a32 z31.1 1 fun t33=>aK r9 0 fun t34=>cG 104 [(.pointer t34),(sv t27),(.int .i64 t33)] (.one aS) fun (t35:Slc)=>cG 99 [(sv t35),(.int .i64 z19.1),(.int .i64 t33),(.pointer (some ⟨r15,0,none⟩)),(.pointer (some ⟨r9,0,none⟩)),(.pointer (some ⟨r12,0,none⟩)),(.pointer (some ⟨r13,0,none⟩))] (.tuple [aI,aI]) fun (t36:Int×Int×Unit)=>cond (t36.2.1 !=(0:Int)) (cI (.tuple #[(.pointer none),(.int .i64 t36.2.1)])) (aK r9 0 fun t37=>deref t37 fun a38=>aL a38 6 fun t39=>aK r9 0 fun t40=>deref t40 fun a41=>aL a41 6 fun t42=>deref t42.1 fun a43=>chk (0≤z19.1∧z19.1< (t42.2.1:Nat))<|aM a43 z19.1 5 2 fun t44=>aD #[(.int .i64 t33),(.int .i64 t36.1)] 73 fun r45=>dG ((a43.add (bU z19.1 *5)).add 2) (sv t44)<|dG (a41.add 6) (sv t42)<|aO r9 0 (.pointer t40)<|dG (a38.add 6) (sv t39)<|aO r9 0 (.pointer t37)<|dD (cC #[54,54] 54 #[(sv t44),(.slice (some ⟨r45,0,none⟩) 1 1)]) (.one aS) fun (t46:Slc)=>dG (a38.add 6) (sv t39)<|aO r9 0 (.pointer t37)<|deref t39.1 fun a47=>chk (0≤z19.1∧z19.1< (t39.2.1:Nat))<|dK ((a47.add (bU z19.1 *5)).add 2) (sv t46)<|cE [(.int .i64 (wN z31.1)),(.int .i64 z31.2.1),(.pointer z31.2.2.1)])) (cU 2 [(.int .i64 z31.1),(.int .i64 z31.2.1),(.pointer z31.2.2.1)])) fun (z30:Int×Int×(Option Addr)×Unit)=>cE [(.int .i64 (wN z19.1)),(.int .i64 z30.2.1),(.pointer z30.2.2.1)]) (cU 0 [(.int .i64 z19.1),(.int .i64 z19.2.1),(.pointer z19.2.2.1)])) fun (z18:Int×Int×(Option Addr)×Unit)=>aK r9 0 fun t48=>aK r13 0 fun t49=>cG 105 [(.pointer t49)] (.one aI) fun (t50:Int)=>aO r9 0 (.pointer t48)<|deref t48 fun a51=>dK (a51.add 7) (.int .i64 t50)<|aK r9 0 fun t52=>cI (.tuple #[(.pointer t52),(.int .i64 0)]))
theorem Lf (p_0:Pl6) (states_1:Int) (items_2:Int):AZ bW Tryz.f68 [(aG p_0),(.int .i64 states_1),(.int .i64 items_2)] =I9 p_0 states_1 items_2:=by kernel_rfl
noncomputable def Gw (a_0:Option Addr):T:=deref a_0 fun a1=>aL a1 6 fun t2=>cI (.int .i64 (t2.2.1:Int))
theorem Jz (a_0:Option Addr):AZ bW Tryz.f20 [(.pointer a_0)] =Gw a_0:=by kernel_rfl
noncomputable def Ft (a_0:Option Addr) (n_1:Int):T:=cG 78 [(.pointer a_0),(.int .i64 n_1)] (.one (.agg [.slice,.slice,.slice,(.int .i64),(.int .i64)])) fun (t1:Slc×Slc×Slc×Int×Int×Unit)=>cG 77 [(sv t1.2.1)] (.one aS) fun (t2:Slc)=>cI (sv t2)
theorem If (a_0:Option Addr) (n_1:Int):AZ bW Tryz.f32 [(.pointer a_0),(.int .i64 n_1)] =Ft a_0 n_1:=by kernel_rfl
noncomputable def Fu (a_0:Option Addr) (n_1:Int):T:=cG 78 [(.pointer a_0),(.int .i64 n_1)] (.one (.agg [.slice,.slice,.slice,(.int .i64),(.int .i64)])) fun (t1:Slc×Slc×Slc×Int×Int×Unit)=>cG 79 [(sv t1.2.2.1)] (.one aS) fun (t2:Slc)=>cI (sv t2)
theorem Ig (a_0:Option Addr) (n_1:Int):AZ bW Tryz.f34 [(.pointer a_0),(.int .i64 n_1)] =Fu a_0 n_1:=by kernel_rfl
noncomputable def HS (a_0:Option Addr) (n_1:Int) (sym_2:Int):T:=cG 78 [(.pointer a_0),(.int .i64 n_1)] (.one (.agg [.slice,.slice,.slice,(.int .i64),(.int .i64)])) fun (t1:Slc×Slc×Slc×Int×Int×Unit)=>cL 0 [aI,aI] (cP [aI,aI] [(.int .i64 0),(.int .i64 0)] fun (z3:Int×Int×Unit)=>cond (decide (z3.1< (t1.2.2.1.2.1:Int))) (deref t1.2.2.1.1 fun a4=>chk (0≤z3.1∧z3.1< (t1.2.2.1.2.1:Nat))<|aJ a4 z3.1 2 fun t5=>aQ a4 z3.1 2 1 fun t6=>aD #[(.int .i64 0),(.int .i64 0)] 73 fun r7=>aT r7 0 t5<|aT r7 1 t6<|aR r7 0 fun t8=>cond (t8==sym_2) (aR r7 1 fun t9=>cI (.int .i64 t9)) (cE [(.int .i64 (wN z3.1)),(.int .i64 z3.2.1)])) (cU 0 [(.int .i64 z3.1),(.int .i64 z3.2.1)])) fun (z2:Int×Int×Unit)=>cI (.int .i64 (-1:Int))
theorem KZ (a_0:Option Addr) (n_1:Int) (sym_2:Int):AZ bW Tryz.f41 [(.pointer a_0),(.int .i64 n_1),(.int .i64 sym_2)] =HS a_0 n_1 sym_2:=by kernel_rfl
noncomputable def GT (a_0:Option Addr) (n_1:Int) (seq_2_p:Option Addr) (seq_2_n seq_2_c:Nat):T:=cQ [aB] (cond (decide (n_1< 0)) (cE [(.bool true)]) (deref a_0 fun a2=>aL a2 6 fun t3=>cE [(.bool (decide (n_1≥ (t3.2.1:Int))))])) fun (z1:Bool×Unit)=>cond z1.1 (cI (.int .i64 (-1:Int))) (cL 0 [aI,aI] (cP [aI,aI] [(.int .i64 0),(.int .i64 n_1)] fun (z5:Int×Int×Unit)=>cond (decide (z5.1< ((seq_2_n:Nat):Int))) (deref seq_2_p fun a6=>chk (0≤z5.1∧z5.1< (seq_2_n:Nat))<|aJ a6 z5.1 1 fun t7=>cG 41 [(.pointer a_0),(.int .i64 z5.2.1),(.int .i64 t7)] (.one aI) fun (t8:Int)=>cond (decide (t8< 0)) (cU 0 [(.int .i64 z5.1),(.int .i64 t8)]) (cE [(.int .i64 (wN z5.1)),(.int .i64 t8)])) (cU 0 [(.int .i64 z5.1),(.int .i64 z5.2.1)])) fun (z4:Int×Int×Unit)=>cI (.int .i64 z4.2.1))
theorem JA (a_0:Option Addr) (n_1:Int) (seq_2_p:Option Addr) (seq_2_n seq_2_c:Nat):AZ bW Tryz.f72 [(.pointer a_0),(.int .i64 n_1),(.slice seq_2_p seq_2_n seq_2_c)] =GT a_0 n_1 seq_2_p seq_2_n seq_2_c:=by kernel_rfl
noncomputable def HT (a_0:Option Addr) (n_1:Int):T:=aD #[(.slice none 0 0),(.slice none 0 0),(.slice none 0 0),(.int .i64 0),(.int .i64 0)] 150 fun r1=>cQ [aB] (cond (decide (n_1< 0)) (cE [(.bool true)]) (deref a_0 fun a3=>aL a3 6 fun t4=>cE [(.bool (decide (n_1≥ (t4.2.1:Int))))])) fun (z2:Bool×Unit)=>cond z2.1 (aU r1 0<|aU r1 1<|aU r1 2<|aT r1 3 0<|aT r1 4 0<|aA r1 0 fun res5=>aA r1 1 fun res6=>aA r1 2 fun res7=>aR r1 3 fun res8=>aR r1 4 fun res9=>cI (.agg #[(sv res5),(sv res6),(sv res7),(.int .i64 res8),(.int .i64 res9)])) (deref a_0 fun a10=>aL a10 6 fun t11=>deref t11.1 fun a12=>chk (0≤n_1∧n_1< (t11.2.1:Nat))<|aC a12 n_1 5 fun t13=>aM a12 n_1 5 1 fun t14=>aM a12 n_1 5 2 fun t15=>aQ a12 n_1 5 3 fun t16=>aQ a12 n_1 5 4 fun t17=>aF r1 0 t13<|aF r1 1 t14<|aF r1 2 t15<|aT r1 3 t16<|aT r1 4 t17<|aA r1 0 fun res18=>aA r1 1 fun res19=>aA r1 2 fun res20=>aR r1 3 fun res21=>aR r1 4 fun res22=>cI (.agg #[(sv res18),(sv res19),(sv res20),(.int .i64 res21),(.int .i64 res22)]))
theorem Ka (a_0:Option Addr) (n_1:Int):AZ bW Tryz.f78 [(.pointer a_0),(.int .i64 n_1)] =HT a_0 n_1:=by kernel_rfl
noncomputable def FQ (a_0:Option Addr) (x_1:Int×Int×Unit):T:=aD #[(.int .i64 x_1.1),(.int .i64 x_1.2.1)] 70 fun r1=>deref a_0 fun a2=>aL a2 2 fun t3=>aR r1 0 fun t4=>deref t3.1 fun a5=>chk (0≤t4∧t4< (t3.2.1:Nat))<|aM a5 t4 3 1 fun t6=>aR r1 1 fun t7=>cond (decide (t7≥ (t6.2.1:Int))) (cI (.int .i64 (-1:Int))) (aR r1 1 fun t8=>deref t6.1 fun a9=>chk (0≤t8∧t8< (t6.2.1:Nat))<|aJ a9 t8 1 fun t10=>cI (.int .i64 t10))
theorem H4 (a_0:Option Addr) (x_1:Int×Int×Unit):AZ bW Tryz.f126 [(.pointer a_0),(.agg #[(.int .i64 x_1.1),(.int .i64 x_1.2.1)])] =FQ a_0 x_1:=by kernel_rfl
noncomputable def Ew (a_0:Option Addr) (kernel_1_p:Option Addr) (kernel_1_n kernel_1_c:Nat):T:=cG 77 [(.slice kernel_1_p kernel_1_n kernel_1_c)] (.one aS) fun (t1:Slc)=>T.new (.map #[] 0) fun r2=>cL 0 [aI,aS] (cP [aI,aS] [(.int .i64 0),(sv t1)] fun (z4:Int×Slc×Unit)=>cond (decide (z4.1< (z4.2.1.2.1:Int))) (cL 1 [aS] (deref z4.2.1.1 fun a6=>chk (0≤z4.1∧z4.1< (z4.2.1.2.1:Nat))<|aJ a6 z4.1 2 fun t7=>aQ a6 z4.1 2 1 fun t8=>cG 126 [(.pointer a_0),(.agg #[(.int .i64 t7),(.int .i64 t8)])] (.one aI) fun (t9:Int)=>cQ [aB] (cond (decide (t9< 0)) (cE [(.bool true)]) (deref a_0 fun a11=>M6 a11 fun t12 t13 t14 t15 t16 t17=>cG 86 [(aH t12 t13 t14 t15 t16 t17),(.int .i64 t9)] (.one aB) fun (t18:Bool)=>cond t18 (cE [(.bool true)]) (dD (Instr.lookup 213 (.map (some r2)) (.int .i64 t9) false) (.one aB) fun (t19:Bool)=>cE [(.bool t19)]))) fun (z10:Bool×Unit)=>cond z10.1 (cU 1 [(sv z4.2.1)]) (dD (Sem.bind (gA 213 (.map (some r2)) (.int .i64 t9) (.bool true)) fun _=>.pure undef) (.tuple []) fun (u20:Unit)=>deref a_0 fun a21=>aL a21 2 fun t22=>cL 2 [aI,aS] (cP [aI,aS] [(.int .i64 0),(sv z4.2.1)] fun (z24:Int×Slc×Unit)=>cond (decide (z24.1< (t22.2.1:Int))) (deref t22.1 fun a25=>chk (0≤z24.1∧z24.1< (t22.2.1:Nat))<|aJ a25 z24.1 3 fun t26=>aM a25 z24.1 3 1 fun t27=>aQ a25 z24.1 3 2 fun t28=>aD #[(.int .i64 0),(.slice none 0 0),(.int .i64 0)] 65 fun r29=>aT r29 0 t26<|aF r29 1 t27<|aT r29 2 t28<|aD #[(.int .i64 0),(.int .i64 0)] 70 fun r30=>aT r30 0 z24.1<|aT r30 1 0<|cQ [aB] (aR r29 0 fun t32=>cond (t32==t9) (aR r30 0 fun t33=>aR r30 1 fun t34=>cG 115 [(sv z24.2.1),(.agg #[(.int .i64 t33),(.int .i64 t34)])] (.one aB) fun (t35:Bool)=>cE [(.bool (!t35))]) (cE [(.bool false)])) fun (z31:Bool×Unit)=>cQ [aS] (cond z31.1 (aR r30 0 fun t37=>aR r30 1 fun t38=>aD #[(.int .i64 t37),(.int .i64 t38)] 70 fun r39=>dD (cC #[67,67] 67 #[(sv z24.2.1),(.slice (some ⟨r39,0,none⟩) 1 1)]) (.one aS) fun (t40:Slc)=>cE [(sv t40)]) (cE [(sv z24.2.1)])) fun (z36:Slc×Unit)=>cE [(.int .i64 (wN z24.1)),(sv z36.1)]) (cU 2 [(.int .i64 z24.1),(sv z24.2.1)])) fun (z23:Int×Slc×Unit)=>cE [(sv z23.2.1)])) fun (z5:Slc×Unit)=>cE [(.int .i64 (wN z4.1)),(sv z5.1)]) (cU 0 [(.int .i64 z4.1),(sv z4.2.1)])) fun (z3:Int×Slc×Unit)=>cG 127 [(sv z3.2.1),(.func (.func 128) #[] #[])] (.tuple []) fun (t41:Unit)=>cI (sv z3.2.1)
theorem HU (a_0:Option Addr) (kernel_1_p:Option Addr) (kernel_1_n kernel_1_c:Nat):AZ bW Tryz.f101 [(.pointer a_0),(.slice kernel_1_p kernel_1_n kernel_1_c)] =Ew a_0 kernel_1_p kernel_1_n kernel_1_c:=by kernel_rfl
noncomputable def Ex (a_0:Option Addr) (items_1_p:Option Addr) (items_1_n items_1_c:Nat):T:=cL 0 [aI,aS] (cP [aI,aS] [(.int .i64 0),(.slice none 0 0)] fun (z2:Int×Slc×Unit)=>cond (decide (z2.1< ((items_1_n:Nat):Int))) (deref items_1_p fun a3=>chk (0≤z2.1∧z2.1< (items_1_n:Nat))<|aJ a3 z2.1 2 fun t4=>aQ a3 z2.1 2 1 fun t5=>aD #[(.int .i64 0),(.int .i64 0)] 70 fun r6=>aT r6 0 t4<|aT r6 1 t5<|aR r6 0 fun t7=>aR r6 1 fun t8=>cG 126 [(.pointer a_0),(.agg #[(.int .i64 t7),(.int .i64 t8)])] (.one aI) fun (t9:Int)=>cQ [aS] (cond (decide (t9≥ 0)) (aD #[(.int .i64 t9)] 3 fun r11=>dD (cC #[30,30] 30 #[(sv z2.2.1),(.slice (some ⟨r11,0,none⟩) 1 1)]) (.one aS) fun (t12:Slc)=>cE [(sv t12)]) (cE [(sv z2.2.1)])) fun (z10:Slc×Unit)=>cE [(.int .i64 (wN z2.1)),(sv z10.1)]) (cU 0 [(.int .i64 z2.1),(sv z2.2.1)])) fun (z1:Int×Slc×Unit)=>cG 130 [(sv z1.2.1)] (.tuple []) fun (t13:Unit)=>cG 131 [(sv z1.2.1)] (.one aS) fun (t14:Slc)=>cI (sv t14)
theorem HV (a_0:Option Addr) (items_1_p:Option Addr) (items_1_n items_1_c:Nat):AZ bW Tryz.f103 [(.pointer a_0),(.slice items_1_p items_1_n items_1_c)] =Ex a_0 items_1_p items_1_n items_1_c:=by kernel_rfl
noncomputable def GU (a_0:Option Addr) (items_1_p:Option Addr) (items_1_n items_1_c:Nat) (sym_2:Int):T:=cL 0 [aI,aS] (cP [aI,aS] [(.int .i64 0),(.slice none 0 0)] fun (z2:Int×Slc×Unit)=>cond (decide (z2.1< ((items_1_n:Nat):Int))) (deref items_1_p fun a3=>chk (0≤z2.1∧z2.1< (items_1_n:Nat))<|aJ a3 z2.1 2 fun t4=>aQ a3 z2.1 2 1 fun t5=>aD #[(.int .i64 0),(.int .i64 0)] 70 fun r6=>aT r6 0 t4<|aT r6 1 t5<|aR r6 0 fun t7=>aR r6 1 fun t8=>cG 126 [(.pointer a_0),(.agg #[(.int .i64 t7),(.int .i64 t8)])] (.one aI) fun (t9:Int)=>cQ [aS] (cond (t9==sym_2) (aR r6 0 fun t11=>aR r6 1 fun t12=>aD #[(.int .i64 t11),(.int .i64 (wN t12))] 70 fun r13=>dD (cC #[67,67] 67 #[(sv z2.2.1),(.slice (some ⟨r13,0,none⟩) 1 1)]) (.one aS) fun (t14:Slc)=>cE [(sv t14)]) (cE [(sv z2.2.1)])) fun (z10:Slc×Unit)=>cE [(.int .i64 (wN z2.1)),(sv z10.1)]) (cU 0 [(.int .i64 z2.1),(sv z2.2.1)])) fun (z1:Int×Slc×Unit)=>cI (sv z1.2.1)
theorem JB (a_0:Option Addr) (items_1_p:Option Addr) (items_1_n items_1_c:Nat) (sym_2:Int):AZ bW Tryz.f104 [(.pointer a_0),(.slice items_1_p items_1_n items_1_c),(.int .i64 sym_2)] =GU a_0 items_1_p items_1_n items_1_c sym_2:=by kernel_rfl
noncomputable def Cq (s_0_p:Option Addr) (s_0_n s_0_c:Nat):T:=cond (eC s_0_p) (cI (.slice none 0 0)) (aD #[] 70 fun r1=>dD (cC #[67,67] 67 #[(.slice (some ⟨r1,0,none⟩) 0 0),(.slice s_0_p s_0_n s_0_c)]) (.one aS) fun (t2:Slc)=>cI (sv t2))
theorem EL (s_0_p:Option Addr) (s_0_n s_0_c:Nat):AZ bW Tryz.f77 [(.slice s_0_p s_0_n s_0_c)] =Cq s_0_p s_0_n s_0_c:=by kernel_rfl
noncomputable def Cr (s_0_p:Option Addr) (s_0_n s_0_c:Nat):T:=cond (eC s_0_p) (cI (.slice none 0 0)) (aD #[] 73 fun r1=>dD (cC #[54,54] 54 #[(.slice (some ⟨r1,0,none⟩) 0 0),(.slice s_0_p s_0_n s_0_c)]) (.one aS) fun (t2:Slc)=>cI (sv t2))
theorem EM (s_0_p:Option Addr) (s_0_n s_0_c:Nat):AZ bW Tryz.f79 [(.slice s_0_p s_0_n s_0_c)] =Cr s_0_p s_0_n s_0_c:=by kernel_rfl
noncomputable def Gx (g_0:Slc×Slc×Slc×ByteArray×Slc×Unit):T:=aD #[(sv g_0.1),(sv g_0.2.1),(sv g_0.2.2.1),(.string g_0.2.2.2.1),(sv g_0.2.2.2.2.1)] 107 fun r1=>aD #[(.slice none 0 0),(.slice none 0 0),(.slice none 0 0),(.slice none 0 0),(.slice none 0 0),(.slice none 0 0)] 32 fun r2=>aA r1 0 fun t3=>aA r1 1 fun t4=>aA r1 2 fun t5=>aV r1 3 fun t6=>aA r1 4 fun t7=>cG 92 [(.agg #[(sv t3),(sv t4),(sv t5),(.string t6),(sv t7)])] (.one aB) fun (t8:Bool)=>cond (!t8) (aU r2 0<|aU r2 1<|aU r2 2<|aU r2 3<|aU r2 4<|aU r2 5<|L6 r2 fun res9 res10 res11 res12 res13 res14=>cI (.tuple #[(aH res9 res10 res11 res12 res13 res14),(.int .i64 1),(.string {data:=#[]})])) (aD #[(.string {data:=#[36,101,110,100]})] 9 fun r15=>aD #[(.int .i64 0)] 3 fun r16=>aD #[(.int .i64 0)] 3 fun r17=>aD #[(.string {data:=#[]})] 9 fun r18=>aD #[(.slice none 0 0),(.slice none 0 0),(.slice none 0 0),(.slice none 0 0),(.slice none 0 0),(.slice none 0 0)] 32 fun r19=>aN r19 0 (.slice (some ⟨r15,0,none⟩) 1 1)<|aU r19 1<|aU r19 2<|aN r19 3 (.slice (some ⟨r16,0,none⟩) 1 1)<|aN r19 4 (.slice (some ⟨r17,0,none⟩) 1 1)<|aN r19 5 (.slice (some ⟨r18,0,none⟩) 1 1)<|cL 0 [aI] (cP [aI] [(.int .i64 0)] fun (z21:Int×Unit)=>aA r1 4 fun t22=>cond (decide (z21.1< (t22.2.1:Int))) (aA r19 1 fun t23=>aA r1 4 fun t24=>deref t24.1 fun a25=>chk (0≤z21.1∧z21.1< (t24.2.1:Nat))<|aW a25 z21.1 4 fun t26=>cG 93 [(sv t23),(.string t26)] (.one aI) fun (t27:Int)=>cQ [] (cond (decide (t27< 0)) (aA r19 1 fun t29=>aA r1 4 fun t30=>deref t30.1 fun a31=>chk (0≤z21.1∧z21.1< (t30.2.1:Nat))<|aW a31 z21.1 4 fun t32=>aD #[(.string t32)] 9 fun r33=>aY r19 1 t29<|dD (cC #[28,28] 28 #[(sv t29),(.slice (some ⟨r33,0,none⟩) 1 1)]) (.one aS) fun (t34:Slc)=>aF r19 1 t34<|cE []) (cE [])) fun (z28:Unit)=>aA r19 5 fun t35=>aA r1 4 fun t36=>deref t36.1 fun a37=>chk (0≤z21.1∧z21.1< (t36.2.1:Nat))<|aX a37 z21.1 4 3 fun t38=>aD #[(.string t38)] 9 fun r39=>aY r19 5 t35<|dD (cC #[28,28] 28 #[(sv t35),(.slice (some ⟨r39,0,none⟩) 1 1)]) (.one aS) fun (t40:Slc)=>aF r19 5 t40<|cE [(.int .i64 (wN z21.1))]) (cU 0 [(.int .i64 z21.1)])) fun (z20:Int×Unit)=>cL 2 [aI,(.atom .string),aI] (cP [aI,(.atom .string),aI] [(.int .i64 0),(.string {data:=#[]}),(.int .i64 0)] fun (z42:Int×ByteArray×Int×Unit)=>aA r1 0 fun t43=>cond (decide (z42.1< (t43.2.1:Int))) (aA r19 1 fun t44=>aA r1 0 fun t45=>deref t45.1 fun a46=>chk (0≤z42.1∧z42.1< (t45.2.1:Nat))<|aW a46 z42.1 4 fun t47=>cG 93 [(sv t44),(.string t47)] (.one aI) fun (t48:Int)=>cond (decide (t48≥ 0)) (aA r1 0 fun t49=>deref t49.1 fun a50=>chk (0≤z42.1∧z42.1< (t49.2.1:Nat))<|aW a50 z42.1 4 fun t51=>aU r2 0<|aU r2 1<|aU r2 2<|aU r2 3<|aU r2 4<|aU r2 5<|dG (a50.add (bU z42.1 *4)) (.string t51)<|aY r1 0 t49<|L6 r2 fun res52 res53 res54 res55 res56 res57=>cI (.tuple #[(aH res52 res53 res54 res55 res56 res57),(.int .i64 15),(.string t51)])) (aA r19 0 fun t58=>aA r1 0 fun t59=>deref t59.1 fun a60=>chk (0≤z42.1∧z42.1< (t59.2.1:Nat))<|aW a60 z42.1 4 fun t61=>aD #[(.string t61)] 9 fun r62=>aY r19 0 t58<|dD (cC #[28,28] 28 #[(sv t58),(.slice (some ⟨r62,0,none⟩) 1 1)]) (.one aS) fun (t63:Slc)=>aF r19 0 t63<|aA r19 3 fun t64=>aA r1 0 fun t65=>aA r1 1 fun t66=>aA r1 2 fun t67=>aV r1 3 fun t68=>aA r1 4 fun t69=>aA r1 0 fun t70=>deref t70.1 fun a71=>chk (0≤z42.1∧z42.1< (t70.2.1:Nat))<|aW a71 z42.1 4 fun t72=>cG 94 [(.agg #[(sv t65),(sv t66),(sv t67),(.string t68),(sv t69)]),(.string t72)] (.one aI) fun (t73:Int)=>aY r19 3 t64<|aD #[(.int .i64 t73)] 3 fun r74=>aY r19 3 t64<|dD (cC #[30,30] 30 #[(sv t64),(.slice (some ⟨r74,0,none⟩) 1 1)]) (.one aS) fun (t75:Slc)=>aF r19 3 t75<|cE [(.int .i64 (wN z42.1)),(.string z42.2.1),(.int .i64 z42.2.2.1)])) (cU 2 [(.int .i64 z42.1),(.string z42.2.1),(.int .i64 z42.2.2.1)])) fun (z41:Int×ByteArray×Int×Unit)=>cL 4 [aI] (cP [aI] [(.int .i64 0)] fun (z77:Int×Unit)=>aA r1 2 fun t78=>cond (decide (z77.1< (t78.2.1:Int))) (aA r19 4 fun t79=>aA r1 2 fun t80=>deref t80.1 fun a81=>chk (0≤z77.1∧z77.1< (t80.2.1:Nat))<|aJ a81 z77.1 2 fun t82=>aD #[(.int .i64 t82)] 3 fun r83=>aY r19 4 t79<|dD (cC #[30,30] 30 #[(sv t79),(.slice (some ⟨r83,0,none⟩) 1 1)]) (.one aS) fun (t84:Slc)=>aF r19 4 t84<|cE [(.int .i64 (wN z77.1))]) (cU 4 [(.int .i64 z77.1)])) fun (z76:Int×Unit)=>aA r19 0 fun t85=>aA r19 1 fun t86=>L6 r19 fun t87 t88 t89 t90 t91 t92=>aV r1 3 fun t93=>cG 95 [(aH t87 t88 t89 t90 t91 t92),(.string t93)] (.one aI) fun (t94:Int)=>aD #[(.int .i64 t94)] 3 fun r95=>aD #[(.int .i64 (bR .i64 ((t85.2.1:Int)+(t86.2.1:Int)))),(.slice (some ⟨r95,0,none⟩) 1 1),(.int .i64 0)] 65 fun r96=>aN r19 2 (.slice (some ⟨r96,0,none⟩) 1 1)<|cL 6 [aI,(.atom .string),aI] (cP [aI,(.atom .string),aI] [(.int .i64 0),(.string z41.2.1),(.int .i64 z41.2.2.1)] fun (z98:Int×ByteArray×Int×Unit)=>aA r1 4 fun t99=>cond (decide (z98.1< (t99.2.1:Int))) (aA r1 4 fun t100=>deref t100.1 fun a101=>chk (0≤z98.1∧z98.1< (t100.2.1:Nat))<|aW a101 z98.1 4 fun t102=>aM a101 z98.1 4 1 fun t103=>aX a101 z98.1 4 2 fun t104=>aX a101 z98.1 4 3 fun t105=>aD #[(.string {data:=#[]}),(.slice none 0 0),(.string {data:=#[]}),(.string {data:=#[]})] 172 fun r106=>aN r106 0 (.string t102)<|aF r106 1 t103<|aN r106 2 (.string t104)<|aN r106 3 (.string t105)<|L6 r19 fun t107 t108 t109 t110 t111 t112=>aV r106 0 fun t113=>cG 95 [(aH t107 t108 t109 t110 t111 t112),(.string t113)] (.one aI) fun (t114:Int)=>aD #[(.int .i64 0),(.slice none 0 0),(.int .i64 0)] 65 fun r115=>aT r115 0 t114<|aU r115 1<|aT r115 2 0<|cL 8 [aI,(.atom .string),aI] (cP [aI,(.atom .string),aI] [(.int .i64 0),(.string z98.2.1),(.int .i64 z98.2.2.1)] fun (z117:Int×ByteArray×Int×Unit)=>aA r106 1 fun t118=>cond (decide (z117.1< (t118.2.1:Int))) (L6 r19 fun t119 t120 t121 t122 t123 t124=>aA r106 1 fun t125=>deref t125.1 fun a126=>chk (0≤z117.1∧z117.1< (t125.2.1:Nat))<|aW a126 z117.1 1 fun t127=>cG 95 [(aH t119 t120 t121 t122 t123 t124),(.string t127)] (.one aI) fun (t128:Int)=>cond (decide (t128< 0)) (aA r106 1 fun t129=>deref t129.1 fun a130=>chk (0≤z117.1∧z117.1< (t129.2.1:Nat))<|aW a130 z117.1 1 fun t131=>aU r2 0<|aU r2 1<|aU r2 2<|aU r2 3<|aU r2 4<|aU r2 5<|dG (a130.add (bU z117.1 *1)) (.string t131)<|aY r106 1 t129<|L6 r2 fun res132 res133 res134 res135 res136 res137=>cI (.tuple #[(aH res132 res133 res134 res135 res136 res137),(.int .i64 16),(.string t131)])) (aA r115 1 fun t138=>aD #[(.int .i64 t128)] 3 fun r139=>dD (cC #[30,30] 30 #[(sv t138),(.slice (some ⟨r139,0,none⟩) 1 1)]) (.one aS) fun (t140:Slc)=>aF r115 1 t140<|aA r19 0 fun t141=>cQ [] (cond (decide (t128< (t141.2.1:Int))) (aA r19 3 fun t143=>deref t143.1 fun a144=>chk (0≤t128∧t128< (t143.2.1:Nat))<|aJ a144 t128 1 fun t145=>aT r115 2 t145<|cE []) (cE [])) fun (z142:Unit)=>cE [(.int .i64 (wN z117.1)),(.string z117.2.1),(.int .i64 z117.2.2.1)])) (cU 8 [(.int .i64 z117.1),(.string z117.2.1),(.int .i64 z117.2.2.1)])) fun (z116:Int×ByteArray×Int×Unit)=>aV r106 2 fun t146=>cQ [(.atom .string),aI] (cond (!(bX t146==bX {data:=#[]})) (aA r1 0 fun t148=>aA r1 1 fun t149=>aA r1 2 fun t150=>aV r1 3 fun t151=>aA r1 4 fun t152=>aV r106 2 fun t153=>cG 94 [(.agg #[(sv t148),(sv t149),(sv t150),(.string t151),(sv t152)]),(.string t153)] (.one aI) fun (t154:Int)=>aT r115 2 t154<|aR r115 2 fun t155=>cond (t155==(0:Int)) (aV r106 2 fun t156=>aU r2 0<|aU r2 1<|aU r2 2<|aU r2 3<|aU r2 4<|aU r2 5<|aO r106 2 (.string t156)<|L6 r2 fun res157 res158 res159 res160 res161 res162=>cI (.tuple #[(aH res157 res158 res159 res160 res161 res162),(.int .i64 16),(.string t156)])) (cE [(.string z116.2.1),(.int .i64 z116.2.2.1)])) (cE [(.string z116.2.1),(.int .i64 z116.2.2.1)])) fun (z147:ByteArray×Int×Unit)=>aA r19 2 fun t163=>aR r115 0 fun t164=>aA r115 1 fun t165=>aR r115 2 fun t166=>aD #[(.int .i64 t164),(sv t165),(.int .i64 t166)] 65 fun r167=>dD (cC #[29,29] 29 #[(sv t163),(.slice (some ⟨r167,0,none⟩) 1 1)]) (.one aS) fun (t168:Slc)=>aF r19 2 t168<|cE [(.int .i64 (wN z98.1)),(.string z147.1),(.int .i64 z147.2.1)]) (cU 6 [(.int .i64 z98.1),(.string z98.2.1),(.int .i64 z98.2.2.1)])) fun (z97:Int×ByteArray×Int×Unit)=>aA r19 1 fun t169=>aV r1 3 fun t170=>cG 93 [(sv t169),(.string t170)] (.one aI) fun (t171:Int)=>cond (decide (t171< 0)) (aV r1 3 fun t172=>aU r2 0<|aU r2 1<|aU r2 2<|aU r2 3<|aU r2 4<|aU r2 5<|aO r1 3 (.string t172)<|L6 r2 fun res173 res174 res175 res176 res177 res178=>cI (.tuple #[(aH res173 res174 res175 res176 res177 res178),(.int .i64 16),(.string t172)])) (L6 r19 fun t179 t180 t181 t182 t183 t184=>aF r2 0 t179<|aF r2 1 t180<|aF r2 2 t181<|aF r2 3 t182<|aF r2 4 t183<|aF r2 5 t184<|L6 r2 fun res185 res186 res187 res188 res189 res190=>cI (.tuple #[(aH res185 res186 res187 res188 res189 res190),(.int .i64 0),(.string {data:=#[]})])))
theorem J0 (g_0:Slc×Slc×Slc×ByteArray×Slc×Unit):AZ bW Tryz.f55 [(.agg #[(sv g_0.1),(sv g_0.2.1),(sv g_0.2.2.1),(.string g_0.2.2.2.1),(sv g_0.2.2.2.2.1)])] =Gx g_0:=by kernel_rfl
noncomputable def DG (s_0:Int×Int×Slc×Slc×Slc×Slc×Slc×Unit):T:=aD #[(.int .u8 s_0.1),(.int .u8 s_0.2.1),(sv s_0.2.2.1),(sv s_0.2.2.2.1),(sv s_0.2.2.2.2.1),(sv s_0.2.2.2.2.2.1),(sv s_0.2.2.2.2.2.2.1)] 25 fun r1=>aD #[(.slice none 0 0),(.slice none 0 0),(.slice none 0 0),(.string {data:=#[]}),(.slice none 0 0)] 107 fun r2=>aE r1 0 fun t3=>chk ((5:Int)≠0)<|aE r1 1 fun t4=>chk ((4:Int)≠0)<|aD #[(.slice none 0 0),(.slice none 0 0),(.slice none 0 0),(.string {data:=#[]}),(.slice none 0 0)] 107 fun r5=>aU r5 0<|aU r5 1<|aU r5 2<|aN r5 3 (.string {data:=#[83]})<|aU r5 4<|cL 0 [aI] (cP [aI] [(.int .i64 0)] fun (z7:Int×Unit)=>aA r1 5 fun t8=>cond (decide (z7.1< (t8.2.1:Int))) (aA r5 2 fun t9=>aA r1 5 fun t10=>deref t10.1 fun a11=>chk (0≤z7.1∧z7.1< (t10.2.1:Nat))<|aZ a11 z7.1 1 fun t12=>chk ((3:Int)≠0)<|chk (0≤z7.1∧z7.1≤(wN z7.1)∧(wN z7.1) ≤(bY {data:=#[112,113,114,115,116]} :Nat))<|aD #[(.string (bV {data:=#[112,113,114,115,116]} (bU z7.1) (bU (wN z7.1))))] 9 fun r13=>dG (a11.add (bU z7.1 *1)) (.int .u8 t12)<|aY r1 5 t10<|aY r5 2 t9<|aD #[(.int .i64 (bR .i64 ((bR .i64 (bT t12 3))+(1:Int)))),(.slice (some ⟨r13,0,none⟩) 1 1)] 179 fun r14=>aY r5 2 t9<|dD (cC #[104,104] 104 #[(sv t9),(.slice (some ⟨r14,0,none⟩) 1 1)]) (.one aS) fun (t15:Slc)=>aF r5 2 t15<|cE [(.int .i64 (wN z7.1))]) (cU 0 [(.int .i64 z7.1)])) fun (z6:Int×Unit)=>cL 2 [aI] (cP [aI] [(.int .i64 0)] fun (z17:Int×Unit)=>cond (decide (z17.1< (bR .i64 ((bR .i64 (bT t3 5))+(1:Int))))) (chk (0≤z17.1∧z17.1≤(wN z17.1)∧(wN z17.1) ≤(bY {data:=#[97,98,99,100,101]} :Nat))<|aA r5 0 fun t18=>aD #[(.string (bV {data:=#[97,98,99,100,101]} (bU z17.1) (bU (wN z17.1)))),(.string (bV {data:=#[97,98,99,100,101]} (bU z17.1) (bU (wN z17.1)))),(.string {data:=#[]}),(.bool false)] 176 fun r19=>dD (cC #[102,102] 102 #[(sv t18),(.slice (some ⟨r19,0,none⟩) 1 1)]) (.one aS) fun (t20:Slc)=>aF r5 0 t20<|aA r1 6 fun t21=>cQ [] (cond (decide (z17.1< (t21.2.1:Int))) (aA r1 6 fun t23=>deref t23.1 fun a24=>chk (0≤z17.1∧z17.1< (t23.2.1:Nat))<|aZ a24 z17.1 1 fun t25=>aA r5 2 fun t26=>chk ((bR .i64 ((t26.2.1:Int)+(1:Int)))≠0)<|cQ [] (cond (decide ((bT (bR .i64 t25) (bR .i64 ((t26.2.1:Int)+(1:Int)))) >(0:Int))) (aA r5 2 fun t28=>aA r5 2 fun t29=>deref t29.1 fun a30=>chk (0≤(bR .i64 ((bT (bR .i64 t25) (bR .i64 ((t26.2.1:Int)+(1:Int)))) - 1))∧(bR .i64 ((bT (bR .i64 t25) (bR .i64 ((t26.2.1:Int)+(1:Int)))) - 1)) < (t29.2.1:Nat))<|aM a30 (bR .i64 ((bT (bR .i64 t25) (bR .i64 ((t26.2.1:Int)+(1:Int)))) - 1)) 2 1 fun t31=>T.both (aD #[] 9 fun r32=>dG ((a30.add (bU (bR .i64 ((bT (bR .i64 t25) (bR .i64 ((t26.2.1:Int)+(1:Int)))) - 1)) *2)).add 1) (sv t31)<|aY r5 2 t29<|aY r5 2 t28<|T.both (dD (cC #[28,28] 28 #[(.slice (some ⟨r32,0,none⟩) 0 0),(sv t31)]) (.one aS) fun (t33:Slc)=>aY r5 2 t28<|aD #[(.string (bV {data:=#[97,98,99,100,101]} (bU z17.1) (bU (wN z17.1))))] 9 fun r34=>aY r5 2 t28<|dD (cC #[28,28] 28 #[(sv t33),(.slice (some ⟨r34,0,none⟩) 1 1)]) (.one aS) fun (t35:Slc)=>aY r5 2 t28<|deref t28.1 fun a36=>chk (0≤(bR .i64 ((bT (bR .i64 t25) (bR .i64 ((t26.2.1:Int)+(1:Int)))) - 1))∧(bR .i64 ((bT (bR .i64 t25) (bR .i64 ((t26.2.1:Int)+(1:Int)))) - 1)) < (t28.2.1:Nat))<|dK ((a36.add (bU (bR .i64 ((bT (bR .i64 t25) (bR .i64 ((t26.2.1:Int)+(1:Int)))) - 1)) *2)).add 1) (sv t35)<|cE []) (aD #[(.string (bV {data:=#[97,98,99,100,101]} (bU z17.1) (bU (wN z17.1))))] 9 fun r37=>dG ((a30.add (bU (bR .i64 ((bT (bR .i64 t25) (bR .i64 ((t26.2.1:Int)+(1:Int)))) - 1)) *2)).add 1) (sv t31)<|aY r5 2 t29<|aY r5 2 t28<|dD (cC #[28,28] 28 #[(.slice (some ⟨r32,0,none⟩) 0 0),(sv t31)]) (.one aS) fun (t38:Slc)=>aY r5 2 t28<|dD (cC #[28,28] 28 #[(sv t38),(.slice (some ⟨r37,0,none⟩) 1 1)]) (.one aS) fun (t39:Slc)=>aY r5 2 t28<|deref t28.1 fun a40=>chk (0≤(bR .i64 ((bT (bR .i64 t25) (bR .i64 ((t26.2.1:Int)+(1:Int)))) - 1))∧(bR .i64 ((bT (bR .i64 t25) (bR .i64 ((t26.2.1:Int)+(1:Int)))) - 1)) < (t28.2.1:Nat))<|dK ((a40.add (bU (bR .i64 ((bT (bR .i64 t25) (bR .i64 ((t26.2.1:Int)+(1:Int)))) - 1)) *2)).add 1) (sv t39)<|cE [])) (aD #[(.string (bV {data:=#[97,98,99,100,101]} (bU z17.1) (bU (wN z17.1))))] 9 fun r41=>dG ((a30.add (bU (bR .i64 ((bT (bR .i64 t25) (bR .i64 ((t26.2.1:Int)+(1:Int)))) - 1)) *2)).add 1) (sv t31)<|aY r5 2 t29<|aY r5 2 t28<|aD #[] 9 fun r42=>dG ((a30.add (bU (bR .i64 ((bT (bR .i64 t25) (bR .i64 ((t26.2.1:Int)+(1:Int)))) - 1)) *2)).add 1) (sv t31)<|aY r5 2 t29<|aY r5 2 t28<|dD (cC #[28,28] 28 #[(.slice (some ⟨r42,0,none⟩) 0 0),(sv t31)]) (.one aS) fun (t43:Slc)=>aY r5 2 t28<|dD (cC #[28,28] 28 #[(sv t43),(.slice (some ⟨r41,0,none⟩) 1 1)]) (.one aS) fun (t44:Slc)=>aY r5 2 t28<|deref t28.1 fun a45=>chk (0≤(bR .i64 ((bT (bR .i64 t25) (bR .i64 ((t26.2.1:Int)+(1:Int)))) - 1))∧(bR .i64 ((bT (bR .i64 t25) (bR .i64 ((t26.2.1:Int)+(1:Int)))) - 1)) < (t28.2.1:Nat))<|dK ((a45.add (bU (bR .i64 ((bT (bR .i64 t25) (bR .i64 ((t26.2.1:Int)+(1:Int)))) - 1)) *2)).add 1) (sv t44)<|cE [])) (cE [])) fun (z27:Unit)=>cE []) (cE [])) fun (z22:Unit)=>cE [(.int .i64 (wN z17.1))]) (cU 2 [(.int .i64 z17.1)])) fun (z16:Int×Unit)=>cL 4 [aI] (cP [aI] [(.int .i64 0)] fun (z47:Int×Unit)=>aA r1 2 fun t48=>cond (decide (z47.1< (t48.2.1:Int))) (aA r1 2 fun t49=>deref t49.1 fun a50=>chk (0≤z47.1∧z47.1< (t49.2.1:Nat))<|aZ a50 z47.1 1 fun t51=>chk ((bR .i64 ((bR .i64 (bT t4 4))+(1:Int)))≠0)<|aA r1 2 fun t52=>deref t52.1 fun a53=>chk (0≤z47.1∧z47.1< (t52.2.1:Nat))<|aZ a53 z47.1 1 fun t54=>chk ((bR .i64 ((bR .i64 (bT t4 4))+(1:Int)))≠0)<|chk (0≤(bT (bR .i64 t51) (bR .i64 ((bR .i64 (bT t4 4))+(1:Int))))∧(bT (bR .i64 t51) (bR .i64 ((bR .i64 (bT t4 4))+(1:Int)))) ≤(bR .i64 ((bT (bR .i64 t54) (bR .i64 ((bR .i64 (bT t4 4))+(1:Int))))+(1:Int)))∧(bR .i64 ((bT (bR .i64 t54) (bR .i64 ((bR .i64 (bT t4 4))+(1:Int))))+(1:Int))) ≤(bY {data:=#[83,84,85,86]} :Nat))<|aD #[(.string {data:=#[]}),(.slice none 0 0),(.string {data:=#[]}),(.string {data:=#[]})] 172 fun r55=>dG (a53.add (bU z47.1 *1)) (.int .u8 t54)<|aY r1 2 t52<|dG (a50.add (bU z47.1 *1)) (.int .u8 t51)<|aY r1 2 t49<|aN r55 0 (.string (bV {data:=#[83,84,85,86]} (bU (bT (bR .i64 t51) (bR .i64 ((bR .i64 (bT t4 4))+(1:Int))))) (bU (bR .i64 ((bT (bR .i64 t54) (bR .i64 ((bR .i64 (bT t4 4))+(1:Int))))+(1:Int))))))<|aU r55 1<|aN r55 2 (.string {data:=#[]})<|aN r55 3 (.string {data:=#[]})<|aA r1 3 fun t56=>cQ [] (cond (decide (z47.1< (t56.2.1:Int))) (cL 6 [aI] (cP [aI] [(.int .i64 0)] fun (z59:Int×Unit)=>aA r1 3 fun t60=>deref t60.1 fun a61=>chk (0≤z47.1∧z47.1< (t60.2.1:Nat))<|aC a61 z47.1 1 fun t62=>cond (decide (z59.1< (t62.2.1:Int))) (aA r1 3 fun t63=>deref t63.1 fun a64=>chk (0≤z47.1∧z47.1< (t63.2.1:Nat))<|aC a64 z47.1 1 fun t65=>deref t65.1 fun a66=>chk (0≤z59.1∧z59.1< (t65.2.1:Nat))<|aZ a66 z59.1 1 fun t67=>chk ((bR .i64 ((bR .i64 ((bR .i64 (bT t3 5))+(1:Int)))+(bR .i64 ((bR .i64 (bT t4 4))+(1:Int)))))≠0)<|chk ((5:Int)≠0)<|chk ((5:Int)≠0)<|chk (0≤(bT (bT (bR .i64 t67) (bR .i64 ((bR .i64 ((bR .i64 (bT t3 5))+(1:Int)))+(bR .i64 ((bR .i64 (bT t4 4))+(1:Int)))))) 5)∧(bT (bT (bR .i64 t67) (bR .i64 ((bR .i64 ((bR .i64 (bT t3 5))+(1:Int)))+(bR .i64 ((bR .i64 (bT t4 4))+(1:Int)))))) 5) ≤(bR .i64 ((bT (bT (bR .i64 t67) (bR .i64 ((bR .i64 ((bR .i64 (bT t3 5))+(1:Int)))+(bR .i64 ((bR .i64 (bT t4 4))+(1:Int)))))) 5)+(1:Int)))∧(bR .i64 ((bT (bT (bR .i64 t67) (bR .i64 ((bR .i64 ((bR .i64 (bT t3 5))+(1:Int)))+(bR .i64 ((bR .i64 (bT t4 4))+(1:Int)))))) 5)+(1:Int))) ≤(bY {data:=#[97,98,99,100,101]} :Nat))<|cQ [(.atom .string)] (cond (decide ((bT (bR .i64 t67) (bR .i64 ((bR .i64 ((bR .i64 (bT t3 5))+(1:Int)))+(bR .i64 ((bR .i64 (bT t4 4))+(1:Int)))))) ≥ (bR .i64 ((bR .i64 (bT t3 5))+(1:Int))))) (chk (0≤(bR .i64 ((bT (bR .i64 t67) (bR .i64 ((bR .i64 ((bR .i64 (bT t3 5))+(1:Int)))+(bR .i64 ((bR .i64 (bT t4 4))+(1:Int)))))) - (bR .i64 ((bR .i64 (bT t3 5))+(1:Int)))))∧(bR .i64 ((bT (bR .i64 t67) (bR .i64 ((bR .i64 ((bR .i64 (bT t3 5))+(1:Int)))+(bR .i64 ((bR .i64 (bT t4 4))+(1:Int)))))) - (bR .i64 ((bR .i64 (bT t3 5))+(1:Int))))) ≤(bR .i64 ((bR .i64 ((bT (bR .i64 t67) (bR .i64 ((bR .i64 ((bR .i64 (bT t3 5))+(1:Int)))+(bR .i64 ((bR .i64 (bT t4 4))+(1:Int)))))) - (bR .i64 ((bR .i64 (bT t3 5))+(1:Int)))))+(1:Int)))∧(bR .i64 ((bR .i64 ((bT (bR .i64 t67) (bR .i64 ((bR .i64 ((bR .i64 (bT t3 5))+(1:Int)))+(bR .i64 ((bR .i64 (bT t4 4))+(1:Int)))))) - (bR .i64 ((bR .i64 (bT t3 5))+(1:Int)))))+(1:Int))) ≤(bY {data:=#[83,84,85,86]} :Nat))<|cE [(.string (bV {data:=#[83,84,85,86]} (bU (bR .i64 ((bT (bR .i64 t67) (bR .i64 ((bR .i64 ((bR .i64 (bT t3 5))+(1:Int)))+(bR .i64 ((bR .i64 (bT t4 4))+(1:Int)))))) - (bR .i64 ((bR .i64 (bT t3 5))+(1:Int)))))) (bU (bR .i64 ((bR .i64 ((bT (bR .i64 t67) (bR .i64 ((bR .i64 ((bR .i64 (bT t3 5))+(1:Int)))+(bR .i64 ((bR .i64 (bT t4 4))+(1:Int)))))) - (bR .i64 ((bR .i64 (bT t3 5))+(1:Int)))))+(1:Int))))))]) (cE [(.string (bV {data:=#[97,98,99,100,101]} (bU (bT (bT (bR .i64 t67) (bR .i64 ((bR .i64 ((bR .i64 (bT t3 5))+(1:Int)))+(bR .i64 ((bR .i64 (bT t4 4))+(1:Int)))))) 5)) (bU (bR .i64 ((bT (bT (bR .i64 t67) (bR .i64 ((bR .i64 ((bR .i64 (bT t3 5))+(1:Int)))+(bR .i64 ((bR .i64 (bT t4 4))+(1:Int)))))) 5)+(1:Int))))))])) fun (z68:ByteArray×Unit)=>aA r55 1 fun t69=>aD #[(.string z68.1)] 9 fun r70=>dD (cC #[28,28] 28 #[(sv t69),(.slice (some ⟨r70,0,none⟩) 1 1)]) (.one aS) fun (t71:Slc)=>aF r55 1 t71<|cE [(.int .i64 (wN z59.1))]) (cU 6 [(.int .i64 z59.1)])) fun (z58:Int×Unit)=>cE []) (cE [])) fun (z57:Unit)=>aA r1 4 fun t72=>cQ [] (cond (decide (z47.1< (t72.2.1:Int))) (aA r1 4 fun t74=>deref t74.1 fun a75=>chk (0≤z47.1∧z47.1< (t74.2.1:Nat))<|aZ a75 z47.1 1 fun t76=>aA r5 2 fun t77=>chk ((bR .i64 ((t77.2.1:Int)+(1:Int)))≠0)<|cQ [] (cond (decide ((bT (bR .i64 t76) (bR .i64 ((t77.2.1:Int)+(1:Int)))) >(0:Int))) (chk (0≤(bR .i64 ((bT (bR .i64 t76) (bR .i64 ((t77.2.1:Int)+(1:Int)))) - 1))∧(bR .i64 ((bT (bR .i64 t76) (bR .i64 ((t77.2.1:Int)+(1:Int)))) - 1)) ≤(bT (bR .i64 t76) (bR .i64 ((t77.2.1:Int)+(1:Int))))∧(bT (bR .i64 t76) (bR .i64 ((t77.2.1:Int)+(1:Int)))) ≤(bY {data:=#[112,113,114,115,116]} :Nat))<|aN r55 2 (.string (bV {data:=#[112,113,114,115,116]} (bU (bR .i64 ((bT (bR .i64 t76) (bR .i64 ((t77.2.1:Int)+(1:Int)))) - 1))) (bU (bT (bR .i64 t76) (bR .i64 ((t77.2.1:Int)+(1:Int)))))))<|cE []) (cE [])) fun (z78:Unit)=>cE []) (cE [])) fun (z73:Unit)=>aA r5 4 fun t79=>aV r55 0 fun t80=>aA r55 1 fun t81=>aV r55 2 fun t82=>aV r55 3 fun t83=>aD #[(.string t80),(sv t81),(.string t82),(.string t83)] 172 fun r84=>dD (cC #[105,105] 105 #[(sv t79),(.slice (some ⟨r84,0,none⟩) 1 1)]) (.one aS) fun (t85:Slc)=>aF r5 4 t85<|cE [(.int .i64 (wN z47.1))]) (cU 4 [(.int .i64 z47.1)])) fun (z46:Int×Unit)=>cL 8 [aI] (cP [aI] [(.int .i64 0)] fun (z87:Int×Unit)=>cond (decide (z87.1< (bR .i64 ((bR .i64 (bT t4 4))+(1:Int))))) (chk (0≤z87.1∧z87.1≤(wN z87.1)∧(wN z87.1) ≤(bY {data:=#[83,84,85,86]} :Nat))<|cL 10 [aI,aB] (cP [aI,aB] [(.int .i64 0),(.bool false)] fun (z89:Int×Bool×Unit)=>aA r5 4 fun t90=>cond (decide (z89.1< (t90.2.1:Int))) (cQ [aB] (cond z89.2.1 (cE [(.bool true)]) (aA r5 4 fun t92=>deref t92.1 fun a93=>chk (0≤z89.1∧z89.1< (t92.2.1:Nat))<|aW a93 z89.1 4 fun t94=>cE [(.bool (bX t94==bX (bV {data:=#[83,84,85,86]} (bU z87.1) (bU (wN z87.1)))))])) fun (z91:Bool×Unit)=>cE [(.int .i64 (wN z89.1)),(.bool z91.1)]) (cU 10 [(.int .i64 z89.1),(.bool z89.2.1)])) fun (z88:Int×Bool×Unit)=>cQ [] (cond (!z88.2.1) (aA r5 4 fun t96=>aD #[(.string (bV {data:=#[83,84,85,86]} (bU z87.1) (bU (wN z87.1)))),(.slice none 0 0),(.string {data:=#[]}),(.string {data:=#[]})] 172 fun r97=>dD (cC #[105,105] 105 #[(sv t96),(.slice (some ⟨r97,0,none⟩) 1 1)]) (.one aS) fun (t98:Slc)=>aF r5 4 t98<|cE []) (cE [])) fun (z95:Unit)=>cE [(.int .i64 (wN z87.1))]) (cU 8 [(.int .i64 z87.1)])) fun (z86:Int×Unit)=>aA r5 0 fun t99=>aA r5 1 fun t100=>aA r5 2 fun t101=>aV r5 3 fun t102=>aA r5 4 fun t103=>aF r2 0 t99<|aF r2 1 t100<|aF r2 2 t101<|aN r2 3 (.string t102)<|aF r2 4 t103<|aA r2 0 fun res104=>aA r2 1 fun res105=>aA r2 2 fun res106=>aV r2 3 fun res107=>aA r2 4 fun res108=>cI (.agg #[(sv res104),(sv res105),(sv res106),(.string res107),(sv res108)])
theorem FD (s_0:Int×Int×Slc×Slc×Slc×Slc×Slc×Unit):AZ bW Tryz.f56 [(.agg #[(.int .u8 s_0.1),(.int .u8 s_0.2.1),(sv s_0.2.2.1),(sv s_0.2.2.2.1),(sv s_0.2.2.2.2.1),(sv s_0.2.2.2.2.2.1),(sv s_0.2.2.2.2.2.2.1)])] =DG s_0:=by kernel_rfl
noncomputable def MG (limit_0:Int):T:=cG 124 [(.int .i64 limit_0)] (.one aI) fun (t1:Int)=>aD #[(.int .i64 t1),(.int .i64 0),(.int .i64 0)] 211 fun r2=>cI (.pointer (some ⟨r2,0,none⟩))
theorem Ni (limit_0:Int):AZ bW Tryz.f98 [(.int .i64 limit_0)] =MG limit_0:=by kernel_rfl
noncomputable def HW (kernel_0_p:Option Addr) (kernel_0_n kernel_0_c:Nat) (from_1:Int) (with_2:Int) (c_3:Nat) (c_4:Nat) (c_5:Nat) (c_6:Nat):T:=bA c_3 0 fun t1=>cG 100 [(.slice kernel_0_p kernel_0_n kernel_0_c)] (.one (.atom .string)) fun (t2:ByteArray)=>aO c_3 0 (.map t1)<|dD (Instr.lookup 185 (.map t1) (.string t2) true) (.tuple [aI,aB]) fun (t3:Int×Bool×Unit)=>cond t3.2.1 (cI (.tuple #[(.int .i64 t3.1),(.int .i64 0)])) (aK c_4 0 fun t4=>cG 101 [(.pointer t4),(.slice kernel_0_p kernel_0_n kernel_0_c)] (.one aS) fun (t5:Slc)=>aD #[(.slice none 0 0),(.slice none 0 0),(.slice none 0 0),(.int .i64 0),(.int .i64 0)] 150 fun r6=>aN r6 0 (.slice kernel_0_p kernel_0_n kernel_0_c)<|aF r6 1 t5<|aU r6 2<|aT r6 3 from_1<|aT r6 4 with_2<|aK c_5 0 fun t7=>cG 102 [(.pointer t7),(.int .i64 1)] (.one aI) fun (t8:Int)=>cQ [aI] (cond (t8==(0:Int)) (aK c_6 0 fun t10=>aA r6 1 fun t11=>cG 102 [(.pointer t10),(.int .i64 (t11.2.1:Int))] (.one aI) fun (t12:Int)=>cE [(.int .i64 t12)]) (cE [(.int .i64 t8)])) fun (z9:Int×Unit)=>bA c_3 0 fun t13=>aK c_4 0 fun t14=>deref t14 fun a15=>aL a15 6 fun t16=>cG 100 [(.slice kernel_0_p kernel_0_n kernel_0_c)] (.one (.atom .string)) fun (t17:ByteArray)=>dG (a15.add 6) (sv t16)<|aO c_4 0 (.pointer t14)<|aO c_3 0 (.map t13)<|dD (Sem.bind (gA 185 (.map t13) (.string t17) (.int .i64 (t16.2.1:Int))) fun _=>.pure undef) (.tuple []) fun (u18:Unit)=>aK c_4 0 fun t19=>aK c_4 0 fun t20=>deref t20 fun a21=>aL a21 6 fun t22=>aA r6 0 fun t23=>aA r6 1 fun t24=>aA r6 2 fun t25=>aR r6 3 fun t26=>aR r6 4 fun t27=>aD #[(sv t23),(sv t24),(sv t25),(.int .i64 t26),(.int .i64 t27)] 150 fun r28=>dG (a21.add 6) (sv t22)<|aO c_4 0 (.pointer t20)<|aO c_4 0 (.pointer t19)<|dD (cC #[129,129] 129 #[(sv t22),(.slice (some ⟨r28,0,none⟩) 1 1)]) (.one aS) fun (t29:Slc)=>aO c_4 0 (.pointer t19)<|deref t19 fun a30=>dK (a30.add 6) (sv t29)<|aK c_4 0 fun t31=>deref t31 fun a32=>aL a32 6 fun t33=>cI (.tuple #[(.int .i64 (bR .i64 ((t33.2.1:Int) - 1))),(.int .i64 z9.1)]))
theorem Kb (kernel_0_p:Option Addr) (kernel_0_n kernel_0_c:Nat) (from_1:Int) (with_2:Int) (c_3:Nat) (c_4:Nat) (c_5:Nat) (c_6:Nat):AZ bW Tryz.f99 [(.slice kernel_0_p kernel_0_n kernel_0_c),(.int .i64 from_1),(.int .i64 with_2),(.pointer (some ⟨c_3,0,none⟩)),(.pointer (some ⟨c_4,0,none⟩)),(.pointer (some ⟨c_5,0,none⟩)),(.pointer (some ⟨c_6,0,none⟩))] =HW kernel_0_p kernel_0_n kernel_0_c from_1 with_2 c_3 c_4 c_5 c_6:=by kernel_rfl
noncomputable def Kv (kernel_0_p:Option Addr) (kernel_0_n kernel_0_c:Nat):T:=cL 0 [aI,aS] (cP [aI,aS] [(.int .i64 0),(.slice none 0 0)] fun (z2:Int×Slc×Unit)=>cond (decide (z2.1< ((kernel_0_n:Nat):Int))) (deref kernel_0_p fun a3=>chk (0≤z2.1∧z2.1< (kernel_0_n:Nat))<|aJ a3 z2.1 2 fun t4=>aQ a3 z2.1 2 1 fun t5=>aD #[(.int .i64 0),(.int .i64 0)] 70 fun r6=>aT r6 0 t4<|aT r6 1 t5<|aR r6 0 fun t7=>cG 125 [(sv z2.2.1),(.int .i64 t7),(.int .i64 10)] (.one aS) fun (t8:Slc)=>aD #[(.int .u8 46)] 5 fun r9=>dD (cC #[22,22] 22 #[(sv t8),(.slice (some ⟨r9,0,none⟩) 1 1)]) (.one aS) fun (t10:Slc)=>aR r6 1 fun t11=>cG 125 [(sv t10),(.int .i64 t11),(.int .i64 10)] (.one aS) fun (t12:Slc)=>aD #[(.int .u8 32)] 5 fun r13=>dD (cC #[22,22] 22 #[(sv t12),(.slice (some ⟨r13,0,none⟩) 1 1)]) (.one aS) fun (t14:Slc)=>cE [(.int .i64 (wN z2.1)),(sv t14)]) (cU 0 [(.int .i64 z2.1),(sv z2.2.1)])) fun (z1:Int×Slc×Unit)=>dD (convert 22 9 (sv z1.2.1)) (.one (.atom .string)) fun (t15:ByteArray)=>cI (.string t15)
theorem Mo (kernel_0_p:Option Addr) (kernel_0_n kernel_0_c:Nat):AZ bW Tryz.f100 [(.slice kernel_0_p kernel_0_n kernel_0_c)] =Kv kernel_0_p kernel_0_n kernel_0_c:=by kernel_rfl
noncomputable def GV (m_0:Option Addr) (n_1:Int):T:=cond (decide (n_1< 0)) (cI (.int .i64 1)) (cG 129 [(.pointer m_0)] (.one aI) fun (t1:Int)=>cond (decide (n_1>t1)) (cI (.int .i64 5)) (deref m_0 fun a2=>bB a2 1 fun t3=>deref m_0 fun a4=>dK (a4.add 1) (.int .i64 (bR .i64 (t3+n_1)))<|deref m_0 fun a5=>bB a5 2 fun t6=>deref m_0 fun a7=>bB a7 1 fun t8=>deref m_0 fun a9=>dK (a9.add 2) (.int .i64 (if t8>t6 then t8 else t6))<|cI (.int .i64 0)))
theorem JC (m_0:Option Addr) (n_1:Int):AZ bW Tryz.f102 [(.pointer m_0),(.int .i64 n_1)] =GV m_0 n_1:=by kernel_rfl
noncomputable def GW (m_0:Option Addr):T:=deref m_0 fun a1=>bB a1 1 fun t2=>cI (.int .i64 t2)
theorem JD (m_0:Option Addr):AZ bW Tryz.f105 [(.pointer m_0)] =GW m_0:=by kernel_rfl
noncomputable def GX (m_0:Option Addr):T:=deref m_0 fun a1=>bE a1 fun t2=>deref m_0 fun a3=>bB a3 1 fun t4=>cI (.int .i64 (bR .i64 (t2 - t4)))
theorem JE (m_0:Option Addr):AZ bW Tryz.f129 [(.pointer m_0)] =GX m_0:=by kernel_rfl
noncomputable def Kw (n_0:Int):T:=cI (.int .i64 (if (if 1099511627776 <n_0 then 1099511627776 else n_0) >(0:Int) then (if 1099511627776 <n_0 then 1099511627776 else n_0) else 0))
theorem Mp (n_0:Int):AZ bW Tryz.f124 [(.int .i64 n_0)] =Kw n_0:=by kernel_rfl
noncomputable def FR (g_0:Slc×Slc×Slc×ByteArray×Slc×Unit):T:=aD #[(sv g_0.1),(sv g_0.2.1),(sv g_0.2.2.1),(.string g_0.2.2.2.1),(sv g_0.2.2.2.2.1)] 107 fun r1=>cQ [aB] (aA r1 0 fun t3=>cond (decide ((t3.2.1:Int) >(20:Int))) (cE [(.bool true)]) (aA r1 1 fun t4=>cond (decide ((t4.2.1:Int) >(4:Int))) (cE [(.bool true)]) (aA r1 2 fun t5=>cond (decide ((t5.2.1:Int) >(10:Int))) (cE [(.bool true)]) (aA r1 4 fun t6=>cond (decide ((t6.2.1:Int) < 1)) (cE [(.bool true)]) (aA r1 4 fun t7=>cond (decide ((t7.2.1:Int) >(40:Int))) (cE [(.bool true)]) (aV r1 3 fun t8=>cG 120 [(.string t8)] (.one aB) fun (t9:Bool)=>cE [(.bool (!t9))])))))) fun (z2:Bool×Unit)=>cond z2.1 (cI (.bool false)) (cL 0 [aI,aS,aB] (cP [aI,aS,aB] [(.int .i64 0),(.slice none 0 0),(.bool false)] fun (z11:Int×Slc×Bool×Unit)=>aA r1 0 fun t12=>cond (decide (z11.1< (t12.2.1:Int))) (aA r1 0 fun t13=>deref t13.1 fun a14=>chk (0≤z11.1∧z11.1< (t13.2.1:Nat))<|aW a14 z11.1 4 fun t15=>aD #[(.string t15)] 9 fun r16=>dD (cC #[28,28] 28 #[(sv z11.2.1),(.slice (some ⟨r16,0,none⟩) 1 1)]) (.one aS) fun (t17:Slc)=>aA r1 0 fun t18=>deref t18.1 fun a19=>chk (0≤z11.1∧z11.1< (t18.2.1:Nat))<|aX a19 z11.1 4 1 fun t20=>bF (((a19.add (bU z11.1 *4)).add 1).add 1) fun t21=>bG (((a19.add (bU z11.1 *4)).add 1).add 2) fun t22=>cG 121 [(.agg #[(.string t20),(.string t21),(.bool t22)])] (.one aB) fun (t23:Bool)=>cond (!t23) (cI (.bool false)) (cE [(.int .i64 (wN z11.1)),(sv t17),(.bool z11.2.2.1)])) (cU 0 [(.int .i64 z11.1),(sv z11.2.1),(.bool z11.2.2.1)])) fun (z10:Int×Slc×Bool×Unit)=>cL 2 [aI,aB] (cP [aI,aB] [(.int .i64 0),(.bool z10.2.2.1)] fun (z25:Int×Bool×Unit)=>aA r1 1 fun t26=>cond (decide (z25.1< (t26.2.1:Int))) (aA r1 1 fun t27=>deref t27.1 fun a28=>chk (0≤z25.1∧z25.1< (t27.2.1:Nat))<|aW a28 z25.1 3 fun t29=>aX a28 z25.1 3 1 fun t30=>bH a28 z25.1 3 2 fun t31=>cG 121 [(.agg #[(.string t29),(.string t30),(.bool t31)])] (.one aB) fun (t32:Bool)=>cond (!t32) (cI (.bool false)) (cE [(.int .i64 (wN z25.1)),(.bool z25.2.1)])) (cU 2 [(.int .i64 z25.1),(.bool z25.2.1)])) fun (z24:Int×Bool×Unit)=>cL 4 [aI,aS,aB] (cP [aI,aS,aB] [(.int .i64 0),(.slice none 0 0),(.bool z24.2.1)] fun (z34:Int×Slc×Bool×Unit)=>aA r1 2 fun t35=>cond (decide (z34.1< (t35.2.1:Int))) (aA r1 2 fun t36=>deref t36.1 fun a37=>chk (0≤z34.1∧z34.1< (t36.2.1:Nat))<|aJ a37 z34.1 2 fun t38=>aM a37 z34.1 2 1 fun t39=>aD #[(.int .i64 0),(.slice none 0 0)] 179 fun r40=>aT r40 0 t38<|aF r40 1 t39<|aA r40 1 fun t41=>dD (cC #[28,28] 28 #[(sv z34.2.1),(sv t41)]) (.one aS) fun (t42:Slc)=>cQ [aB] (aR r40 0 fun t44=>cond (decide (t44< 1)) (cE [(.bool true)]) (aR r40 0 fun t45=>cond (decide (t45>(3:Int))) (cE [(.bool true)]) (aA r40 1 fun t46=>cE [(.bool ((t46.2.1:Int)==(0:Int)))]))) fun (z43:Bool×Unit)=>cond z43.1 (cI (.bool false)) (cE [(.int .i64 (wN z34.1)),(sv t42),(.bool z34.2.2.1)])) (cU 4 [(.int .i64 z34.1),(sv z34.2.1),(.bool z34.2.2.1)])) fun (z33:Int×Slc×Bool×Unit)=>cL 6 [aI,aB] (cP [aI,aB] [(.int .i64 0),(.bool z33.2.2.1)] fun (z48:Int×Bool×Unit)=>aA r1 4 fun t49=>cond (decide (z48.1< (t49.2.1:Int))) (aA r1 4 fun t50=>deref t50.1 fun a51=>chk (0≤z48.1∧z48.1< (t50.2.1:Nat))<|aW a51 z48.1 4 fun t52=>aM a51 z48.1 4 1 fun t53=>aX a51 z48.1 4 2 fun t54=>aX a51 z48.1 4 3 fun t55=>aD #[(.string {data:=#[]}),(.slice none 0 0),(.string {data:=#[]}),(.string {data:=#[]})] 172 fun r56=>aN r56 0 (.string t52)<|aF r56 1 t53<|aN r56 2 (.string t54)<|aN r56 3 (.string t55)<|cQ [aB] (aV r56 0 fun t58=>cG 120 [(.string t58)] (.one aB) fun (t59:Bool)=>cond (!t59) (cE [(.bool true)]) (aA r56 1 fun t60=>cond (decide ((t60.2.1:Int) >(8:Int))) (cE [(.bool true)]) (aV r56 2 fun t61=>cond (!(bX t61==bX {data:=#[]})) (aV r56 2 fun t62=>cG 120 [(.string t62)] (.one aB) fun (t63:Bool)=>cond (!t63) (cE [(.bool true)]) (aV r56 3 fun t64=>cG 122 [(.string t64)] (.one aB) fun (t65:Bool)=>cE [(.bool (!t65))])) (aV r56 3 fun t66=>cG 122 [(.string t66)] (.one aB) fun (t67:Bool)=>cE [(.bool (!t67))])))) fun (z57:Bool×Unit)=>cond z57.1 (cI (.bool false)) (cL 8 [aI,aB] (cP [aI,aB] [(.int .i64 0),(.bool z48.2.1)] fun (z69:Int×Bool×Unit)=>aA r56 1 fun t70=>cond (decide (z69.1< (t70.2.1:Int))) (aA r56 1 fun t71=>deref t71.1 fun a72=>chk (0≤z69.1∧z69.1< (t71.2.1:Nat))<|aW a72 z69.1 1 fun t73=>cG 120 [(.string t73)] (.one aB) fun (t74:Bool)=>cond (!t74) (cI (.bool false)) (cE [(.int .i64 (wN z69.1)),(.bool z69.2.1)])) (cU 8 [(.int .i64 z69.1),(.bool z69.2.1)])) fun (z68:Int×Bool×Unit)=>cE [(.int .i64 (wN z48.1)),(.bool z68.2.1)])) (cU 6 [(.int .i64 z48.1),(.bool z48.2.1)])) fun (z47:Int×Bool×Unit)=>cQ [aB] (cG 123 [(sv z10.2.1)] (.one aB) fun (t76:Bool)=>cond t76 (cG 123 [(sv z33.2.1)] (.one aB) fun (t77:Bool)=>cE [(.bool t77)]) (cE [(.bool false)])) fun (z75:Bool×Unit)=>cI (.bool z75.1))
theorem H5 (g_0:Slc×Slc×Slc×ByteArray×Slc×Unit):AZ bW Tryz.f92 [(.agg #[(sv g_0.1),(sv g_0.2.1),(sv g_0.2.2.1),(.string g_0.2.2.2.1),(sv g_0.2.2.2.2.1)])] =FR g_0:=by kernel_rfl
noncomputable def Db (l_0_p:Option Addr) (l_0_n l_0_c:Nat) (s_1:ByteArray):T:=cL 0 [aI,aI] (cP [aI,aI] [(.int .i64 0),(.int .i64 0)] fun (z2:Int×Int×Unit)=>cond (decide (z2.1< ((l_0_n:Nat):Int))) (deref l_0_p fun a3=>chk (0≤z2.1∧z2.1< (l_0_n:Nat))<|aW a3 z2.1 1 fun t4=>cond (bX t4==bX s_1) (cI (.int .i64 z2.1)) (cE [(.int .i64 (wN z2.1)),(.int .i64 z2.2.1)])) (cU 0 [(.int .i64 z2.1),(.int .i64 z2.2.1)])) fun (z1:Int×Int×Unit)=>cI (.int .i64 (-1:Int))
theorem Ee (l_0_p:Option Addr) (l_0_n l_0_c:Nat) (s_1:ByteArray):AZ bW Tryz.f93 [(.slice l_0_p l_0_n l_0_c),(.string s_1)] =Db l_0_p l_0_n l_0_c s_1:=by kernel_rfl
noncomputable def FS (g_0:Slc×Slc×Slc×ByteArray×Slc×Unit) (name_1:ByteArray):T:=aD #[(sv g_0.1),(sv g_0.2.1),(sv g_0.2.2.1),(.string g_0.2.2.2.1),(sv g_0.2.2.2.2.1)] 107 fun r1=>cL 0 [aI,aI] (cP [aI,aI] [(.int .i64 0),(.int .i64 0)] fun (z3:Int×Int×Unit)=>aA r1 2 fun t4=>cond (decide (z3.1< (t4.2.1:Int))) (aA r1 2 fun t5=>deref t5.1 fun a6=>chk (0≤z3.1∧z3.1< (t5.2.1:Nat))<|aM a6 z3.1 2 1 fun t7=>cG 93 [(sv t7),(.string name_1)] (.one aI) fun (t8:Int)=>cond (decide (t8≥ 0)) (cI (.int .i64 (wN z3.1))) (cE [(.int .i64 (wN z3.1)),(.int .i64 z3.2.1)])) (cU 0 [(.int .i64 z3.1),(.int .i64 z3.2.1)])) fun (z2:Int×Int×Unit)=>cI (.int .i64 0)
theorem H6 (g_0:Slc×Slc×Slc×ByteArray×Slc×Unit) (name_1:ByteArray):AZ bW Tryz.f94 [(.agg #[(sv g_0.1),(sv g_0.2.1),(sv g_0.2.2.1),(.string g_0.2.2.2.1),(sv g_0.2.2.2.2.1)]),(.string name_1)] =FS g_0 name_1:=by kernel_rfl
noncomputable def GY (p_0:Pl6) (name_1:ByteArray):T:=aD #[(sv p_0.1),(sv p_0.2.1),(sv p_0.2.2.1),(sv p_0.2.2.2.1),(sv p_0.2.2.2.2.1),(sv p_0.2.2.2.2.2.1)] 32 fun r1=>aA r1 0 fun t2=>cG 93 [(sv t2),(.string name_1)] (.one aI) fun (t3:Int)=>cond (decide (t3≥ 0)) (cI (.int .i64 t3)) (aA r1 1 fun t4=>cG 93 [(sv t4),(.string name_1)] (.one aI) fun (t5:Int)=>cond (decide (t5≥ 0)) (aA r1 0 fun t6=>cI (.int .i64 (bR .i64 ((t6.2.1:Int)+t5)))) (cI (.int .i64 (-1:Int))))
theorem JF (p_0:Pl6) (name_1:ByteArray):AZ bW Tryz.f95 [(aG p_0),(.string name_1)] =GY p_0 name_1:=by kernel_rfl
noncomputable def Kx (p_0:Pl6) (sym_1:Int):T:=aD #[(sv p_0.1),(sv p_0.2.1),(sv p_0.2.2.1),(sv p_0.2.2.2.1),(sv p_0.2.2.2.2.1),(sv p_0.2.2.2.2.2.1)] 32 fun r1=>cQ [aB] (cond (decide (sym_1≥ 0)) (aA r1 0 fun t3=>cE [(.bool (decide (sym_1< (t3.2.1:Int))))]) (cE [(.bool false)])) fun (z2:Bool×Unit)=>cI (.bool z2.1)
theorem Mq (p_0:Pl6) (sym_1:Int):AZ bW Tryz.f86 [(aG p_0),(.int .i64 sym_1)] =Kx p_0 sym_1:=by kernel_rfl
noncomputable def Bh (s_0_p:Option Addr) (s_0_n s_0_c:Nat) (v_1:Int×Int×Unit):T:=aD #[(.int .i64 v_1.1),(.int .i64 v_1.2.1)] 70 fun r1=>aR r1 0 fun t2=>aR r1 1 fun t3=>cG 151 [(.slice s_0_p s_0_n s_0_c),(.agg #[(.int .i64 t2),(.int .i64 t3)])] (.one aI) fun (t4:Int)=>cI (.bool (decide (t4≥ 0)))
theorem CT (s_0_p:Option Addr) (s_0_n s_0_c:Nat) (v_1:Int×Int×Unit):AZ bW Tryz.f115 [(.slice s_0_p s_0_n s_0_c),(.agg #[(.int .i64 v_1.1),(.int .i64 v_1.2.1)])] =Bh s_0_p s_0_n s_0_c v_1:=by kernel_rfl
noncomputable def Fv (s_0:ByteArray):T:=cQ [aB] (cond (decide (((bY s_0:Nat):Int) ≤(32:Int))) (cG 153 [(.string s_0)] (.one aB) fun (t2:Bool)=>cE [(.bool t2)]) (cE [(.bool false)])) fun (z1:Bool×Unit)=>cI (.bool z1.1)
theorem Ih (s_0:ByteArray):AZ bW Tryz.f120 [(.string s_0)] =Fv s_0:=by kernel_rfl
noncomputable def Ef (p_0:ByteArray×ByteArray×Bool×Unit):T:=aD #[(.string p_0.1),(.string p_0.2.1),(.bool p_0.2.2.1)] 174 fun r1=>aV r1 0 fun t2=>cond (!(bX t2==bX {data:=#[]})) (cQ [aB] (aV r1 0 fun t4=>cond (decide (((bY t4:Nat):Int) ≤(32:Int))) (aV r1 1 fun t5=>cond (bX t5==bX {data:=#[]}) (bI r1 2 fun t6=>cE [(.bool (!t6))]) (cE [(.bool false)])) (cE [(.bool false)])) fun (z3:Bool×Unit)=>cI (.bool z3.1)) (cL 0 [aI,aB] (cP [aI,aB] [(.int .i64 1),(.bool false)] fun (z8:Int×Bool×Unit)=>aV r1 1 fun t9=>cond (decide (z8.1< ((bY t9:Nat):Int))) (aV r1 1 fun t10=>chk (0≤z8.1∧z8.1< (bY t10:Nat))<|aV r1 1 fun t11=>chk (0≤(bR .i64 (z8.1 - 1))∧(bR .i64 (z8.1 - 1)) < (bY t11:Nat))<|cond (decide (((cV (EH t10 (bU z8.1)):Nat):Int) ≤((cV (EH t11 (bU (bR .i64 (z8.1 - 1)))):Nat):Int))) (cI (.bool false)) (cE [(.int .i64 (wN z8.1)),(.bool z8.2.1)])) (cU 0 [(.int .i64 z8.1),(.bool z8.2.1)])) fun (z7:Int×Bool×Unit)=>aV r1 1 fun t12=>cI (.bool (!(bX t12==bX {data:=#[]}))))
theorem HJ (p_0:ByteArray×ByteArray×Bool×Unit):AZ bW Tryz.f121 [(.agg #[(.string p_0.1),(.string p_0.2.1),(.bool p_0.2.2.1)])] =Ef p_0:=by kernel_rfl
noncomputable def Ey (s_0:ByteArray):T:=cond (decide (((bY s_0:Nat):Int) >(200:Int))) (cI (.bool false)) (cL 0 [aI,aI,aB] (cP [aI,aI,aB] [(.int .i64 0),(.int .i64 1),(.bool false)] fun (z2:Int×Int×Bool×Unit)=>cond (decide (z2.1< ((bY s_0:Nat):Int))) (chk (0≤z2.1∧z2.1< (bY s_0:Nat))<|cQ [aI] (cond (((cV (EH s_0 (bU z2.1)):Nat):Int)==(123:Int)) (cE [(.int .i64 (wN z2.2.1))]) (cE [(.int .i64 z2.2.1)])) fun (z3:Int×Unit)=>chk (0≤z2.1∧z2.1< (bY s_0:Nat))<|cQ [aI] (cond (((cV (EH s_0 (bU z2.1)):Nat):Int)==(125:Int)) (cE [(.int .i64 (bR .i64 (z3.1 - 1)))]) (cE [(.int .i64 z3.1)])) fun (z4:Int×Unit)=>cQ [aB] (cond (decide (z4.1>(4:Int))) (cE [(.bool true)]) (cE [(.bool (z4.1==(0:Int)))])) fun (z5:Bool×Unit)=>cond z5.1 (cI (.bool false)) (cE [(.int .i64 (wN z2.1)),(.int .i64 z4.1),(.bool z2.2.2.1)])) (cU 0 [(.int .i64 z2.1),(.int .i64 z2.2.1),(.bool z2.2.2.1)])) fun (z1:Int×Int×Bool×Unit)=>cI (.bool (z1.2.1==(1:Int))))
theorem HX (s_0:ByteArray):AZ bW Tryz.f122 [(.string s_0)] =Ey s_0:=by kernel_rfl
noncomputable def Fx (l_0_p:Option Addr) (l_0_n l_0_c:Nat):T:=cL 0 [aI,aB] (cP [aI,aB] [(.int .i64 0),(.bool false)] fun (z2:Int×Bool×Unit)=>cond (decide (z2.1< ((l_0_n:Nat):Int))) (deref l_0_p fun a3=>chk (0≤z2.1∧z2.1< (l_0_n:Nat))<|aW a3 z2.1 1 fun t4=>cG 120 [(.string t4)] (.one aB) fun (t5:Bool)=>cond (!t5) (cI (.bool false)) (cL 2 [aI,aB] (cP [aI,aB] [(.int .i64 0),(.bool z2.2.1)] fun (z7:Int×Bool×Unit)=>cond (decide (z7.1<z2.1)) (deref l_0_p fun a8=>chk (0≤z7.1∧z7.1< (l_0_n:Nat))<|aW a8 z7.1 1 fun t9=>deref l_0_p fun a10=>chk (0≤z2.1∧z2.1< (l_0_n:Nat))<|aW a10 z2.1 1 fun t11=>cond (bX t9==bX t11) (cI (.bool false)) (cE [(.int .i64 (wN z7.1)),(.bool z7.2.1)])) (cU 2 [(.int .i64 z7.1),(.bool z7.2.1)])) fun (z6:Int×Bool×Unit)=>cE [(.int .i64 (wN z2.1)),(.bool z6.2.1)])) (cU 0 [(.int .i64 z2.1),(.bool z2.2.1)])) fun (z1:Int×Bool×Unit)=>cI (.bool true)
theorem Ii (l_0_p:Option Addr) (l_0_n l_0_c:Nat):AZ bW Tryz.f123 [(.slice l_0_p l_0_n l_0_c)] =Fx l_0_p l_0_n l_0_c:=by kernel_rfl
noncomputable def Bv (s_0_p:Option Addr) (s_0_n s_0_c:Nat) (v_1:Int×Int×Unit):T:=aD #[(.int .i64 v_1.1),(.int .i64 v_1.2.1)] 70 fun r1=>cL 0 [aI,aI] (cP [aI,aI] [(.int .i64 0),(.int .i64 0)] fun (z3:Int×Int×Unit)=>cond (decide (z3.1< ((s_0_n:Nat):Int))) (aR r1 0 fun t4=>aR r1 1 fun t5=>deref s_0_p fun a6=>chk (0≤z3.1∧z3.1< (s_0_n:Nat))<|aJ a6 z3.1 2 fun t7=>aQ a6 z3.1 2 1 fun t8=>cond ((t4==t7) && ((t5==t8) && true)) (cI (.int .i64 z3.1)) (cE [(.int .i64 (wN z3.1)),(.int .i64 z3.2.1)])) (cU 0 [(.int .i64 z3.1),(.int .i64 z3.2.1)])) fun (z2:Int×Int×Unit)=>cI (.int .i64 (-1:Int))
theorem Cf (s_0_p:Option Addr) (s_0_n s_0_c:Nat) (v_1:Int×Int×Unit):AZ bW Tryz.f151 [(.slice s_0_p s_0_n s_0_c),(.agg #[(.int .i64 v_1.1),(.int .i64 v_1.2.1)])] =Bv s_0_p s_0_n s_0_c v_1:=by kernel_rfl
noncomputable def Fy (s_0:ByteArray):T:=cL 0 [aI,aB] (cP [aI,aB] [(.int .i64 0),(.bool false)] fun (z2:Int×Bool×Unit)=>cond (decide (z2.1< ((bY s_0:Nat):Int))) (cQ [aB] (chk (0≤z2.1∧z2.1< (bY s_0:Nat))<|cG 167 [(.int .u8 ((cV (EH s_0 (bU z2.1)):Nat):Int))] (.one aB) fun (t4:Bool)=>cond (!t4) (cond (z2.1==(0:Int)) (cE [(.bool true)]) (chk (0≤z2.1∧z2.1< (bY s_0:Nat))<|cG 168 [(.int .u8 ((cV (EH s_0 (bU z2.1)):Nat):Int))] (.one aB) fun (t5:Bool)=>cE [(.bool (!t5))])) (cE [(.bool false)])) fun (z3:Bool×Unit)=>cond z3.1 (cI (.bool false)) (cE [(.int .i64 (wN z2.1)),(.bool z2.2.1)])) (cU 0 [(.int .i64 z2.1),(.bool z2.2.1)])) fun (z1:Int×Bool×Unit)=>cI (.bool (!(bX s_0==bX {data:=#[]})))
theorem Ij (s_0:ByteArray):AZ bW Tryz.f153 [(.string s_0)] =Fy s_0:=by kernel_rfl
noncomputable def Ez (c_0:Int):T:=cQ [aB] (cond (c_0==(95:Int)) (cE [(.bool true)]) (cond (decide (c_0≥ 97)) (cond (decide (c_0≤(122:Int))) (cE [(.bool true)]) (cond (decide (c_0≥ 65)) (cE [(.bool (decide (c_0≤(90:Int))))]) (cE [(.bool false)]))) (cond (decide (c_0≥ 65)) (cE [(.bool (decide (c_0≤(90:Int))))]) (cE [(.bool false)])))) fun (z1:Bool×Unit)=>cI (.bool z1.1)
theorem HY (c_0:Int):AZ bW Tryz.f167 [(.int .u8 c_0)] =Ez c_0:=by kernel_rfl
noncomputable def FT (c_0:Int):T:=cQ [aB] (cond (decide (c_0≥ 48)) (cE [(.bool (decide (c_0≤(57:Int))))]) (cE [(.bool false)])) fun (z1:Bool×Unit)=>cI (.bool z1.1)
theorem H7 (c_0:Int):AZ bW Tryz.f168 [(.int .u8 c_0)] =FT c_0:=by kernel_rfl
noncomputable def HZ (s_0:Option Addr) (i_1:Int):T:=cQ [aB] (cG 162 [(.pointer s_0),(.int .i64 i_1)] (.one aB) fun (t2:Bool)=>cond (!t2) (cE [(.bool true)]) (cG 163 [(.pointer s_0),(.int .i64 i_1)] (.one aB) fun (t3:Bool)=>cE [(.bool t3)])) fun (z1:Bool×Unit)=>cond z1.1 (cI (.bool false)) (deref s_0 fun a4=>aL a4 1 fun t5=>chk ((64:Int)≠0)<|deref t5.1 fun a6=>chk (0≤(bR .i64 (dN i_1 64))∧(bR .i64 (dN i_1 64)) < (t5.2.1:Nat))<|cY (.int .u64) (a6.add (bU (bR .i64 (dN i_1 64)) *1)) fun (t7:Int)=>chk ((64:Int)≠0)<|chk (0≤(bT i_1 64))<|deref t5.1 fun a8=>chk (0≤(bR .i64 (dN i_1 64))∧(bR .i64 (dN i_1 64)) < (t5.2.1:Nat))<|dK (a8.add (bU (bR .i64 (dN i_1 64)) *1)) (.int .u64 (bR .u64 (dX (dH (cS .u64) t7 ||| (dH (cS .u64) (bR .u64 (1 *2 ^ (min (bU (bT i_1 64)) (cS .u64)))))):Nat)))<|cI (.bool true))
theorem Kc (s_0:Option Addr) (i_1:Int):AZ bW Tryz.f134 [(.pointer s_0),(.int .i64 i_1)] =HZ s_0 i_1:=by kernel_rfl
noncomputable def Gy (s_0:Option Addr):T:=cG 114 [(.pointer s_0)] (.one (.atom .func)) fun (t1:Option (Fn×Array Value×Array Value))=>cG 113 [(gF .func t1)] (.one aS) fun (t2:Slc)=>cI (sv t2)
theorem J1 (s_0:Option Addr):AZ bW Tryz.f70 [(.pointer s_0)] =Gy s_0:=by kernel_rfl
noncomputable def Gz (s_0:Option Addr):T:=deref s_0 fun a1=>aL a1 1 fun t2=>cG 148 [(sv t2)] (.one aS) fun (t3:Slc)=>aD #[(.slice none 0 0)] 235 fun r4=>aF r4 0 t3<|cI (.func (.func 149) #[] #[(.pointer (some ⟨r4,0,none⟩))])
theorem J2 (s_0:Option Addr):AZ bW Tryz.f114 [(.pointer s_0)] =Gz s_0:=by kernel_rfl
noncomputable def Kz (n_0:Int):T:=chk ((64:Int)≠0)<|dD (gB 235 (.int .i64 (bR .i64 (dN (bR .i64 ((bR .i64 ((if (if 1000 <n_0 then 1000 else n_0) >(0:Int) then (if 1000 <n_0 then 1000 else n_0) else 0)+(64:Int))) - 1)) 64))) (.int .i64 (bR .i64 (dN (bR .i64 ((bR .i64 ((if (if 1000 <n_0 then 1000 else n_0) >(0:Int) then (if 1000 <n_0 then 1000 else n_0) else 0)+(64:Int))) - 1)) 64)))) (.one aS) fun (t1:Slc)=>aD #[(.int .i64 (if (if 1000 <n_0 then 1000 else n_0) >(0:Int) then (if 1000 <n_0 then 1000 else n_0) else 0)),(sv t1)] 239 fun r2=>cI (.pointer (some ⟨r2,0,none⟩))
theorem Mr (n_0:Int):AZ bW Tryz.f138 [(.int .i64 n_0)] =Kz n_0:=by kernel_rfl
noncomputable def MH (n_0:Int) (l_1_p:Option Addr) (l_1_n l_1_c:Nat):T:=cG 138 [(.int .i64 n_0)] (.one aP) fun (t1:Option Addr)=>cL 0 [aI] (cP [aI] [(.int .i64 0)] fun (z3:Int×Unit)=>cond (decide (z3.1< ((l_1_n:Nat):Int))) (deref l_1_p fun a4=>chk (0≤z3.1∧z3.1< (l_1_n:Nat))<|aJ a4 z3.1 1 fun t5=>cG 134 [(.pointer t1),(.int .i64 t5)] (.one aB) fun (t6:Bool)=>cE [(.int .i64 (wN z3.1))]) (cU 0 [(.int .i64 z3.1)])) fun (z2:Int×Unit)=>cI (.pointer t1)
theorem Nj (n_0:Int) (l_1_p:Option Addr) (l_1_n l_1_c:Nat):AZ bW Tryz.f140 [(.int .i64 n_0),(.slice l_1_p l_1_n l_1_c)] =MH n_0 l_1_p l_1_n l_1_c:=by kernel_rfl
noncomputable def GZ (s_0:Option Addr):T:=deref s_0 fun a1=>bE a1 fun t2=>cI (.int .i64 t2)
theorem JG (s_0:Option Addr):AZ bW Tryz.f141 [(.pointer s_0)] =GZ s_0:=by kernel_rfl
noncomputable def G0 (s_0:Option Addr):T:=deref s_0 fun a1=>bE a1 fun t2=>deref s_0 fun a3=>aL a3 1 fun t4=>cG 148 [(sv t4)] (.one aS) fun (t5:Slc)=>dG a1 (.int .i64 t2)<|aD #[(.int .i64 t2),(sv t5)] 239 fun r6=>cI (.pointer (some ⟨r6,0,none⟩))
theorem J3 (s_0:Option Addr):AZ bW Tryz.f145 [(.pointer s_0)] =G0 s_0:=by kernel_rfl
noncomputable def IX (s_0:Option Addr) (i_1:Int):T:=cQ [aB] (cond (decide (i_1≥ 0)) (deref s_0 fun a2=>bE a2 fun t3=>cE [(.bool (decide (i_1<t3)))]) (cE [(.bool false)])) fun (z1:Bool×Unit)=>cI (.bool z1.1)
theorem K0 (s_0:Option Addr) (i_1:Int):AZ bW Tryz.f162 [(.pointer s_0),(.int .i64 i_1)] =IX s_0 i_1:=by kernel_rfl
noncomputable def Ha (s_0:Option Addr) (i_1:Int):T:=cQ [aB] (cG 162 [(.pointer s_0),(.int .i64 i_1)] (.one aB) fun (t2:Bool)=>cond t2 (deref s_0 fun a3=>aL a3 1 fun t4=>chk ((64:Int)≠0)<|deref t4.1 fun a5=>chk (0≤(bR .i64 (dN i_1 64))∧(bR .i64 (dN i_1 64)) < (t4.2.1:Nat))<|cY (.int .u64) (a5.add (bU (bR .i64 (dN i_1 64)) *1)) fun (t6:Int)=>chk ((64:Int)≠0)<|chk (0≤(bT i_1 64))<|cE [(.bool ((bR .u64 (dX (dH (cS .u64) (gC t6 (2 ^ (min (bU (bT i_1 64)) (cS .u64)))) &&& (dH (cS .u64) 1)):Nat))==(1:Int)))]) (cE [(.bool false)])) fun (z1:Bool×Unit)=>cI (.bool z1.1)
theorem Kd (s_0:Option Addr) (i_1:Int):AZ bW Tryz.f163 [(.pointer s_0),(.int .i64 i_1)] =Ha s_0 i_1:=by kernel_rfl
noncomputable def Eg (s_0_p:Option Addr) (s_0_n s_0_c:Nat):T:=cond (eC s_0_p) (cI (.slice none 0 0)) (aD #[] 3 fun r1=>dD (cC #[30,30] 30 #[(.slice (some ⟨r1,0,none⟩) 0 0),(.slice s_0_p s_0_n s_0_c)]) (.one aS) fun (t2:Slc)=>cI (sv t2))
theorem HL (s_0_p:Option Addr) (s_0_n s_0_c:Nat):AZ bW Tryz.f84 [(.slice s_0_p s_0_n s_0_c)] =Eg s_0_p s_0_n s_0_c:=by kernel_rfl
noncomputable def DH (s_0_p:Option Addr) (s_0_n s_0_c:Nat):T:=cond (eC s_0_p) (cI (.slice none 0 0)) (aD #[] 237 fun r1=>dD (cC #[235,235] 235 #[(.slice (some ⟨r1,0,none⟩) 0 0),(.slice s_0_p s_0_n s_0_c)]) (.one aS) fun (t2:Slc)=>cI (sv t2))
theorem FE (s_0_p:Option Addr) (s_0_n s_0_c:Nat):AZ bW Tryz.f148 [(.slice s_0_p s_0_n s_0_c)] =DH s_0_p s_0_n s_0_c:=by kernel_rfl
noncomputable def IY (edges_0_p:Option Addr) (edges_0_n edges_0_c:Nat) (base_1_p:Option Addr) (base_1_n base_1_c:Nat):T:=cL 0 [aI,aI] (cP [aI,aI] [(.int .i64 0),(.int .i64 0)] fun (z2:Int×Int×Unit)=>cond (decide (z2.1< ((base_1_n:Nat):Int))) (deref base_1_p fun a3=>chk (0≤z2.1∧z2.1< (base_1_n:Nat))<|bJ a3 z2.1 1 fun t4=>cG 141 [(.pointer t4)] (.one aI) fun (t5:Int)=>cE [(.int .i64 (wN z2.1)),(.int .i64 (if t5>z2.2.1 then t5 else z2.2.1))]) (cU 0 [(.int .i64 z2.1),(.int .i64 z2.2.1)])) fun (z1:Int×Int×Unit)=>aD #[(.slice none 0 0)] 195 fun r6=>cL 2 [aI] (cP [aI] [(.int .i64 0)] fun (z8:Int×Unit)=>cond (decide (z8.1< ((base_1_n:Nat):Int))) (deref base_1_p fun a9=>chk (0≤z8.1∧z8.1< (base_1_n:Nat))<|bJ a9 z8.1 1 fun t10=>aA r6 0 fun t11=>cG 70 [(.pointer t10)] (.one aS) fun (t12:Slc)=>aY r6 0 t11<|cG 140 [(.int .i64 z1.2.1),(sv t12)] (.one aP) fun (t13:Option Addr)=>aY r6 0 t11<|aD #[(.pointer t13)] 139 fun r14=>aY r6 0 t11<|dD (cC #[195,195] 195 #[(sv t11),(.slice (some ⟨r14,0,none⟩) 1 1)]) (.one aS) fun (t15:Slc)=>aF r6 0 t15<|cE [(.int .i64 (wN z8.1))]) (cU 2 [(.int .i64 z8.1)])) fun (z7:Int×Unit)=>cG 143 [(.slice edges_0_p edges_0_n edges_0_c),(.int .i64 ((base_1_n:Nat):Int)),(.func (.func 142) #[] #[(.pointer (some ⟨r6,0,none⟩))]),(.func (.func 144) #[] #[(.pointer (some ⟨r6,0,none⟩))])] (.tuple []) fun (t16:Unit)=>cL 4 [aI,aS] (cP [aI,aS] [(.int .i64 0),(.slice none 0 0)] fun (z18:Int×Slc×Unit)=>cond (decide (z18.1< ((base_1_n:Nat):Int))) (deref base_1_p fun a19=>chk (0≤z18.1∧z18.1< (base_1_n:Nat))<|bJ a19 z18.1 1 fun t20=>aA r6 0 fun t21=>deref t21.1 fun a22=>chk (0≤z18.1∧z18.1< (t21.2.1:Nat))<|bJ a22 z18.1 1 fun t23=>cG 141 [(.pointer t20)] (.one aI) fun (t24:Int)=>dG (a22.add (bU z18.1 *1)) (.pointer t23)<|aY r6 0 t21<|cG 70 [(.pointer t23)] (.one aS) fun (t25:Slc)=>cG 140 [(.int .i64 t24),(sv t25)] (.one aP) fun (t26:Option Addr)=>aD #[(.pointer t26)] 139 fun r27=>dD (cC #[195,195] 195 #[(sv z18.2.1),(.slice (some ⟨r27,0,none⟩) 1 1)]) (.one aS) fun (t28:Slc)=>cE [(.int .i64 (wN z18.1)),(sv t28)]) (cU 4 [(.int .i64 z18.1),(sv z18.2.1)])) fun (z17:Int×Slc×Unit)=>cI (sv z17.2.1)
theorem K2 (edges_0_p:Option Addr) (edges_0_n edges_0_c:Nat) (base_1_p:Option Addr) (base_1_n base_1_c:Nat):AZ bW Tryz.f111 [(.slice edges_0_p edges_0_n edges_0_c),(.slice base_1_p base_1_n base_1_c)] =IY edges_0_p edges_0_n edges_0_c base_1_p base_1_n base_1_c:=by kernel_rfl
noncomputable def DO (x_0:Int):T:=cond (x_0==(0:Int)) (cI (.int .i64 64)) (chk (0≤(58:Int))<|chk (0≤(gC (bR .u64 ((bR .u64 (dX (dH (cS .u64) x_0 &&& (dH (cS .u64) (bR .u64 (0 - x_0)))):Nat)) *285870213051353865)) (2 ^ (min (bU 58) (cS .u64))))∧(gC (bR .u64 ((bR .u64 (dX (dH (cS .u64) x_0 &&& (dH (cS .u64) (bR .u64 (0 - x_0)))):Nat)) *285870213051353865)) (2 ^ (min (bU 58) (cS .u64)))) < (64:Nat))<|bK ((⟨0,0,none⟩:Addr).add (bU (gC (bR .u64 ((bR .u64 (dX (dH (cS .u64) x_0 &&& (dH (cS .u64) (bR .u64 (0 - x_0)))):Nat)) *285870213051353865)) (2 ^ (min (bU 58) (cS .u64)))) *1)) fun t1=>cI (.int .i64 (bR .i64 t1)))
theorem FU (x_0:Int):AZ bW Tryz.f150 [(.int .u64 x_0)] =DO x_0:=by kernel_rfl
noncomputable def G1 (at_0:Int) (to_1:Int) (c_2:Nat):T:=aA c_2 0 fun t1=>deref t1.1 fun a2=>chk (0≤at_0∧at_0< (t1.2.1:Nat))<|bJ a2 at_0 1 fun t3=>aA c_2 0 fun t4=>deref t4.1 fun a5=>chk (0≤to_1∧to_1< (t4.2.1:Nat))<|bJ a5 to_1 1 fun t6=>cG 139 [(.pointer t3),(.pointer t6)] (.one aB) fun (t7:Bool)=>cI (.tuple #[])
theorem J4 (at_0:Int) (to_1:Int) (c_2:Nat):AZ bW Tryz.f142 [(.int .i64 at_0),(.int .i64 to_1),(.pointer (some ⟨c_2,0,none⟩))] =G1 at_0 to_1 c_2:=by kernel_rfl
noncomputable def G2 (l_0_p:Option Addr) (l_0_n l_0_c:Nat) (c_1:Nat):T:=chk (0≤(1:Int)∧(1:Int) ≤((l_0_n:Nat):Int)∧((l_0_n:Nat):Int) ≤(l_0_c:Nat))<|cL 0 [aI] (cP [aI] [(.int .i64 0)] fun (z2:Int×Unit)=>cond (decide (z2.1< (((bU ((l_0_n:Nat):Int) - bU 1):Nat):Int))) (deref (if l_0_c=bU 1 then l_0_p else eP (fun x=>gD x (bU 1 *1)) l_0_p) fun a3=>chk (0≤z2.1∧z2.1< ((bU ((l_0_n:Nat):Int) - bU 1):Nat))<|aJ a3 z2.1 1 fun t4=>aA c_1 0 fun t5=>deref l_0_p fun a6=>chk (0≤(0:Int)∧(0:Int) < (l_0_n:Nat))<|aJ a6 0 1 fun t7=>deref t5.1 fun a8=>chk (0≤t7∧t7< (t5.2.1:Nat))<|bJ a8 t7 1 fun t9=>aA c_1 0 fun t10=>deref t10.1 fun a11=>chk (0≤t4∧t4< (t10.2.1:Nat))<|bJ a11 t4 1 fun t12=>cG 139 [(.pointer t9),(.pointer t12)] (.one aB) fun (t13:Bool)=>cE [(.int .i64 (wN z2.1))]) (cU 0 [(.int .i64 z2.1)])) fun (z1:Int×Unit)=>chk (0≤(1:Int)∧(1:Int) ≤((l_0_n:Nat):Int)∧((l_0_n:Nat):Int) ≤(l_0_c:Nat))<|cL 2 [aI] (cP [aI] [(.int .i64 0)] fun (z15:Int×Unit)=>cond (decide (z15.1< (((bU ((l_0_n:Nat):Int) - bU 1):Nat):Int))) (deref (if l_0_c=bU 1 then l_0_p else eP (fun x=>gD x (bU 1 *1)) l_0_p) fun a16=>chk (0≤z15.1∧z15.1< ((bU ((l_0_n:Nat):Int) - bU 1):Nat))<|aJ a16 z15.1 1 fun t17=>aA c_1 0 fun t18=>aA c_1 0 fun t19=>deref l_0_p fun a20=>chk (0≤(0:Int)∧(0:Int) < (l_0_n:Nat))<|aJ a20 0 1 fun t21=>deref t19.1 fun a22=>chk (0≤t21∧t21< (t19.2.1:Nat))<|bJ a22 t21 1 fun t23=>cG 145 [(.pointer t23)] (.one aP) fun (t24:Option Addr)=>aY c_1 0 t18<|deref t18.1 fun a25=>chk (0≤t17∧t17< (t18.2.1:Nat))<|dK (a25.add (bU t17 *1)) (.pointer t24)<|cE [(.int .i64 (wN z15.1))]) (cU 2 [(.int .i64 z15.1)])) fun (z14:Int×Unit)=>cI (.tuple #[])
theorem J5 (l_0_p:Option Addr) (l_0_n l_0_c:Nat) (c_1:Nat):AZ bW Tryz.f144 [(.slice l_0_p l_0_n l_0_c),(.pointer (some ⟨c_1,0,none⟩))] =G2 l_0_p l_0_n l_0_c c_1:=by kernel_rfl
noncomputable def Lg (edges_0_p:Option Addr) (edges_0_n edges_0_c:Nat) (n_1:Int) (k_2_0:Nat) (k_3_0:Nat):T:=aD #[(.slice edges_0_p edges_0_n edges_0_c)] 97 fun r1=>aD #[(.int .i64 n_1)] 3 fun r2=>aD #[(.func (.func 142) #[] #[(.pointer (some ⟨k_2_0,0,none⟩))])] 228 fun r3=>aD #[(.func (.func 144) #[] #[(.pointer (some ⟨k_3_0,0,none⟩))])] 217 fun r4=>aR r2 0 fun t5=>dD (gB 30 (.int .i64 t5) (.int .i64 t5)) (.one aS) fun (t6:Slc)=>aD #[(.slice none 0 0)] 30 fun r7=>aF r7 0 t6<|aD #[(.slice none 0 0)] 30 fun r8=>aD #[.nilFunc] 249 fun r9=>aN r9 0 (.func (.func 164) #[] #[(.pointer (some ⟨r8,0,none⟩)),(.pointer (some ⟨r7,0,none⟩)),(.pointer (some ⟨r1,0,none⟩)),(.pointer (some ⟨r2,0,none⟩)),(.pointer (some ⟨r9,0,none⟩)),(.pointer (some ⟨r3,0,none⟩)),(.pointer (some ⟨r4,0,none⟩))])<|aR r2 0 fun t10=>cL 0 [aI] (cP [aI] [(.int .i64 0)] fun (z12:Int×Unit)=>cond (decide (z12.1<t10)) (aA r7 0 fun t13=>deref t13.1 fun a14=>chk (0≤z12.1∧z12.1< (t13.2.1:Nat))<|aJ a14 z12.1 1 fun t15=>cQ [] (cond (t15==(0:Int)) (cY .func ⟨r9,0,none⟩ fun (t17:Option (Fn×Array Value×Array Value))=>I0 false bW (gF .func t17) #[(.int .i64 z12.1)] fun (t18:Value)=>cE []) (cE [])) fun (z16:Unit)=>cE [(.int .i64 (wN z12.1))]) (cU 0 [(.int .i64 z12.1)])) fun (z11:Int×Unit)=>cI (.tuple #[])
theorem Ke (edges_0_p:Option Addr) (edges_0_n edges_0_c:Nat) (n_1:Int) (k_2_0:Nat) (k_3_0:Nat):AZ bW Tryz.f143 [(.slice edges_0_p edges_0_n edges_0_c),(.int .i64 n_1),(.func (.func 142) #[] #[(.pointer (some ⟨k_2_0,0,none⟩))]),(.func (.func 144) #[] #[(.pointer (some ⟨k_3_0,0,none⟩))])] =Lg edges_0_p edges_0_n edges_0_c n_1 k_2_0 k_3_0:=by kernel_rfl
noncomputable def Hc (at_0:Int) (c_1:Nat) (c_2:Nat) (c_3:Nat) (c_4:Nat) (c_5:Nat) (c_6:Nat) (c_7:Nat):T:=aA c_1 0 fun t1=>aD #[(.int .i64 at_0)] 3 fun r2=>dD (cC #[30,30] 30 #[(sv t1),(.slice (some ⟨r2,0,none⟩) 1 1)]) (.one aS) fun (t3:Slc)=>aF c_1 0 t3<|aA c_1 0 fun t4=>aA c_2 0 fun t5=>deref t5.1 fun a6=>chk (0≤at_0∧at_0< (t5.2.1:Nat))<|dK (a6.add (bU at_0 *1)) (.int .i64 (t4.2.1:Int))<|aA c_3 0 fun t7=>aR c_4 0 fun t8=>cG 165 [(sv t7),(.int .i64 at_0),(.int .i64 t8)] (.one aS) fun (t9:Slc)=>cL 0 [aI] (cP [aI] [(.int .i64 0)] fun (z11:Int×Unit)=>cond (decide (z11.1< (t9.2.1:Int))) (deref t9.1 fun a12=>chk (0≤z11.1∧z11.1< (t9.2.1:Nat))<|aJ a12 z11.1 1 fun t13=>aA c_2 0 fun t14=>deref t14.1 fun a15=>chk (0≤t13∧t13< (t14.2.1:Nat))<|aJ a15 t13 1 fun t16=>cQ [] (cond (t16==(0:Int)) (cY .func ⟨c_5,0,none⟩ fun (t18:Option (Fn×Array Value×Array Value))=>I0 false bW (gF .func t18) #[(.int .i64 t13)] fun (t19:Value)=>cE []) (cE [])) fun (z17:Unit)=>aA c_2 0 fun t20=>aA c_2 0 fun t21=>deref t21.1 fun a22=>chk (0≤at_0∧at_0< (t21.2.1:Nat))<|aJ a22 at_0 1 fun t23=>aA c_2 0 fun t24=>deref t24.1 fun a25=>chk (0≤t13∧t13< (t24.2.1:Nat))<|aJ a25 t13 1 fun t26=>deref t20.1 fun a27=>chk (0≤at_0∧at_0< (t20.2.1:Nat))<|dK (a27.add (bU at_0 *1)) (.int .i64 (if t26<t23 then t26 else t23))<|cY .func ⟨c_6,0,none⟩ fun (t28:Option (Fn×Array Value×Array Value))=>I0 false bW (gF .func t28) #[(.int .i64 at_0),(.int .i64 t13)] fun (t29:Value)=>cE [(.int .i64 (wN z11.1))]) (cU 0 [(.int .i64 z11.1)])) fun (z10:Int×Unit)=>aA c_2 0 fun t30=>deref t30.1 fun a31=>chk (0≤at_0∧at_0< (t30.2.1:Nat))<|aJ a31 at_0 1 fun t32=>cond (t32 !=(t4.2.1:Int)) (cI (.tuple #[])) (aA c_1 0 fun t33=>chk (0≤(bR .i64 ((t4.2.1:Int) - 1))∧(bR .i64 ((t4.2.1:Int) - 1)) ≤(t33.2.1:Int)∧(t33.2.1:Int) ≤(t33.2.2:Nat))<|cG 84 [(.slice (if t33.2.2=bU (bR .i64 ((t4.2.1:Int) - 1)) then t33.1 else eP (fun x=>gD x (bU (bR .i64 ((t4.2.1:Int) - 1)) *1)) t33.1) (bU (t33.2.1:Int) - bU (bR .i64 ((t4.2.1:Int) - 1))) (t33.2.2 - bU (bR .i64 ((t4.2.1:Int) - 1))))] (.one aS) fun (t34:Slc)=>aA c_1 0 fun t35=>chk (0≤(0:Int)∧(0:Int) ≤(bR .i64 ((t4.2.1:Int) - 1))∧(bR .i64 ((t4.2.1:Int) - 1)) ≤(t35.2.2:Nat))<|aN c_1 0 (.slice (if t35.2.2=bU 0 then t35.1 else eP (fun x=>gD x (bU 0 *1)) t35.1) (bU (bR .i64 ((t4.2.1:Int) - 1)) - bU 0) (t35.2.2 - bU 0))<|cL 2 [aI] (cP [aI] [(.int .i64 0)] fun (z37:Int×Unit)=>cond (decide (z37.1< (t34.2.1:Int))) (deref t34.1 fun a38=>chk (0≤z37.1∧z37.1< (t34.2.1:Nat))<|aJ a38 z37.1 1 fun t39=>aA c_2 0 fun t40=>deref t40.1 fun a41=>chk (0≤t39∧t39< (t40.2.1:Nat))<|dK (a41.add (bU t39 *1)) (.int .i64 9223372036854775807)<|cE [(.int .i64 (wN z37.1))]) (cU 2 [(.int .i64 z37.1)])) fun (z36:Int×Unit)=>cY .func ⟨c_7,0,none⟩ fun (t42:Option (Fn×Array Value×Array Value))=>I0 false bW (gF .func t42) #[(sv t34)] fun (t43:Value)=>cI (.tuple #[]))
theorem Kf (at_0:Int) (c_1:Nat) (c_2:Nat) (c_3:Nat) (c_4:Nat) (c_5:Nat) (c_6:Nat) (c_7:Nat):AZ bW Tryz.f164 [(.int .i64 at_0),(.pointer (some ⟨c_1,0,none⟩)),(.pointer (some ⟨c_2,0,none⟩)),(.pointer (some ⟨c_3,0,none⟩)),(.pointer (some ⟨c_4,0,none⟩)),(.pointer (some ⟨c_5,0,none⟩)),(.pointer (some ⟨c_6,0,none⟩)),(.pointer (some ⟨c_7,0,none⟩))] =Hc at_0 c_1 c_2 c_3 c_4 c_5 c_6 c_7:=by kernel_rfl
noncomputable def JH (edges_0_p:Option Addr) (edges_0_n edges_0_c:Nat) (at_1:Int) (n_2:Int):T:=aD #[(.int .i64 n_2)] 3 fun r1=>cond (decide (at_1≥ ((edges_0_n:Nat):Int))) (cI (.slice none 0 0)) (deref edges_0_p fun a2=>chk (0≤at_1∧at_1< (edges_0_n:Nat))<|aC a2 at_1 1 fun t3=>cG 84 [(sv t3)] (.one aS) fun (t4:Slc)=>cG 190 [(sv t4),(.func (.func 191) #[] #[(.pointer (some ⟨r1,0,none⟩))])] (.one aS) fun (t5:Slc)=>cI (sv t5))
theorem Lh (edges_0_p:Option Addr) (edges_0_n edges_0_c:Nat) (at_1:Int) (n_2:Int):AZ bW Tryz.f165 [(.slice edges_0_p edges_0_n edges_0_c),(.int .i64 at_1),(.int .i64 n_2)] =JH edges_0_p edges_0_n edges_0_c at_1 n_2:=by kernel_rfl
end Go.Proofs.YteolcjbobmpdiaaGreatDoor

namespace Go.Proofs.YteolcjbobmpdiaaGreatDoor
open Go Go.Eng
set_option maxRecDepth 100000
theorem mixed:Tryz.prog.follows .mixedOrders=true:=by kernel_rfl
set_option linter.unusedVariables false
section
variable {φ:AD}{h:AH}{F:List Chk}
abbrev Rq0:=fD (dQ cA) (fD (Rep.row 9 cA) (fD (dQ cA) (dQ cA)))
abbrev Rq1:=fD (dQ (cH .i64)) (fD (Rep.row 3 (cH .i64)) (dQ (cH .i64)))
abbrev Wq0 (r:Nat) (s:Int×Int×Slc×Slc×Slc×Slc×Slc×Unit):Chk:=cW 25 r [.int .u8 s.1,.int .u8 s.2.1,sv s.2.2.1,sv s.2.2.2.1,sv s.2.2.2.2.1,sv s.2.2.2.2.2.1,sv s.2.2.2.2.2.2.1]
abbrev Wq1 (r:Nat) (s:Slc×Slc×Slc×ByteArray×Slc×Unit):Chk:=cW 107 r [sv s.1,sv s.2.1,sv s.2.2.1,.string s.2.2.2.1,sv s.2.2.2.2.1]
abbrev Wq2 (r:Nat) (s:Pl6):Chk:=cW 32 r [sv s.1,sv s.2.1,sv s.2.2.1,sv s.2.2.2.1,sv s.2.2.2.2.1,sv s.2.2.2.2.2.1]
abbrev Wq3 (r:Nat) (s:ByteArray×ByteArray×Bool×Unit):Chk:=cW 174 r [.string s.1,.string s.2.1,.bool s.2.2.1]
abbrev Wq4 (r:Nat):Chk:=cW 107 r [.slice none 0 0,.slice none 0 0,.slice none 0 0,.string ({data:=#[]}),.slice none 0 0]
abbrev Wq5 (r:Nat):Chk:=cW 32 r [.slice none 0 0,.slice none 0 0,.slice none 0 0,.slice none 0 0,.slice none 0 0,.slice none 0 0]
abbrev Wq6 (r:Nat):Chk:=cW 150 r [.slice none 0 0,.slice none 0 0,.slice none 0 0,.int .i64 (0:Int),.int .i64 (0:Int)]
abbrev Wq7 (r:Nat) (s:Slc×Slc×Slc×Int×Unit):Chk:=cW 133 r [sv s.1,sv s.2.1,sv s.2.2.1,.int .i64 s.2.2.2.1]
noncomputable def Bi (s_0:Le) (rules_1:Int) (right_2:Int):Option Bool:=
 (cond (decide ((s_0.2.2.1.length:Int) >rules_1))
 (some true)
 (some (decide ((s_0.2.2.2.2.2.1.length:Int) >5)))).bind fun z2=>
 cond z2
 (some false)
 ((C2 (σ:=Unit) (β:=Bool) 0 (s_0.2.2.2.1.length:Int) () fun i_z6 z6=>
  (idx s_0.2.2.2.1 i_z6).bind fun e38=>
  cond (decide ((e38.length:Int) >right_2))
  (some (dB false))
  (some (dC ()))).bind fun e_z5=>match e_z5 with
  |.next z5=>
   some true
  |.done q53=>some q53)
theorem Ga {s_0:Int×Int×Slc×Slc×Slc×Slc×Slc×Unit}{f:List Int}{i:List (List Int)}{m:List Int}{j:List Int}{n:List Int}{rules_1:Int}{right_2:Int}(z:Ro.SliceIs (cH .u8) φ s_0.2.2.1 f) (o:Ro.SliceIs (gG (cH .u8)) φ s_0.2.2.2.1 i) (ai:Ro.SliceIs (cH .u8) φ s_0.2.2.2.2.1 m) (a0:Ro.SliceIs (cH .u8) φ s_0.2.2.2.2.2.1 j) (aj:Ro.SliceIs (cH .u8) φ s_0.2.2.2.2.2.2.1 n) (s0:St φ (F) h) {r:Bool}(hd:Bi (s_0.1,s_0.2.1,f,i,m,j,n) rules_1 right_2=some r):
 CallsH bW 14 [(.agg #[(.int .u8 s_0.1),(.int .u8 s_0.2.1),(sv s_0.2.2.1),(sv s_0.2.2.2.1),(sv s_0.2.2.2.2.1),(sv s_0.2.2.2.2.2.1),(sv s_0.2.2.2.2.2.2.1)]),(.int .i64 rules_1),(.int .i64 right_2)] h (Ar fun v h'=>∃ψ:AD,∃y:Bool,Sub φ ψ∧v=((.one aB):Sh).val y∧y=r∧St ψ (F) h'):=by
 refine AO mixed Tryz.func14 ?_;rw [GS];unfold EA;unfold Bi at hd;have a1:s_0.2.2.1.2.1=cK f:=z.length;have p:s_0.2.2.2.1.2.1=cK i:=o.length;have a2:s_0.2.2.2.2.2.1.2.1=cK j:=a0.length;refine AV (vs:=[.int .u8 s_0.1,.int .u8 s_0.2.1,sv s_0.2.2.1,sv s_0.2.2.2.1,sv s_0.2.2.2.2.1,sv s_0.2.2.2.2.2.1,sv s_0.2.2.2.2.2.2.1]) s0 fun r1 ak d=> ?_;obtain ⟨a3,b,hd⟩:=bS hd;refine Aj (fun (y:Bool×Unit) w_ g=>∃ψ:AD,Sub φ ψ∧y.1=g∧St ψ (Wq0 r1 s_0::F) w_) (g:=a3) ?_ ?_
 ·refine AA (x:=s_0.2.2.1) d rfl<|AK b (by rw [a1] <;>rfl) (fun _ b=> ?_) (fun _ b=> ?_)
  ·obtain rfl:=iS b;exact AQ (true,()) rfl ⟨φ,(bZ _),rfl,d⟩
  refine AA (x:=s_0.2.2.2.2.2.1) d rfl ?_;obtain rfl:=iS b;exact AQ ((decide ((s_0.2.2.2.2.2.1.2.1:Int) >(5:Int))),()) rfl ⟨φ,(bZ _),(by rw [a2]),d⟩
 rintro z2 al ⟨k,e,rfl,q⟩;try dsimp only at hd
 refine AK hd rfl (fun _ hd=> ?_) (fun _ hd=> ?_)
 ·obtain rfl:=iS hd;exact AB ⟨k,false,e,rfl,rfl,q.tail⟩
 obtain ⟨am,a4,hd⟩:=bS hd;refine BK a4 (fun a5 (y:Int×Bool×Unit) w_ g=>∃ψ:AD,Sub k ψ∧y.1=a5∧()=g∧St ψ (Wq0 r1 s_0::F) w_) ((0:Int),false,()) rfl ⟨k,(bZ _),rfl,rfl,q⟩ ?_ ?_ ?_
 ·rintro _ z6 an _ _ ⟨s,l,rfl,rfl,c⟩ a a6 t u a7;try dsimp only at a a6 t u
  refine AA (x:=s_0.2.2.2.1) c rfl<|Aa (dT p t)<|AA (x:=s_0.2.2.2.1) c rfl ?_;obtain ⟨ao,a8,a⟩:=bS a;refine Mn o a8 (dJ (e.trans l) c.sub) fun ap a9=> ?_;have aa:=a9.length;refine AK a (by rw [aa] <;>rfl) (fun _ a=> ?_) (fun _ a=> ?_)
  ·obtain rfl:=iS a;obtain rfl:=a7 _ rfl;try dsimp only at hd
   obtain rfl:=iS hd;exact Ag (Ai (AB ⟨s,false,(e.trans l),rfl,rfl,c.tail⟩))
  obtain rfl:=iS a;exact Ad ((wN z6.1),z6.2.1,()) _ rfl rfl ⟨s,l,u,rfl,c⟩
 ·rintro _ z6 aq _ ⟨ab,ac,rfl,rfl,w⟩ ad ae;subst ae;refine AA (x:=s_0.2.2.2.1) w rfl<|AT (dF p ad)<|AJ (AL (z6.1,z6.2.1,()) rfl ⟨_,rfl,_,ab,ac,rfl,rfl,w⟩)
 rintro z5 ar ⟨_,rfl,_,af,ag,_,rfl,ah⟩;try dsimp only at hd
 obtain rfl:=iS hd;exact AB ⟨af,true,(e.trans ag),rfl,rfl,ah.tail⟩
noncomputable def Cs (l_0:List Int) (x_1:Int):Option Bool:=
 (C2 (σ:=Unit) (β:=Bool) 0 (l_0.length:Int) () fun i_z2 z2=>
  (idx l_0 i_z2).bind fun e17=>
  cond (e17==x_1)
  (some (dB true))
  (some (dC ()))).bind fun e_z1=>match e_z1 with
 |.next z1=>
  some false
 |.done q30=>some q30
theorem J6 {l_0:Slc}{b:List Int}{x_1:Int}(e:Ro.SliceIs (cH .i64) φ l_0 b) (s0:St φ (F) h) {r:Bool}(hd:Cs b x_1=some r):
 CallsH bW 31 [(sv l_0),(.int .i64 x_1)] h (Ar fun v h'=>∃ψ:AD,∃y:Bool,Sub φ ψ∧v=((.one aB):Sh).val y∧y=r∧St ψ (F) h'):=by
 refine AO mixed Tryz.func31 ?_;rw [Jy];unfold Gv;unfold Cs at hd;have f:l_0.2.1=cK b:=e.length;obtain ⟨a1,l,hd⟩:=bS hd;refine BK l (fun m (y:Int×Bool×Unit) w_ g=>∃ψ:AD,Sub φ ψ∧y.1=m∧()=g∧St ψ (F) w_) ((0:Int),false,()) rfl ⟨φ,(bZ _),rfl,rfl,s0⟩ ?_ ?_ ?_
 ·rintro _ z2 a2 _ _ ⟨i,c,rfl,rfl,d⟩ a n j k o;try dsimp only at a n j k
  refine Aa (dT f j) ?_;obtain ⟨a3,p,a⟩:=bS a;refine Ce e p (dJ c d.sub)<|AK a rfl (fun _ a=> ?_) (fun _ a=> ?_)
  ·obtain rfl:=iS a;obtain rfl:=o _ rfl;try dsimp only at hd
   obtain rfl:=iS hd;exact Ag (Ai (AB ⟨i,true,c,rfl,rfl,d⟩))
  obtain rfl:=iS a;exact Ad ((wN z2.1),z2.2.1,()) _ rfl rfl ⟨i,c,k,rfl,d⟩
 ·rintro _ z2 a4 _ ⟨q,s,rfl,rfl,t⟩ u w;subst w;refine AT (dF f u)<|AJ (AL (z2.1,z2.2.1,()) rfl ⟨_,rfl,_,q,s,rfl,rfl,t⟩)
 rintro z1 a5 ⟨_,rfl,_,x,z,_,rfl,a0⟩;try dsimp only at hd
 obtain rfl:=iS hd;exact AB ⟨x,false,z,rfl,rfl,a0⟩
noncomputable def GD (n_0:Int):Option Int:=some (if (if 1099511627776 <n_0 then 1099511627776 else n_0) >0 then (if 1099511627776 <n_0 then 1099511627776 else n_0) else 0)
theorem Ms {n_0:Int}(s0:St φ (F) h) {r:Int}(hd:GD n_0=some r):
 CallsH bW 124 [(.int .i64 n_0)] h (Ar fun v h'=>∃ψ:AD,∃y:Int,Sub φ ψ∧v=((.one aI):Sh).val y∧y=r∧St ψ (F) h'):=by
 refine AO mixed Tryz.func124 ?_;rw [Mp];unfold Kw;unfold GD at hd;obtain rfl:=iS hd;exact AB ⟨φ,(if (if (1099511627776:Int) <n_0 then (1099511627776:Int) else n_0) >(0:Int) then (if (1099511627776:Int) <n_0 then (1099511627776:Int) else n_0) else (0:Int)),(bZ _),rfl,rfl,s0⟩
noncomputable def ES (limit_0:Int):Option Cc:=(GD limit_0).bind fun t1=>some (t1,0,0)
theorem KM {limit_0:Int}(s0:St φ (F) h) {r:Cc}(hd:ES limit_0=some r):
 CallsH bW 98 [(.int .i64 limit_0)] h (Ar fun v h'=>∃ψ:AD,∃y:Option Addr,∃a:Cc,Sub φ ψ∧v=((.one aP):Sh).val y∧a=r∧St ψ (cO 211 (dQ FP) y a::F) h'):=by
 refine AO mixed Tryz.func98 ?_;rw [Ni];unfold MG;unfold ES at hd;obtain ⟨i,b,hd⟩:=bS hd;refine AI (Ms s0 b) ?_;rintro _ j ⟨c,t1,d,rfl,rfl,e⟩;refine ⟨t1,rfl,?_⟩;refine AV (vs:=[.int .i64 t1,.int .i64 (0:Int),.int .i64 (0:Int)]) e fun r2 k f=> ?_;have g:=eJ (r:=FP) (x:=(t1,(0:Int),(0:Int))) f ⟨[_],_,rfl,rfl,⟨[_],_,rfl,rfl,rfl⟩⟩;obtain rfl:=iS hd;exact AB ⟨c,(some ⟨r2,0,none⟩),(t1,(0:Int),(0:Int)),d,rfl,rfl,g⟩
noncomputable def C9 (m_0:Cc):Option Int:=some (bR .i64 ((m_0.1) - (m_0.2.1)))
theorem JI {m_0:Option Addr}{a:Cc}(s0:St φ (cO 211 (dQ FP) m_0 a::F) h) {r:Int}(hd:C9 a=some r):
 CallsH bW 129 [(.pointer m_0)] h (Ar fun v h'=>∃ψ:AD,∃y:Int,Sub φ ψ∧v=((.one aI):Sh).val y∧y=r∧St ψ (cO 211 (dQ FP) m_0 a::F) h'):=by
 refine AO mixed Tryz.func129 ?_;rw [JE];unfold GX;unfold C9 at hd;obtain ⟨e,f,c,⟨_,_,rfl,rfl,_,_,rfl,rfl,rfl⟩,b⟩:=gE s0;subst c;refine AF _ rfl<|AA (x:=(a.1)) b rfl<|AF _ rfl<|AA (x:=(a.2.1)) b rfl ?_;have d:=eJ (r:=FP) (x:=((a.1),(a.2.1),(a.2.2))) b ⟨[_],_,rfl,rfl,⟨[_],_,rfl,rfl,rfl⟩⟩;obtain rfl:=iS hd;exact AB ⟨φ,(bR .i64 ((a.1) - (a.2.1))),(bZ _),rfl,rfl,d⟩
noncomputable def CE (m_0:Cc) (n_1:Int):Option (Int×Cc):=cond (decide (n_1< 0)) (some (1,m_0)) ((C9 m_0).bind fun t1=>cond (decide (n_1>t1)) (some (5,m_0)) (some (0,((m_0.1),(bR .i64 ((m_0.2.1)+n_1)),(if (bR .i64 ((m_0.2.1)+n_1)) >(m_0.2.2) then (bR .i64 ((m_0.2.1)+n_1)) else (m_0.2.2))))))
theorem FV {m_0:Option Addr}{a:Cc}{n_1:Int}(s0:St φ (cO 211 (dQ FP) m_0 a::F) h) {r:(Int×Cc)}(hd:CE a n_1=some r):
 CallsH bW 102 [(.pointer m_0),(.int .i64 n_1)] h (Ar fun v h'=>∃ψ:AD,∃y:Int,∃c:Cc,Sub φ ψ∧v=((.one aI):Sh).val y∧(y,c)=r∧St ψ (cO 211 (dQ FP) m_0 c::F) h'):=by
 refine AO mixed Tryz.func102 ?_;rw [JC];unfold GV;unfold CE at hd;refine AK hd rfl (fun _ hd=> ?_) (fun _ hd=> ?_)
 ·obtain rfl:=iS hd;exact AB ⟨φ,(1:Int),a,(bZ _),rfl,rfl,s0⟩
 obtain ⟨m,i,hd⟩:=bS hd;refine AI (JI s0 i) ?_;rintro _ n ⟨d,t1,e,rfl,rfl,f⟩;refine ⟨t1,rfl,?_⟩;refine AK hd rfl (fun _ hd=> ?_) (fun _ hd=> ?_)
 ·obtain rfl:=iS hd;exact AB ⟨d,(5:Int),a,e,rfl,rfl,f⟩
 obtain ⟨o,p,j,⟨_,_,rfl,rfl,_,_,rfl,rfl,rfl⟩,g⟩:=gE f;subst j;refine AF _ rfl<|AA (x:=(a.2.1)) g rfl<|AF _ rfl<|AR g rfl rfl fun q b=>AF _ rfl<|AA (x:=(a.2.2)) b rfl<|AF _ rfl<|AA (x:=(bR .i64 ((a.2.1)+n_1))) b rfl<|AF _ rfl<|AR b rfl rfl fun s k=> ?_;have l:=eJ (r:=FP) (x:=((a.1),(bR .i64 ((a.2.1)+n_1)),(if (bR .i64 ((a.2.1)+n_1)) >(a.2.2) then (bR .i64 ((a.2.1)+n_1)) else (a.2.2)))) k ⟨[_],_,rfl,rfl,⟨[_],_,rfl,rfl,rfl⟩⟩;obtain rfl:=iS hd;exact AB ⟨d,(0:Int),((a.1),(bR .i64 ((a.2.1)+n_1)),(if (bR .i64 ((a.2.1)+n_1)) >(a.2.2) then (bR .i64 ((a.2.1)+n_1)) else (a.2.2))),e,rfl,rfl,l⟩
noncomputable def DA (m_0:Cc):Option Int:=some (m_0.2.1)
theorem JJ {m_0:Option Addr}{a:Cc}(s0:St φ (cO 211 (dQ FP) m_0 a::F) h) {r:Int}(hd:DA a=some r):
 CallsH bW 105 [(.pointer m_0)] h (Ar fun v h'=>∃ψ:AD,∃y:Int,Sub φ ψ∧v=((.one aI):Sh).val y∧y=r∧St ψ (cO 211 (dQ FP) m_0 a::F) h'):=by
 refine AO mixed Tryz.func105 ?_;rw [JD];unfold GW;unfold DA at hd;obtain ⟨e,f,c,⟨_,_,rfl,rfl,_,_,rfl,rfl,rfl⟩,b⟩:=gE s0;subst c;refine AF _ rfl<|AA (x:=(a.2.1)) b rfl ?_;have d:=eJ (r:=FP) (x:=((a.1),(a.2.1),(a.2.2))) b ⟨[_],_,rfl,rfl,⟨[_],_,rfl,rfl,rfl⟩⟩;obtain rfl:=iS hd;exact AB ⟨φ,(a.2.1),(bZ _),rfl,rfl,d⟩
noncomputable def As (l_0:List ByteArray) (s_1:ByteArray):Option Int:=
 (C2 (σ:=Unit) (β:=Int) 0 (l_0.length:Int) () fun i_z2 z2=>
  (idx l_0 i_z2).bind fun e17=>
  cond (bX e17==bX s_1)
  (some (dB i_z2))
  (some (dC ()))).bind fun e_z1=>match e_z1 with
 |.next z1=>
  some (-1:Int)
 |.done q30=>some q30
theorem Gm {l_0:Slc}{b:List ByteArray}{s_1:ByteArray}(e:Ro.SliceIs cA φ l_0 b) (s0:St φ (F) h) {r:Int}(hd:As b s_1=some r):
 CallsH bW 93 [(sv l_0),(.string s_1)] h (Ar fun v h'=>∃ψ:AD,∃y:Int,Sub φ ψ∧v=((.one aI):Sh).val y∧y=r∧St ψ (F) h'):=by
 refine AO mixed Tryz.func93 ?_;rw [Ee];unfold Db;unfold As at hd;have f:l_0.2.1=cK b:=e.length;obtain ⟨a1,l,hd⟩:=bS hd;refine BK l (fun m (y:Int×Int×Unit) w_ g=>∃ψ:AD,Sub φ ψ∧y.1=m∧()=g∧St ψ (F) w_) ((0:Int),(0:Int),()) rfl ⟨φ,(bZ _),rfl,rfl,s0⟩ ?_ ?_ ?_
 ·rintro _ z2 a2 _ _ ⟨i,c,rfl,rfl,d⟩ a n j k o;try dsimp only at a n j k
  refine Aa (dT f j) ?_;obtain ⟨a3,p,a⟩:=bS a;refine Ce e p (dJ c d.sub)<|AK a rfl (fun _ a=> ?_) (fun _ a=> ?_)
  ·obtain rfl:=iS a;obtain rfl:=o _ rfl;try dsimp only at hd
   obtain rfl:=iS hd;exact Ag (Ai (AB ⟨i,z2.1,c,rfl,rfl,d⟩))
  obtain rfl:=iS a;exact Ad ((wN z2.1),z2.2.1,()) _ rfl rfl ⟨i,c,k,rfl,d⟩
 ·rintro _ z2 a4 _ ⟨q,s,rfl,rfl,t⟩ u w;subst w;refine AT (dF f u)<|AJ (AL (z2.1,z2.2.1,()) rfl ⟨_,rfl,_,q,s,rfl,rfl,t⟩)
 rintro z1 a5 ⟨_,rfl,_,x,z,_,rfl,a0⟩;try dsimp only at hd
 obtain rfl:=iS hd;exact AB ⟨x,(-1:Int),z,rfl,rfl,a0⟩
theorem Bb {l_0:Slc}{b:List ByteArray}{s_1:ByteArray}(s0:St φ (cR 9 cA l_0 b::F) h) {r:Int}(hd:As b s_1=some r):
 CallsH bW 93 [(sv l_0),(.string s_1)] h (Ar fun v h'=>∃ψ:AD,∃y:Int,Sub φ ψ∧v=((.one aI):Sh).val y∧y=r∧St ψ (cR 9 cA l_0 b::F) h'):=by
 refine AO mixed Tryz.func93 ?_;rw [Ee];unfold Db;unfold As at hd;have d:l_0.2.1=cK b:=(s0).rowLen;obtain ⟨a0,k,hd⟩:=bS hd;refine BK k (fun l (y:Int×Int×Unit) w_ g=>∃ψ:AD,Sub φ ψ∧y.1=l∧()=g∧St ψ (cR 9 cA l_0 b::F) w_) ((0:Int),(0:Int),()) rfl ⟨φ,(bZ _),rfl,rfl,s0⟩ ?_ ?_ ?_
 ·rintro _ z2 a1 _ _ ⟨e,f,rfl,rfl,c⟩ a m i j n;try dsimp only at a m i j
  refine Aa (dT d i) ?_;obtain ⟨a2,o,a⟩:=bS a;refine EK c o<|AK a rfl (fun _ a=> ?_) (fun _ a=> ?_)
  ·obtain rfl:=iS a;obtain rfl:=n _ rfl;try dsimp only at hd
   obtain rfl:=iS hd;exact Ag (Ai (AB ⟨e,z2.1,f,rfl,rfl,c⟩))
  obtain rfl:=iS a;exact Ad ((wN z2.1),z2.2.1,()) _ rfl rfl ⟨e,f,j,rfl,c⟩
 ·rintro _ z2 a3 _ ⟨p,q,rfl,rfl,s⟩ t u;subst u;refine AT (dF d t)<|AJ (AL (z2.1,z2.2.1,()) rfl ⟨_,rfl,_,p,q,rfl,rfl,s⟩)
 rintro z1 a4 ⟨_,rfl,_,w,x,_,rfl,z⟩;try dsimp only at hd
 obtain rfl:=iS hd;exact AB ⟨w,(-1:Int),x,rfl,rfl,z⟩
noncomputable def Bs (g_0:C1) (name_1:ByteArray):Option Int:=
 (C2 (σ:=Unit) (β:=Int) 0 (g_0.2.2.1.length:Int) () fun i_z3 z3=>
  (idx g_0.2.2.1 i_z3).bind fun e31=>
  (As e31.2 name_1).bind fun t8=>
  cond (decide (t8≥ 0))
  (some (dB (bR .i64 (i_z3+1))))
  (some (dC ()))).bind fun e_z2=>match e_z2 with
 |.next z2=>
  some 0
 |.done q57=>some q57
theorem Eh {g_0:Slc×Slc×Slc×ByteArray×Slc×Unit}{e:List GP}{f:List HR}{c:List Ec}{i:List C8}{name_1:ByteArray}(ah:Ro.SliceIs Gt φ g_0.1 e) (ai:Ro.SliceIs Kt φ g_0.2.1 f) (j:Ro.SliceIs Gu φ g_0.2.2.1 c) (aj:Ro.SliceIs GQ φ g_0.2.2.2.2.1 i) (s0:St φ (F) h) {r:Int}(hd:Bs (e,f,c,g_0.2.2.2.1,i) name_1=some r):
 CallsH bW 94 [(.agg #[(sv g_0.1),(sv g_0.2.1),(sv g_0.2.2.1),(.string g_0.2.2.2.1),(sv g_0.2.2.2.2.1)]),(.string name_1)] h (Ar fun v h'=>∃ψ:AD,∃y:Int,Sub φ ψ∧v=((.one aI):Sh).val y∧y=r∧St ψ (F) h'):=by
 refine AO mixed Tryz.func94 ?_;rw [H6];unfold FS;unfold Bs at hd;have k:g_0.2.2.1.2.1=cK c:=j.length;refine AV (vs:=[sv g_0.1,sv g_0.2.1,sv g_0.2.2.1,.string g_0.2.2.2.1,sv g_0.2.2.2.2.1]) s0 fun r1 ak s=> ?_;obtain ⟨al,t,hd⟩:=bS hd;refine BK t (fun u (y:Int×Int×Unit) w_ g=>∃ψ:AD,Sub φ ψ∧y.1=u∧()=g∧St ψ (Wq1 r1 g_0::F) w_) ((0:Int),(0:Int),()) rfl ⟨φ,(bZ _),rfl,rfl,s⟩ ?_ ?_ ?_
 ·rintro _ z3 am _ _ ⟨an,d,rfl,rfl,b⟩ a w l m z;try dsimp only at a w l m
  refine AA (x:=g_0.2.2.1) b rfl<|Aa (dT k l)<|AA (x:=g_0.2.2.1) b rfl ?_;obtain ⟨ao,a0,a⟩:=bS a;obtain ⟨ap,aq,a1,a2,a3,a4⟩:=(j.mono d).get a0;refine AF _ a1 (AY a2 ?_);obtain ⟨_,_,rfl,rfl,⟨a7,rfl,a8⟩⟩:=a3;refine AC (x:=a7) (by rw [Ah];exact (AE b.sub (a4 1 _ rfl))) rfl ?_;obtain ⟨ar,a9,a⟩:=bS a;refine AI (Gm a8 b a9) ?_;rintro _ au ⟨n,t8,o,rfl,rfl,p⟩;refine ⟨t8,rfl,?_⟩;refine AK a rfl (fun _ a=> ?_) (fun _ a=> ?_)
  ·obtain rfl:=iS a;obtain rfl:=z _ rfl;try dsimp only at hd
   obtain rfl:=iS hd;exact Ag (Ai (AB ⟨n,(wN z3.1),(d.trans o),rfl,rfl,p.tail⟩))
  obtain rfl:=iS a;exact Ad ((wN z3.1),z3.2.1,()) _ rfl rfl ⟨n,(d.trans o),m,rfl,p⟩
 ·rintro _ z3 av _ ⟨aa,ab,rfl,rfl,q⟩ ac ad;subst ad;refine AA (x:=g_0.2.2.1) q rfl<|AT (dF k ac)<|AJ (AL (z3.1,z3.2.1,()) rfl ⟨_,rfl,_,aa,ab,rfl,rfl,q⟩)
 rintro z2 aw ⟨_,rfl,_,ae,af,_,rfl,ag⟩;try dsimp only at hd
 obtain rfl:=iS hd;exact AB ⟨ae,(0:Int),af,rfl,rfl,ag.tail⟩
noncomputable def BJ (p_0:(List ByteArray×List ByteArray)) (name_1:ByteArray):Option Int:=(As p_0.1 name_1).bind fun t3=>cond (decide (t3≥ 0)) (some t3) ((As p_0.2 name_1).bind fun t5=>cond (decide (t5≥ 0)) (some (bR .i64 ((p_0.1.length:Int)+t5))) (some (-1:Int)))
theorem Cy {p_0:Pl6}{a:List ByteArray}{b:List ByteArray}{name_1:ByteArray}(s0:St φ (cR 9 cA p_0.1 a::cR 9 cA p_0.2.1 b::F) h) {r:Int}(hd:BJ (a,b) name_1=some r):
 CallsH bW 95 [(aG p_0),(.string name_1)] h (Ar fun v h'=>∃ψ:AD,∃y:Int,Sub φ ψ∧v=((.one aI):Sh).val y∧y=r∧St ψ (cR 9 cA p_0.1 a::cR 9 cA p_0.2.1 b::F) h'):=by
 refine AO mixed Tryz.func95 ?_;rw [JF];unfold GY;unfold BJ at hd;have j:p_0.1.2.1=cK a:=(s0).rowLen;refine AV (vs:=[sv p_0.1,sv p_0.2.1,sv p_0.2.2.1,sv p_0.2.2.2.1,sv p_0.2.2.2.2.1,sv p_0.2.2.2.2.2.1]) s0 fun r1 o f=>AA (x:=p_0.1) f rfl ?_;obtain ⟨p,k,hd⟩:=bS hd;refine AI (Bb f.at1 k) ?_;rintro _ q ⟨l,t3,c,rfl,rfl,d⟩;refine ⟨t3,rfl,?_⟩;refine AK hd rfl (fun _ hd=> ?_) (fun _ hd=> ?_)
 ·obtain rfl:=iS hd;exact AB ⟨l,t3,c,rfl,rfl,d.at1.tail.at1.at1⟩
 refine AA (x:=p_0.2.1) d.at1 rfl ?_;obtain ⟨s,m,hd⟩:=bS hd;refine AI (Bb d.at2 m) ?_;rintro _ t ⟨g,t5,i,rfl,rfl,e⟩;refine ⟨t5,rfl,?_⟩;refine AK hd rfl (fun _ hd=> ?_) (fun _ hd=> ?_)
 ·refine AA (x:=p_0.1) e.at2 rfl ?_;obtain rfl:=iS hd;have n:=e.at2.tail.at1;exact AB ⟨g,(bR .i64 ((p_0.1.2.1:Int)+t5)),(c.trans i),rfl,(by rw [j]),n⟩
 obtain rfl:=iS hd;exact AB ⟨g,(-1:Int),(c.trans i),rfl,rfl,e.at2.tail.at1⟩
noncomputable def Bc (a_0:HH) (x_1:Bu):Option Int:=(idx a_0.2.2.1 x_1.1).bind fun e33=>cond (decide (x_1.2≥ (e33.2.1.length:Int))) (some (-1:Int)) ((idx e33.2.1 x_1.2).bind fun e45=>some e45)
theorem DB {a_0:Option Addr}{a:HH}{x_1:Int×Int×Unit}(s0:St φ (cO 131 (dQ CM) a_0 a::F) h) {r:Int}(hd:Bc a (x_1.1,x_1.2.1)=some r):
 CallsH bW 126 [(.pointer a_0),(.agg #[(.int .i64 x_1.1),(.int .i64 x_1.2.1)])] h (Ar fun v h'=>∃ψ:AD,∃y:Int,Sub φ ψ∧v=((.one aI):Sh).val y∧y=r∧St ψ (cO 131 (dQ CM) a_0 a::F) h'):=by
 refine AO mixed Tryz.func126 ?_;rw [H4];unfold FQ;unfold Bc at hd;refine AV (vs:=[.int .i64 x_1.1,.int .i64 x_1.2.1]) s0 fun r1 ab q=> ?_;obtain ⟨ac,ad,s,⟨_,_,rfl,⟨e,rfl,f⟩,_,_,rfl,⟨g,rfl,i⟩,_,_,rfl,⟨c,rfl,d⟩,_,_,rfl,⟨j,rfl,k⟩,_,_,rfl,⟨l,rfl,m⟩,_,_,rfl,⟨n,rfl,o⟩,_,_,rfl,rfl,rfl⟩,b⟩:=gE q.at1;subst s;refine AF _ rfl<|AA (x:=c) b rfl<|AA (x:=x_1.1) b.at1 rfl ?_;obtain ⟨ae,t,hd⟩:=bS hd;obtain ⟨af,ag,u,w,z,a0⟩:=d.get t;refine AF _ u (AY w ?_);obtain ⟨_,_,rfl,rfl,⟨_,_,rfl,⟨a5,rfl,p⟩,a4⟩⟩:=z;have a6:=p.length;obtain rfl:=a4;refine AC (x:=a5) (by rw [Ah];exact (AE b.sub (a0 1 _ rfl))) rfl<|AA (x:=x_1.2.1) b.at1 rfl<|AK hd (by rw [a6] <;>rfl) (fun _ hd=> ?_) (fun _ hd=> ?_)
 ·have a7:=eJ (r:=CM) (x:=(a.1,a.2.1,a.2.2.1,a.2.2.2.1,a.2.2.2.2.1,a.2.2.2.2.2.1,a.2.2.2.2.2.2.1,(a.2.2.2.2.2.2.2))) b ⟨[_],_,rfl,⟨e,rfl,f⟩,⟨[_],_,rfl,⟨g,rfl,i⟩,⟨[_],_,rfl,⟨c,rfl,d⟩,⟨[_],_,rfl,⟨j,rfl,k⟩,⟨[_],_,rfl,⟨l,rfl,m⟩,⟨[_],_,rfl,⟨n,rfl,o⟩,⟨[_],_,rfl,rfl,rfl⟩⟩⟩⟩⟩⟩⟩;obtain rfl:=iS hd;exact AB ⟨φ,(-1:Int),(bZ _),rfl,rfl,a7.at1.tail⟩
 refine AA (x:=x_1.2.1) b.at1 rfl ?_;obtain ⟨a8,a9,hd⟩:=bS hd;refine Ce p a9 b.sub ?_;have aa:=eJ (r:=CM) (x:=(a.1,a.2.1,a.2.2.1,a.2.2.2.1,a.2.2.2.2.1,a.2.2.2.2.2.1,a.2.2.2.2.2.2.1,(a.2.2.2.2.2.2.2))) b ⟨[_],_,rfl,⟨e,rfl,f⟩,⟨[_],_,rfl,⟨g,rfl,i⟩,⟨[_],_,rfl,⟨c,rfl,d⟩,⟨[_],_,rfl,⟨j,rfl,k⟩,⟨[_],_,rfl,⟨l,rfl,m⟩,⟨[_],_,rfl,⟨n,rfl,o⟩,⟨[_],_,rfl,rfl,rfl⟩⟩⟩⟩⟩⟩⟩;obtain rfl:=iS hd;exact AB ⟨φ,a8,(bZ _),rfl,rfl,aa.at1.tail⟩
noncomputable def BV (p_0:BA) (sym_1:Int):Option Bool:=(cond (decide (sym_1≥ 0)) (some (decide (sym_1< (p_0.1.length:Int)))) (some false)).bind fun z2=>some z2
theorem Ei {p_0:Pl6}{b:List ByteArray}{d:List ByteArray}{e:List Ay}{f:List Int}{i:List Int}{j:List ByteArray}{sym_1:Int}(k:Ro.SliceIs cA φ p_0.1 b) (q:Ro.SliceIs cA φ p_0.2.1 d) (s:Ro.SliceIs CR φ p_0.2.2.1 e) (t:Ro.SliceIs (cH .i64) φ p_0.2.2.2.1 f) (u:Ro.SliceIs (cH .i64) φ p_0.2.2.2.2.1 i) (w:Ro.SliceIs cA φ p_0.2.2.2.2.2.1 j) (s0:St φ (F) h) {r:Bool}(hd:BV (b,d,e,f,i,j) sym_1=some r):
 CallsH bW 86 [(aG p_0),(.int .i64 sym_1)] h (Ar fun v h'=>∃ψ:AD,∃y:Bool,Sub φ ψ∧v=((.one aB):Sh).val y∧y=r∧St ψ (F) h'):=by
 refine AO mixed Tryz.func86 ?_;rw [Mq];unfold Kx;unfold BV at hd;have l:p_0.1.2.1=cK b:=k.length;refine AV (vs:=[sv p_0.1,sv p_0.2.1,sv p_0.2.2.1,sv p_0.2.2.2.1,sv p_0.2.2.2.2.1,sv p_0.2.2.2.2.2.1]) s0 fun r1 z c=> ?_;obtain ⟨m,a,hd⟩:=bS hd;refine Aj (fun (y:Bool×Unit) w_ g=>∃ψ:AD,Sub φ ψ∧y.1=g∧St ψ (Wq2 r1 p_0::F) w_) (g:=m) ?_ ?_
 ·refine AK a rfl (fun _ a=> ?_) (fun _ a=> ?_)
  ·refine AA (x:=p_0.1) c rfl ?_;obtain rfl:=iS a;exact AQ ((decide (sym_1< (p_0.1.2.1:Int))),()) rfl ⟨φ,(bZ _),(by rw [l]),c⟩
  obtain rfl:=iS a;exact AQ (false,()) rfl ⟨φ,(bZ _),rfl,c⟩
 rintro z2 a0 ⟨n,o,rfl,p⟩;try dsimp only at hd
 obtain rfl:=iS hd;exact AB ⟨n,z2.1,o,rfl,rfl,p.tail⟩
noncomputable def Aw (s_0:List Bu) (v_1:Bu):Option Int:=
 (C2 (σ:=Unit) (β:=Int) 0 (s_0.length:Int) () fun i_z3 z3=>
  (idx s_0 i_z3).bind fun e25=>
  cond ((v_1.1==e25.1) && ((v_1.2==e25.2) && true))
  (some (dB i_z3))
  (some (dC ()))).bind fun e_z2=>match e_z2 with
 |.next z2=>
  some (-1:Int)
 |.done q42=>some q42
theorem Ds {s_0:Slc}{c:List Bu}{v_1:Int×Int×Unit}(e:Ro.SliceIs Ck φ s_0 c) (s0:St φ (F) h) {r:Int}(hd:Aw c (v_1.1,v_1.2.1)=some r):
 CallsH bW 151 [(sv s_0),(.agg #[(.int .i64 v_1.1),(.int .i64 v_1.2.1)])] h (Ar fun v h'=>∃ψ:AD,∃y:Int,Sub φ ψ∧v=((.one aI):Sh).val y∧y=r∧St ψ (F) h'):=by
 refine AO mixed Tryz.func151 ?_;rw [Cf];unfold Bv;unfold Aw at hd;have f:s_0.2.1=cK c:=e.length;refine AV (vs:=[.int .i64 v_1.1,.int .i64 v_1.2.1]) s0 fun r1 aa n=> ?_;obtain ⟨ab,o,hd⟩:=bS hd;refine BK o (fun p (y:Int×Int×Unit) w_ g=>∃ψ:AD,Sub φ ψ∧y.1=p∧()=g∧St ψ (cW 70 r1 [.int .i64 v_1.1,.int .i64 v_1.2.1]::F) w_) ((0:Int),(0:Int),()) rfl ⟨φ,(bZ _),rfl,rfl,n⟩ ?_ ?_ ?_
 ·rintro _ z3 ac _ _ ⟨i,d,rfl,rfl,b⟩ a q j k s;try dsimp only at a q j k
  refine Aa (dT f j)<|AA (x:=v_1.1) b rfl<|AA (x:=v_1.2.1) b rfl ?_;obtain ⟨l,t,a⟩:=bS a;obtain ⟨ad,ae,u,w,z,m⟩:=(e.mono d).get t;refine AF _ u (AY w ?_);obtain ⟨_,_,rfl,rfl,rfl⟩:=z;refine AC (x:=l.1) (AE b.sub (m 0 _ rfl)) rfl<|AC (x:=l.2) (by rw [Ah];exact (AE b.sub (m 1 _ rfl))) rfl<|AK a rfl (fun _ a=> ?_) (fun _ a=> ?_)
  ·obtain rfl:=iS a;obtain rfl:=s _ rfl;try dsimp only at hd
   obtain rfl:=iS hd;exact Ag (Ai (AB ⟨i,z3.1,d,rfl,rfl,b.tail⟩))
  obtain rfl:=iS a;exact Ad ((wN z3.1),z3.2.1,()) _ rfl rfl ⟨i,d,k,rfl,b⟩
 ·rintro _ z3 af _ ⟨a2,a3,rfl,rfl,a4⟩ a5 a6;subst a6;refine AT (dF f a5)<|AJ (AL (z3.1,z3.2.1,()) rfl ⟨_,rfl,_,a2,a3,rfl,rfl,a4⟩)
 rintro z2 ag ⟨_,rfl,_,a7,a8,_,rfl,a9⟩;try dsimp only at hd
 obtain rfl:=iS hd;exact AB ⟨a7,(-1:Int),a8,rfl,rfl,a9.tail⟩
theorem Dc {s_0:Slc}{b:List Bu}{v_1:Int×Int×Unit}(s0:St φ (cR 70 Ck s_0 b::F) h) {r:Int}(hd:Aw b (v_1.1,v_1.2.1)=some r):
 CallsH bW 151 [(sv s_0),(.agg #[(.int .i64 v_1.1),(.int .i64 v_1.2.1)])] h (Ar fun v h'=>∃ψ:AD,∃y:Int,Sub φ ψ∧v=((.one aI):Sh).val y∧y=r∧St ψ (cR 70 Ck s_0 b::F) h'):=by
 refine AO mixed Tryz.func151 ?_;rw [Cf];unfold Bv;unfold Aw at hd;have d:s_0.2.1=cK b:=(s0).rowLen;refine AV (vs:=[.int .i64 v_1.1,.int .i64 v_1.2.1]) s0 fun r1 a9 m=> ?_;obtain ⟨aa,n,hd⟩:=bS hd;refine BK n (fun o (y:Int×Int×Unit) w_ g=>∃ψ:AD,Sub φ ψ∧y.1=o∧()=g∧St ψ (cW 70 r1 [.int .i64 v_1.1,.int .i64 v_1.2.1]::cR 70 Ck s_0 b::F) w_) ((0:Int),(0:Int),()) rfl ⟨φ,(bZ _),rfl,rfl,m.at1.at1⟩ ?_ ?_ ?_
 ·rintro _ z3 ab _ _ ⟨e,f,rfl,rfl,c⟩ a p i j q;try dsimp only at a p i j
  refine Aa (dT d i)<|AA (x:=v_1.1) c rfl<|AA (x:=v_1.2.1) c rfl ?_;obtain ⟨k,s,a⟩:=bS a;obtain ⟨ac,ad,t,u,w,l⟩:=(c.at1).get s;refine AF _ t (AY u ?_);obtain ⟨_,_,rfl,rfl,rfl⟩:=w;refine AC (x:=k.1) (l 0 _ rfl) rfl<|AC (x:=k.2) (by rw [Ah];exact (l 1 _ rfl)) rfl<|AK a rfl (fun _ a=> ?_) (fun _ a=> ?_)
  ·obtain rfl:=iS a;obtain rfl:=q _ rfl;try dsimp only at hd
   obtain rfl:=iS hd;exact Ag (Ai (AB ⟨e,z3.1,f,rfl,rfl,c.tail⟩))
  obtain rfl:=iS a;exact Ad ((wN z3.1),z3.2.1,()) _ rfl rfl ⟨e,f,j,rfl,c.at1.at1⟩
 ·rintro _ z3 ae _ ⟨a1,a2,rfl,rfl,a3⟩ a4 a5;subst a5;refine AT (dF d a4)<|AJ (AL (z3.1,z3.2.1,()) rfl ⟨_,rfl,_,a1,a2,rfl,rfl,a3.at1.at1⟩)
 rintro z2 af ⟨_,rfl,_,a6,a7,_,rfl,a8⟩;try dsimp only at hd
 obtain rfl:=iS hd;exact AB ⟨a6,(-1:Int),a7,rfl,rfl,a8.tail⟩
noncomputable def An (s_0:List Bu) (v_1:Bu):Option Bool:=(Aw s_0 (v_1.1,v_1.2)).bind fun t4=>some (decide (t4≥ 0))
theorem DM {s_0:Slc}{b:List Bu}{v_1:Int×Int×Unit}(c:Ro.SliceIs Ck φ s_0 b) (s0:St φ (F) h) {r:Bool}(hd:An b (v_1.1,v_1.2.1)=some r):
 CallsH bW 115 [(sv s_0),(.agg #[(.int .i64 v_1.1),(.int .i64 v_1.2.1)])] h (Ar fun v h'=>∃ψ:AD,∃y:Bool,Sub φ ψ∧v=((.one aB):Sh).val y∧y=r∧St ψ (F) h'):=by
 refine AO mixed Tryz.func115 ?_;rw [CT];unfold Bh;unfold An at hd;refine AV (vs:=[.int .i64 v_1.1,.int .i64 v_1.2.1]) s0 fun r1 i a=>AA (x:=v_1.1) a rfl<|AA (x:=v_1.2.1) a rfl ?_;obtain ⟨j,d,hd⟩:=bS hd;refine AI (Ds (v_1:=(v_1.1,v_1.2.1,())) c a d) ?_;rintro _ k ⟨e,t4,f,rfl,rfl,g⟩;refine ⟨t4,rfl,?_⟩;obtain rfl:=iS hd;exact AB ⟨e,(decide (t4≥ (0:Int))),f,rfl,rfl,g.tail⟩
theorem DI {s_0:Slc}{a:List Bu}{v_1:Int×Int×Unit}(s0:St φ (cR 70 Ck s_0 a::F) h) {r:Bool}(hd:An a (v_1.1,v_1.2.1)=some r):
 CallsH bW 115 [(sv s_0),(.agg #[(.int .i64 v_1.1),(.int .i64 v_1.2.1)])] h (Ar fun v h'=>∃ψ:AD,∃y:Bool,Sub φ ψ∧v=((.one aB):Sh).val y∧y=r∧St ψ (cR 70 Ck s_0 a::F) h'):=by
 refine AO mixed Tryz.func115 ?_;rw [CT];unfold Bh;unfold An at hd;refine AV (vs:=[.int .i64 v_1.1,.int .i64 v_1.2.1]) s0 fun r1 g b=>AA (x:=v_1.1) b rfl<|AA (x:=v_1.2.1) b rfl ?_;obtain ⟨i,c,hd⟩:=bS hd;refine AI (Dc (v_1:=(v_1.1,v_1.2.1,())) b.at1 c) ?_;rintro _ j ⟨d,t4,e,rfl,rfl,f⟩;refine ⟨t4,rfl,?_⟩;obtain rfl:=iS hd;exact AB ⟨d,(decide (t4≥ (0:Int))),e,rfl,rfl,f.at1.tail⟩
noncomputable def CA (c_0:Int):Option Bool:=(cond (c_0==95) (some true) (cond (decide (c_0≥ 97)) (cond (decide (c_0≤122)) (some true) (cond (decide (c_0≥ 65)) (some (decide (c_0≤90))) (some false))) (cond (decide (c_0≥ 65)) (some (decide (c_0≤90))) (some false)))).bind fun z1=>some z1
theorem Hd {c_0:Int}(s0:St φ (F) h) {r:Bool}(hd:CA c_0=some r):
 CallsH bW 167 [(.int .u8 c_0)] h (Ar fun v h'=>∃ψ:AD,∃y:Bool,Sub φ ψ∧v=((.one aB):Sh).val y∧y=r∧St ψ (F) h'):=by
 refine AO mixed Tryz.func167 ?_;rw [HY];unfold Ez;unfold CA at hd;obtain ⟨b,a,hd⟩:=bS hd;refine Aj (fun (y:Bool×Unit) w_ g=>∃ψ:AD,Sub φ ψ∧y.1=g∧St ψ (F) w_) (g:=b) ?_ ?_
 ·refine AK a rfl (fun _ a=> ?_) (fun _ a=> ?_)
  ·obtain rfl:=iS a;exact AQ (true,()) rfl ⟨φ,(bZ _),rfl,s0⟩
  refine AK a rfl (fun _ a=> ?_) (fun _ a=> ?_)
  ·refine AK a rfl (fun _ a=> ?_) (fun _ a=> ?_)
   ·obtain rfl:=iS a;exact AQ (true,()) rfl ⟨φ,(bZ _),rfl,s0⟩
   refine AK a rfl (fun _ a=> ?_) (fun _ a=> ?_)
   ·obtain rfl:=iS a;exact AQ ((decide (c_0≤(90:Int))),()) rfl ⟨φ,(bZ _),rfl,s0⟩
   obtain rfl:=iS a;exact AQ (false,()) rfl ⟨φ,(bZ _),rfl,s0⟩
  refine AK a rfl (fun _ a=> ?_) (fun _ a=> ?_)
  ·obtain rfl:=iS a;exact AQ ((decide (c_0≤(90:Int))),()) rfl ⟨φ,(bZ _),rfl,s0⟩
  obtain rfl:=iS a;exact AQ (false,()) rfl ⟨φ,(bZ _),rfl,s0⟩
 rintro z1 f ⟨c,d,rfl,e⟩;try dsimp only at hd
 obtain rfl:=iS hd;exact AB ⟨c,z1.1,d,rfl,rfl,e⟩
noncomputable def Dd (c_0:Int):Option Bool:=(cond (decide (c_0≥ 48)) (some (decide (c_0≤57))) (some false)).bind fun z1=>some z1
theorem H8 {c_0:Int}(s0:St φ (F) h) {r:Bool}(hd:Dd c_0=some r):
 CallsH bW 168 [(.int .u8 c_0)] h (Ar fun v h'=>∃ψ:AD,∃y:Bool,Sub φ ψ∧v=((.one aB):Sh).val y∧y=r∧St ψ (F) h'):=by
 refine AO mixed Tryz.func168 ?_;rw [H7];unfold FT;unfold Dd at hd;obtain ⟨b,a,hd⟩:=bS hd;refine Aj (fun (y:Bool×Unit) w_ g=>∃ψ:AD,Sub φ ψ∧y.1=g∧St ψ (F) w_) (g:=b) ?_ ?_
 ·refine AK a rfl (fun _ a=> ?_) (fun _ a=> ?_)
  ·obtain rfl:=iS a;exact AQ ((decide (c_0≤(57:Int))),()) rfl ⟨φ,(bZ _),rfl,s0⟩
  obtain rfl:=iS a;exact AQ (false,()) rfl ⟨φ,(bZ _),rfl,s0⟩
 rintro z1 f ⟨c,d,rfl,e⟩;try dsimp only at hd
 obtain rfl:=iS hd;exact AB ⟨c,z1.1,d,rfl,rfl,e⟩
noncomputable def C3 (s_0:ByteArray):Option Bool:=
 (C2 (σ:=Unit) (β:=Bool) 0 ((bY s_0:Nat):Int) () fun i_z2 z2=>
  (need (0≤i_z2∧i_z2< (bY s_0:Nat))<|
  (CA ((cV (EH s_0 (bU i_z2)):Nat):Int)).bind fun t4=>
  cond (!t4)
  (cond (i_z2==0)
   (some true)
   (need (0≤i_z2∧i_z2< (bY s_0:Nat))<|
    (Dd ((cV (EH s_0 (bU i_z2)):Nat):Int)).bind fun t5=>
    some (!t5)))
  (some false)).bind fun z3=>
  cond z3
  (some (dB false))
  (some (dC ()))).bind fun e_z1=>match e_z1 with
 |.next z1=>
  some (!(bX s_0==bX {data:=#[]}))
 |.done q47=>some q47
theorem Ik {s_0:ByteArray}(s0:St φ (F) h) {r:Bool}(hd:C3 s_0=some r):
 CallsH bW 153 [(.string s_0)] h (Ar fun v h'=>∃ψ:AD,∃y:Bool,Sub φ ψ∧v=((.one aB):Sh).val y∧y=r∧St ψ (F) h'):=by
 refine AO mixed Tryz.func153 ?_;rw [Ij];unfold Fy;unfold C3 at hd;obtain ⟨aa,n,hd⟩:=bS hd;refine BK n (fun o (y:Int×Bool×Unit) w_ g=>∃ψ:AD,Sub φ ψ∧y.1=o∧()=g∧St ψ (F) w_) ((0:Int),false,()) rfl ⟨φ,(bZ _),rfl,rfl,s0⟩ ?_ ?_ ?_
 ·rintro _ z2 ab _ _ ⟨p,e,rfl,rfl,q⟩ b s f i t;try dsimp only at b s f i
  refine Aa (by exact decide_eq_true f) ?_;obtain ⟨u,a,b⟩:=bS b;refine Aj (fun (y:Bool×Unit) w_ g=>∃ψ:AD,Sub p ψ∧y.1=g∧St ψ (F) w_) (g:=u) ?_ ?_
  ·refine Ch a id fun ac a=> ?_;obtain ⟨ad,w,a⟩:=bS a;refine AI (Hd q w) ?_;rintro _ ae ⟨j,t4,c,rfl,rfl,d⟩;refine ⟨t4,rfl,?_⟩;refine AK a rfl (fun _ a=> ?_) (fun _ a=> ?_)
   ·refine AK a rfl (fun _ a=> ?_) (fun _ a=> ?_)
    ·obtain rfl:=iS a;exact AQ (true,()) rfl ⟨j,c,rfl,d⟩
    refine Ch a id fun af a=> ?_;obtain ⟨ag,x,a⟩:=bS a;refine AI (H8 d x) ?_;rintro _ ah ⟨z,t5,a0,rfl,rfl,a1⟩;refine ⟨t5,rfl,?_⟩;obtain rfl:=iS a;exact AQ ((!t5),()) rfl ⟨z,(c.trans a0),rfl,a1⟩
   obtain rfl:=iS a;exact AQ (false,()) rfl ⟨j,c,rfl,d⟩
  rintro z3 ai ⟨k,l,rfl,m⟩;try dsimp only at b
  refine AK b rfl (fun _ b=> ?_) (fun _ b=> ?_)
  ·obtain rfl:=iS b;obtain rfl:=t _ rfl;try dsimp only at hd
   obtain rfl:=iS hd;exact Ag (Ai (AB ⟨k,false,(e.trans l),rfl,rfl,m⟩))
  obtain rfl:=iS b;exact Ad ((wN z2.1),z2.2.1,()) _ rfl rfl ⟨k,(e.trans l),i,rfl,m⟩
 ·rintro _ z2 aj _ ⟨a2,a3,rfl,rfl,a4⟩ a5 a6;subst a6;refine AT (by exact decide_eq_false (Int.not_lt.2 a5))<|AJ (AL (z2.1,z2.2.1,()) rfl ⟨_,rfl,_,a2,a3,rfl,rfl,a4⟩)
 rintro z1 ak ⟨_,rfl,_,a7,a8,_,rfl,a9⟩;try dsimp only at hd
 obtain rfl:=iS hd;exact AB ⟨a7,(!(bX s_0==bX {data:=#[]})),a8,rfl,rfl,a9⟩
noncomputable def BB (s_0:ByteArray):Option Bool:=(cond (decide (((bY s_0:Nat):Int) ≤32)) ((C3 s_0).bind fun t2=>some t2) (some false)).bind fun z1=>some z1
theorem CB {s_0:ByteArray}(s0:St φ (F) h) {r:Bool}(hd:BB s_0=some r):
 CallsH bW 120 [(.string s_0)] h (Ar fun v h'=>∃ψ:AD,∃y:Bool,Sub φ ψ∧v=((.one aB):Sh).val y∧y=r∧St ψ (F) h'):=by
 refine AO mixed Tryz.func120 ?_;rw [Ih];unfold Fv;unfold BB at hd;obtain ⟨b,a,hd⟩:=bS hd;refine Aj (fun (y:Bool×Unit) w_ g=>∃ψ:AD,Sub φ ψ∧y.1=g∧St ψ (F) w_) (g:=b) ?_ ?_
 ·refine AK a rfl (fun _ a=> ?_) (fun _ a=> ?_)
  ·obtain ⟨l,c,a⟩:=bS a;refine AI (Ik s0 c) ?_;rintro _ m ⟨d,t2,e,rfl,rfl,f⟩;refine ⟨t2,rfl,?_⟩;obtain rfl:=iS a;exact AQ (t2,()) rfl ⟨d,e,rfl,f⟩
  obtain rfl:=iS a;exact AQ (false,()) rfl ⟨φ,(bZ _),rfl,s0⟩
 rintro z1 n ⟨i,j,rfl,k⟩;try dsimp only at hd
 obtain rfl:=iS hd;exact AB ⟨i,z1.1,j,rfl,rfl,k⟩
noncomputable def Be (p_0:HR):Option Bool:=
 cond (!(bX p_0.1==bX {data:=#[]}))
 ((cond (decide (((bY p_0.1:Nat):Int) ≤32))
  (cond (bX p_0.2.1==bX {data:=#[]})
   (some (!p_0.2.2))
   (some false))
  (some false)).bind fun z3=>
  some z3)
 ((C2 (σ:=Unit) (β:=Bool) 1 ((bY p_0.2.1:Nat):Int) () fun i_z8 z8=>
  need (0≤i_z8∧i_z8< (bY p_0.2.1:Nat))<|
  need (0≤(bR .i64 (i_z8 - 1))∧(bR .i64 (i_z8 - 1)) < (bY p_0.2.1:Nat))<|
  cond (decide (((cV (EH p_0.2.1 (bU i_z8)):Nat):Int) ≤((cV (EH p_0.2.1 (bU (bR .i64 (i_z8 - 1)))):Nat):Int)))
  (some (dB false))
  (some (dC ()))).bind fun e_z7=>match e_z7 with
  |.next z7=>
   some (!(bX p_0.2.1==bX {data:=#[]}))
  |.done q40=>some q40)
theorem EB {p_0:ByteArray×ByteArray×Bool×Unit}(s0:St φ (F) h) {r:Bool}(hd:Be (p_0.1,p_0.2.1,p_0.2.2.1)=some r):
 CallsH bW 121 [(.agg #[(.string p_0.1),(.string p_0.2.1),(.bool p_0.2.2.1)])] h (Ar fun v h'=>∃ψ:AD,∃y:Bool,Sub φ ψ∧v=((.one aB):Sh).val y∧y=r∧St ψ (F) h'):=by
 refine AO mixed Tryz.func121 ?_;rw [HJ];unfold Ef;unfold Be at hd;refine AV (vs:=[.string p_0.1,.string p_0.2.1,.bool p_0.2.2.1]) s0 fun r1 a4 c=>AA (x:=p_0.1) c rfl<|AK hd rfl (fun _ hd=> ?_) (fun _ hd=> ?_)
 ·obtain ⟨m,b,hd⟩:=bS hd;refine Aj (fun (y:Bool×Unit) w_ g=>∃ψ:AD,Sub φ ψ∧y.1=g∧St ψ (Wq3 r1 p_0::F) w_) (g:=m) ?_ ?_
  ·refine AA (x:=p_0.1) c rfl<|AK b rfl (fun _ b=> ?_) (fun _ b=> ?_)
   ·refine AA (x:=p_0.2.1) c rfl<|AK b rfl (fun _ b=> ?_) (fun _ b=> ?_)
    ·refine AA (x:=p_0.2.2.1) c rfl ?_;obtain rfl:=iS b;exact AQ ((!p_0.2.2.1),()) rfl ⟨φ,(bZ _),rfl,c⟩
    obtain rfl:=iS b;exact AQ (false,()) rfl ⟨φ,(bZ _),rfl,c⟩
   obtain rfl:=iS b;exact AQ (false,()) rfl ⟨φ,(bZ _),rfl,c⟩
  rintro z3 a5 ⟨n,o,rfl,p⟩;try dsimp only at hd
  obtain rfl:=iS hd;exact AB ⟨n,z3.1,o,rfl,rfl,p.tail⟩
 obtain ⟨a6,q,hd⟩:=bS hd;refine BK q (fun s (y:Int×Bool×Unit) w_ g=>∃ψ:AD,Sub φ ψ∧y.1=s∧()=g∧St ψ (Wq3 r1 p_0::F) w_) ((1:Int),false,()) rfl ⟨φ,(bZ _),rfl,rfl,c⟩ ?_ ?_ ?_
 ·rintro _ z8 a7 _ _ ⟨e,f,rfl,rfl,d⟩ a t i j u;try dsimp only at a t i j
  refine AA (x:=p_0.2.1) d rfl<|Aa (by exact decide_eq_true i)<|AA (x:=p_0.2.1) d rfl<|Ch a id fun a8 a=>AA (x:=p_0.2.1) d rfl<|Ch a id fun a9 a=>AK a rfl (fun _ a=> ?_) (fun _ a=> ?_)
  ·obtain rfl:=iS a;obtain rfl:=u _ rfl;try dsimp only at hd
   obtain rfl:=iS hd;exact Ag (Ai (AB ⟨e,false,f,rfl,rfl,d.tail⟩))
  obtain rfl:=iS a;exact Ad ((wN z8.1),z8.2.1,()) _ rfl rfl ⟨e,f,j,rfl,d⟩
 ·rintro _ z8 aa _ ⟨w,z,rfl,rfl,k⟩ a0 a1;subst a1;refine AA (x:=p_0.2.1) k rfl<|AT (by exact decide_eq_false (Int.not_lt.2 a0))<|AJ (AL (z8.1,z8.2.1,()) rfl ⟨_,rfl,_,w,z,rfl,rfl,k⟩)
 rintro z7 ab ⟨_,rfl,_,a2,a3,_,rfl,l⟩;try dsimp only at hd
 refine AA (x:=p_0.2.1) l rfl ?_;obtain rfl:=iS hd;exact AB ⟨a2,(!(bX p_0.2.1==bX {data:=#[]})),a3,rfl,rfl,l.tail⟩
noncomputable def CC (s_0:ByteArray):Option Bool:=
 cond (decide (((bY s_0:Nat):Int) >200))
 (some false)
 ((C2 (σ:=Int) (β:=Bool) 0 ((bY s_0:Nat):Int) 1 fun i_z2 z2=>
  need (0≤i_z2∧i_z2< (bY s_0:Nat))<|
  (cond (((cV (EH s_0 (bU i_z2)):Nat):Int)==123)
  (some (bR .i64 (z2+1)))
  (some z2)).bind fun z3=>
  need (0≤i_z2∧i_z2< (bY s_0:Nat))<|
  (cond (((cV (EH s_0 (bU i_z2)):Nat):Int)==125)
  (some (bR .i64 (z3 - 1)))
  (some z3)).bind fun z4=>
  (cond (decide (z4>4))
  (some true)
  (some (z4==0))).bind fun z5=>
  cond z5
  (some (dB false))
  (some (dC z4))).bind fun e_z1=>match e_z1 with
  |.next z1=>
   some (z1==1)
  |.done q48=>some q48)
theorem ET {s_0:ByteArray}(s0:St φ (F) h) {r:Bool}(hd:CC s_0=some r):
 CallsH bW 122 [(.string s_0)] h (Ar fun v h'=>∃ψ:AD,∃y:Bool,Sub φ ψ∧v=((.one aB):Sh).val y∧y=r∧St ψ (F) h'):=by
 refine AO mixed Tryz.func122 ?_;rw [HX];unfold Ey;unfold CC at hd;refine AK hd rfl (fun _ hd=> ?_) (fun _ hd=> ?_)
 ·obtain rfl:=iS hd;exact AB ⟨φ,false,(bZ _),rfl,rfl,s0⟩
 obtain ⟨ac,w,hd⟩:=bS hd;refine BK w (fun x (y:Int×Int×Bool×Unit) w_ g=>∃ψ:AD,Sub φ ψ∧y.1=x∧y.2.1=g∧St ψ (F) w_) ((0:Int),(1:Int),false,()) rfl ⟨φ,(bZ _),rfl,rfl,s0⟩ ?_ ?_ ?_
 ·rintro _ z2 ad _ _ ⟨e,j,rfl,rfl,k⟩ a z l m a0;try dsimp only at a z l m
  refine Aa (by exact decide_eq_true l)<|Ch a id fun ae a=> ?_;obtain ⟨a1,b,a⟩:=bS a;refine Aj (fun (y:Int×Unit) w_ g=>∃ψ:AD,Sub e ψ∧y.1=g∧St ψ (F) w_) (g:=a1) ?_ ?_
  ·refine AK b rfl (fun _ b=> ?_) (fun _ b=> ?_)
   ·obtain rfl:=iS b;exact AQ ((wN z2.2.1),()) rfl ⟨e,(bZ _),rfl,k⟩
   obtain rfl:=iS b;exact AQ (z2.2.1,()) rfl ⟨e,(bZ _),rfl,k⟩
  rintro z3 af ⟨f,n,rfl,o⟩;try dsimp only at a
  refine Ch a id fun ag a=> ?_;obtain ⟨a2,c,a⟩:=bS a;refine Aj (fun (y:Int×Unit) w_ g=>∃ψ:AD,Sub f ψ∧y.1=g∧St ψ (F) w_) (g:=a2) ?_ ?_
  ·refine AK c rfl (fun _ c=> ?_) (fun _ c=> ?_)
   ·obtain rfl:=iS c;exact AQ ((bR .i64 (z3.1 - (1:Int))),()) rfl ⟨f,(bZ _),rfl,o⟩
   obtain rfl:=iS c;exact AQ (z3.1,()) rfl ⟨f,(bZ _),rfl,o⟩
  rintro z4 ah ⟨i,p,rfl,q⟩;try dsimp only at a
  obtain ⟨a3,d,a⟩:=bS a;refine Aj (fun (y:Bool×Unit) w_ g=>∃ψ:AD,Sub i ψ∧y.1=g∧St ψ (F) w_) (g:=a3) ?_ ?_
  ·refine AK d rfl (fun _ d=> ?_) (fun _ d=> ?_)
   ·obtain rfl:=iS d;exact AQ (true,()) rfl ⟨i,(bZ _),rfl,q⟩
   obtain rfl:=iS d;exact AQ ((z4.1==(0:Int)),()) rfl ⟨i,(bZ _),rfl,q⟩
  rintro z5 ai ⟨s,t,rfl,u⟩;try dsimp only at a
  refine AK a rfl (fun _ a=> ?_) (fun _ a=> ?_)
  ·obtain rfl:=iS a;obtain rfl:=a0 _ rfl;try dsimp only at hd
   obtain rfl:=iS hd;exact Ag (Ai (AB ⟨s,false,(((j.trans n).trans p).trans t),rfl,rfl,u⟩))
  obtain rfl:=iS a;exact Ad ((wN z2.1),z4.1,z2.2.2.1,()) _ rfl rfl ⟨s,(((j.trans n).trans p).trans t),m,rfl,u⟩
 ·rintro _ z2 aj _ ⟨a4,a5,rfl,rfl,a6⟩ a7 a8;subst a8;refine AT (by exact decide_eq_false (Int.not_lt.2 a7))<|AJ (AL (z2.1,z2.2.1,z2.2.2.1,()) rfl ⟨_,rfl,_,a4,a5,rfl,rfl,a6⟩)
 rintro z1 ak ⟨_,rfl,_,a9,aa,_,rfl,ab⟩;try dsimp only at hd
 obtain rfl:=iS hd;exact AB ⟨a9,(z1.2.1==(1:Int)),aa,rfl,rfl,ab⟩
noncomputable def BO (l_0:List ByteArray):Option Bool:=
 (C2 (σ:=Unit) (β:=Bool) 0 (l_0.length:Int) () fun i_z2 z2=>
  (idx l_0 i_z2).bind fun e17=>
  (BB e17).bind fun t5=>
  cond (!t5)
  (some (dB false))
  ((C2 (σ:=Unit) (β:=Bool) 0 i_z2 () fun i_z7 z7=>
   (idx l_0 i_z7).bind fun e38=>
   (idx l_0 i_z2).bind fun e41=>
   cond (bX e38==bX e41)
   (some (dB false))
   (some (dC ()))).bind fun e_z6=>match e_z6 with
   |.next z6=>
    some (dC ())
   |.done q54=>some (dB q54))).bind fun e_z1=>match e_z1 with
 |.next z1=>
  some true
 |.done q67=>some q67
theorem E0 {l_0:Slc}{j:List ByteArray}(e:Ro.SliceIs cA φ l_0 j) (s0:St φ (F) h) {r:Bool}(hd:BO j=some r):
 CallsH bW 123 [(sv l_0)] h (Ar fun v h'=>∃ψ:AD,∃y:Bool,Sub φ ψ∧v=((.one aB):Sh).val y∧y=r∧St ψ (F) h'):=by
 refine AO mixed Tryz.func123 ?_;rw [Ii];unfold Fx;unfold BO at hd;have l:l_0.2.1=cK j:=e.length;obtain ⟨ao,w,hd⟩:=bS hd;refine BK w (fun x (y:Int×Bool×Unit) w_ g=>∃ψ:AD,Sub φ ψ∧y.1=x∧()=g∧St ψ (F) w_) ((0:Int),false,()) rfl ⟨φ,(bZ _),rfl,rfl,s0⟩ ?_ ?_ ?_
 ·rintro _ z2 ap _ _ ⟨aq,c,rfl,rfl,m⟩ a z n o p;try dsimp only at a z n o
  refine Aa (dT l n) ?_;obtain ⟨ar,a0,a⟩:=bS a;refine Ce e a0 (dJ c m.sub) ?_;obtain ⟨au,a1,a⟩:=bS a;refine AI (CB m a1) ?_;rintro _ av ⟨k,t5,d,rfl,rfl,q⟩;refine ⟨t5,rfl,?_⟩;refine AK a rfl (fun _ a=> ?_) (fun _ a=> ?_)
  ·obtain rfl:=iS a;obtain rfl:=p _ rfl;try dsimp only at hd
   obtain rfl:=iS hd;exact Ag (Ai (AB ⟨k,false,(c.trans d),rfl,rfl,q⟩))
  obtain ⟨aw,a2,a⟩:=bS a;refine BK a2 (fun a3 (y:Int×Bool×Unit) w_ g=>∃ψ:AD,Sub k ψ∧y.1=a3∧()=g∧St ψ (F) w_) ((0:Int),z2.2.1,()) rfl ⟨k,(bZ _),rfl,rfl,q⟩ ?_ ?_ ?_
  ·rintro _ z7 ax _ _ ⟨s,f,rfl,rfl,i⟩ b a4 t u a5;try dsimp only at b a4 t u
   refine Aa (by exact decide_eq_true t) ?_;obtain ⟨ay,a6,b⟩:=bS b;refine Ce e a6 (dJ ((c.trans d).trans f) i.sub) ?_;obtain ⟨az,a7,b⟩:=bS b;refine Ce e a7 (dJ ((c.trans d).trans f) i.sub)<|AK b rfl (fun _ b=> ?_) (fun _ b=> ?_)
   ·obtain rfl:=iS b;obtain rfl:=a5 _ rfl;try dsimp only at a
    obtain rfl:=iS a;obtain rfl:=p _ rfl;try dsimp only at hd
    obtain rfl:=iS hd;exact Ag (Ai (Ag (Ai (AB ⟨s,false,((c.trans d).trans f),rfl,rfl,i⟩))))
   obtain rfl:=iS b;exact Ad ((wN z7.1),z7.2.1,()) _ rfl rfl ⟨s,f,u,rfl,i⟩
  ·rintro _ z7 b0 _ ⟨a8,a9,rfl,rfl,aa⟩ ab ac;subst ac;refine AT (by exact decide_eq_false (Int.not_lt.2 ab))<|AJ (AL (z7.1,z7.2.1,()) rfl ⟨_,rfl,_,a8,a9,rfl,rfl,aa⟩)
  rintro z6 b1 ⟨_,rfl,_,ad,ae,_,rfl,af⟩;try dsimp only at a
  obtain rfl:=iS a;exact Ad ((wN z2.1),z6.2.1,()) _ rfl rfl ⟨ad,((c.trans d).trans ae),o,rfl,af⟩
 ·rintro _ z2 b2 _ ⟨ag,ah,rfl,rfl,ai⟩ aj ak;subst ak;refine AT (dF l aj)<|AJ (AL (z2.1,z2.2.1,()) rfl ⟨_,rfl,_,ag,ah,rfl,rfl,ai⟩)
 rintro z1 b3 ⟨_,rfl,_,al,am,_,rfl,an⟩;try dsimp only at hd
 obtain rfl:=iS hd;exact AB ⟨al,true,am,rfl,rfl,an⟩
end
section
variable {φ:AD}{h:AH}{F:List Chk}
theorem CW:HG bW 28 28 9 1:=⟨fE,.inl fE,⟨Tryz.t9,by kernel_rfl,rfl,⟨_,rfl,rfl⟩,by decide,by decide⟩,by decide⟩
theorem Oh:HG bW 102 102 176 4:=⟨eQ,.inl eQ,⟨Tryz.t176,by kernel_rfl,rfl,⟨_,rfl,rfl⟩,by decide,by decide⟩,by decide⟩
theorem Oi:HG bW 104 104 179 2:=⟨eR,.inl eR,⟨Tryz.t179,by kernel_rfl,rfl,⟨_,rfl,rfl⟩,by decide,by decide⟩,by decide⟩
theorem K5:HG bW 105 105 172 4:=⟨eS,.inl eS,⟨Tryz.t172,by kernel_rfl,rfl,⟨_,rfl,rfl⟩,by decide,by decide⟩,by decide⟩
noncomputable def CN (g_0:C1):Option Bool:=
 (cond (decide ((g_0.1.length:Int) >20))
 (some true)
 (cond (decide ((g_0.2.1.length:Int) >4))
  (some true)
  (cond (decide ((g_0.2.2.1.length:Int) >10))
   (some true)
   (cond (decide ((g_0.2.2.2.2.length:Int) < 1))
    (some true)
    (cond (decide ((g_0.2.2.2.2.length:Int) >40))
     (some true)
     ((BB g_0.2.2.2.1).bind fun t9=>
      some (!t9))))))).bind fun z2=>
 cond z2
 (some false)
 ((C2 (σ:=List ByteArray) (β:=Bool) 0 (g_0.1.length:Int) ([]:List ByteArray) fun i_z11 z11=>
  (idx g_0.1 i_z11).bind fun e56=>
  (app z11 ([e56.1]:List ByteArray)).bind fun t17=>
  (idx g_0.1 i_z11).bind fun e82=>
  (Be (e82.2.1,e82.2.2.1,e82.2.2.2)).bind fun t23=>
  cond (!t23)
  (some (dB false))
  (some (dC t17))).bind fun e_z10=>match e_z10 with
  |.next z10=>
   (C2 (σ:=Unit) (β:=Bool) 0 (g_0.2.1.length:Int) () fun i_z25 z25=>
    (idx g_0.2.1 i_z25).bind fun e141=>
    (Be (e141.1,e141.2.1,e141.2.2)).bind fun t32=>
    cond (!t32)
    (some (dB false))
    (some (dC ()))).bind fun e_z24=>match e_z24 with
   |.next z24=>
    (C2 (σ:=List ByteArray) (β:=Bool) 0 (g_0.2.2.1.length:Int) ([]:List ByteArray) fun i_z34 z34=>
     (idx g_0.2.2.1 i_z34).bind fun e198=>
     (app z34 e198.2).bind fun t42=>
     (cond (decide (e198.1< 1))
     (some true)
     (cond (decide (e198.1>3))
      (some true)
      (some ((e198.2.length:Int)==0)))).bind fun z43=>
     cond z43
     (some (dB false))
     (some (dC t42))).bind fun e_z33=>match e_z33 with
    |.next z33=>
     (C2 (σ:=Unit) (β:=Bool) 0 (g_0.2.2.2.2.length:Int) () fun i_z48 z48=>
      (idx g_0.2.2.2.2 i_z48).bind fun e291=>
      ((BB e291.1).bind fun t59=>
      cond (!t59)
      (some true)
      (cond (decide ((e291.2.1.length:Int) >8))
       (some true)
       (cond (!(bX e291.2.2.1==bX {data:=#[]}))
        ((BB e291.2.2.1).bind fun t63=>
         cond (!t63)
         (some true)
         ((CC e291.2.2.2).bind fun t65=>
          some (!t65)))
        ((CC e291.2.2.2).bind fun t67=>
         some (!t67))))).bind fun z57=>
      cond z57
      (some (dB false))
      ((C2 (σ:=Unit) (β:=Bool) 0 (e291.2.1.length:Int) () fun i_z69 z69=>
       (idx e291.2.1 i_z69).bind fun e387=>
       (BB e387).bind fun t74=>
       cond (!t74)
       (some (dB false))
       (some (dC ()))).bind fun e_z68=>match e_z68 with
       |.next z68=>
        some (dC ())
       |.done q422=>some (dB q422))).bind fun e_z47=>match e_z47 with
     |.next z47=>
      ((BO z10).bind fun t76=>
      cond t76
      ((BO z33).bind fun t77=>
       some t77)
      (some false)).bind fun z75=>
      some z75
     |.done q468=>some q468
    |.done q469=>some q469
   |.done q470=>some q470
  |.done q471=>some q471)
theorem H9 {g_0:Slc×Slc×Slc×ByteArray×Slc×Unit}{ai:List GP}{aj:List HR}{ak:List Ec}{al:List C8}(am:Ro.SliceIs Gt φ g_0.1 ai) (b5:Ro.SliceIs Kt φ g_0.2.1 aj) (b6:Ro.SliceIs Gu φ g_0.2.2.1 ak) (b7:Ro.SliceIs GQ φ g_0.2.2.2.2.1 al) (s0:St φ (F) h) {r:Bool}(hd:CN (ai,aj,ak,g_0.2.2.2.1,al)=some r):
 CallsH bW 92 [(.agg #[(sv g_0.1),(sv g_0.2.1),(sv g_0.2.2.1),(.string g_0.2.2.2.1),(sv g_0.2.2.2.2.1)])] h (Ar fun v h'=>∃ψ:AD,∃y:Bool,Sub φ ψ∧v=((.one aB):Sh).val y∧y=r∧St ψ (F) h'):=by
 refine AO mixed Tryz.func92 ?_;rw [H5];unfold FR;unfold CN at hd;have an:g_0.1.2.1=cK ai:=am.length;have ao:g_0.2.1.2.1=cK aj:=b5.length;have ap:g_0.2.2.1.2.1=cK ak:=b6.length;have a9:g_0.2.2.2.2.1.2.1=cK al:=b7.length;refine AV (vs:=[sv g_0.1,sv g_0.2.1,sv g_0.2.2.1,.string g_0.2.2.2.1,sv g_0.2.2.2.2.1]) s0 fun r1 gs j=> ?_;obtain ⟨cj,c,hd⟩:=bS hd;refine Aj (fun (y:Bool×Unit) w_ g=>∃ψ:AD,Sub φ ψ∧y.1=g∧St ψ (Wq1 r1 g_0::F) w_) (g:=cj) ?_ ?_
 ·refine AA (x:=g_0.1) j rfl<|AK c (by rw [an] <;>rfl) (fun _ c=> ?_) (fun _ c=> ?_)
  ·obtain rfl:=iS c;exact AQ (true,()) rfl ⟨φ,(bZ _),rfl,j⟩
  refine AA (x:=g_0.2.1) j rfl<|AK c (by rw [ao] <;>rfl) (fun _ c=> ?_) (fun _ c=> ?_)
  ·obtain rfl:=iS c;exact AQ (true,()) rfl ⟨φ,(bZ _),rfl,j⟩
  refine AA (x:=g_0.2.2.1) j rfl<|AK c (by rw [ap] <;>rfl) (fun _ c=> ?_) (fun _ c=> ?_)
  ·obtain rfl:=iS c;exact AQ (true,()) rfl ⟨φ,(bZ _),rfl,j⟩
  refine AA (x:=g_0.2.2.2.2.1) j rfl<|AK c (by rw [a9] <;>rfl) (fun _ c=> ?_) (fun _ c=> ?_)
  ·obtain rfl:=iS c;exact AQ (true,()) rfl ⟨φ,(bZ _),rfl,j⟩
  refine AA (x:=g_0.2.2.2.2.1) j rfl<|AK c (by rw [a9] <;>rfl) (fun _ c=> ?_) (fun _ c=> ?_)
  ·obtain rfl:=iS c;exact AQ (true,()) rfl ⟨φ,(bZ _),rfl,j⟩
  refine AA (x:=g_0.2.2.2.1) j rfl ?_;obtain ⟨gt,ck,c⟩:=bS c;refine AI (CB j ck) ?_;rintro _ gu ⟨cl,t9,cm,rfl,rfl,cn⟩;refine ⟨t9,rfl,?_⟩;obtain rfl:=iS c;exact AQ ((!t9),()) rfl ⟨cl,cm,rfl,cn⟩
 rintro z2 gv ⟨aq,k,rfl,b8⟩;try dsimp only at hd
 refine AK hd rfl (fun _ hd=> ?_) (fun _ hd=> ?_)
 ·obtain rfl:=iS hd;exact AB ⟨aq,false,k,rfl,rfl,b8.tail⟩
 obtain ⟨gw,co,hd⟩:=bS hd;refine BK co (fun cp (y:Int×Slc×Bool×Unit) w_ g=>∃ψ:AD,∃b9:List ByteArray,Sub aq ψ∧y.1=cp∧b9=g∧St ψ (cR 9 cA y.2.1 b9::Wq1 r1 g_0::F) w_) ((0:Int),((none,0,0):Slc),false,()) rfl ⟨aq,[],(bZ _),rfl,rfl,(((b8.nil 9 cA).at1).at1)⟩ ?_ ?_ ?_
 ·rintro _ z11 gx _ _ ⟨gy,gz,aa,rfl,rfl,ab⟩ e cq ba bb cr;try dsimp only at e cq ba bb
  refine AA (x:=g_0.1) ab.at1 rfl<|Aa (dT an ba)<|AA (x:=g_0.1) ab.at1 rfl ?_;obtain ⟨ar,cs,e⟩:=bS e;obtain ⟨h0,h1,ct,cu,cv,cw⟩:=(am.mono (k.trans aa)).get cs;refine AF _ ct (AY cu ?_);obtain ⟨_,_,rfl,rfl,⟨_,_,rfl,rfl,⟨_,_,rfl,rfl,rfl⟩⟩⟩:=cv;refine AC (x:=ar.1) (AE ab.sub (cw 0 _ rfl)) rfl<|AV (vs:=[.string ar.1]) ab fun r16 h2 bc=> ?_;obtain ⟨d3,d4,e⟩:=bS e;refine Am (r:=cA) (ms:=([ar.1]:List ByteArray)) CW bc.tail rfl (dI bc) (.cons (a:=[_]) rfl .nil) rfl d4 ?_;intro t17 h3 a4;refine AA (x:=g_0.1) a4.at1 rfl ?_;obtain ⟨w,d5,e⟩:=bS e;obtain ⟨h4,h5,d6,d7,d8,au⟩:=(am.mono (k.trans aa)).get d5;refine AF _ d6 (AY d7 ?_);obtain ⟨_,_,rfl,rfl,⟨_,_,rfl,rfl,⟨_,_,rfl,rfl,rfl⟩⟩⟩:=d8;refine AC (x:=w.2.1) (by rw [Ah];exact (AE a4.sub (au 1 _ rfl))) rfl<|AC (x:=w.2.2.1) (by rw [Ah,Ah];exact (AE a4.sub (au 2 _ rfl))) rfl<|AC (x:=w.2.2.2) (by rw [Ah,Ah];exact (AE a4.sub (au 3 _ rfl))) rfl ?_;obtain ⟨h6,df,e⟩:=bS e;refine AI (EB (p_0:=(w.2.1,w.2.2.1,w.2.2.2,())) a4 df) ?_;rintro _ h7 ⟨bd,t23,be,rfl,rfl,bf⟩;refine ⟨t23,rfl,?_⟩;refine AK e rfl (fun _ e=> ?_) (fun _ e=> ?_)
  ·obtain rfl:=iS e;obtain rfl:=cr _ rfl;try dsimp only at hd
   obtain rfl:=iS hd;exact Ag (Ai (AB ⟨bd,false,((k.trans aa).trans be),rfl,rfl,bf.tail.tail⟩))
  obtain rfl:=iS e;exact Ad ((wN z11.1),t17,z11.2.2.1,()) _ rfl rfl ⟨bd,d3,(aa.trans be),bb,rfl,bf.at1.at1⟩
 ·rintro _ z11 h8 _ ⟨dg,dh,di,rfl,rfl,bg⟩ dj dk;subst dk;refine AA (x:=g_0.1) bg.at1 rfl<|AT (dF an dj)<|AJ (AL (z11.1,z11.2.1,z11.2.2.1,()) rfl ⟨_,rfl,_,dg,dh,di,rfl,rfl,bg.at1.at1⟩)
 rintro z10 h9 ⟨_,rfl,_,bh,z,p,_,rfl,dl⟩;try dsimp only at hd
 obtain ⟨hb,dm,hd⟩:=bS hd;refine BK dm (fun dn (y:Int×Bool×Unit) w_ g=>∃ψ:AD,Sub bh ψ∧y.1=dn∧()=g∧St ψ (cR 9 cA z10.2.1 z::Wq1 r1 g_0::F) w_) ((0:Int),z10.2.2.1,()) rfl ⟨bh,(bZ _),rfl,rfl,dl.at1.at1⟩ ?_ ?_ ?_
 ·rintro _ z25 hc _ _ ⟨he,av,rfl,rfl,a0⟩ l dp bi bj dq;try dsimp only at l dp bi bj
  refine AA (x:=g_0.2.1) a0.at1 rfl<|Aa (dT ao bi)<|AA (x:=g_0.2.1) a0.at1 rfl ?_;obtain ⟨a1,dr,l⟩:=bS l;obtain ⟨hf,hg,ds,dt,du,aw⟩:=(b5.mono ((k.trans p).trans av)).get dr;refine AF _ ds (AY dt ?_);obtain ⟨_,_,rfl,rfl,⟨_,_,rfl,rfl,rfl⟩⟩:=du;refine AC (x:=a1.1) (AE a0.sub (aw 0 _ rfl)) rfl<|AC (x:=a1.2.1) (by rw [Ah];exact (AE a0.sub (aw 1 _ rfl))) rfl<|AC (x:=a1.2.2) (by rw [Ah];exact (AE a0.sub (aw 2 _ rfl))) rfl ?_;obtain ⟨hh,dz,l⟩:=bS l;refine AI (EB (p_0:=(a1.1,a1.2.1,a1.2.2,())) a0 dz) ?_;rintro _ hi ⟨bk,t32,bl,rfl,rfl,bm⟩;refine ⟨t32,rfl,?_⟩;refine AK l rfl (fun _ l=> ?_) (fun _ l=> ?_)
  ·obtain rfl:=iS l;obtain rfl:=dq _ rfl;try dsimp only at hd
   obtain rfl:=iS hd;exact Ag (Ai (AB ⟨bk,false,(((k.trans p).trans av).trans bl),rfl,rfl,bm.tail.tail⟩))
  obtain rfl:=iS l;exact Ad ((wN z25.1),z25.2.1,()) _ rfl rfl ⟨bk,(av.trans bl),bj,rfl,bm.at1.at1⟩
 ·rintro _ z25 hj _ ⟨e0,e1,rfl,rfl,bn⟩ e2 e3;subst e3;refine AA (x:=g_0.2.1) bn.at1 rfl<|AT (dF ao e2)<|AJ (AL (z25.1,z25.2.1,()) rfl ⟨_,rfl,_,e0,e1,rfl,rfl,bn.at1.at1⟩)
 rintro z24 hk ⟨_,rfl,_,bo,a2,_,rfl,e4⟩;try dsimp only at hd
 obtain ⟨hl,e5,hd⟩:=bS hd;refine BK e5 (fun e6 (y:Int×Slc×Bool×Unit) w_ g=>∃ψ:AD,∃bp:List ByteArray,Sub bo ψ∧y.1=e6∧bp=g∧St ψ (cR 9 cA y.2.1 bp::cR 9 cA z10.2.1 z::Wq1 r1 g_0::F) w_) ((0:Int),((none,0,0):Slc),z24.2.1,()) rfl ⟨bo,[],(bZ _),rfl,rfl,((((e4.nil 9 cA).at2).at2).at2)⟩ ?_ ?_ ?_
 ·rintro _ z34 hm _ _ ⟨ac,hn,ax,rfl,rfl,a5⟩ i e7 bq br e8;try dsimp only at i e7 bq br
  refine AA (x:=g_0.2.2.1) a5.at2 rfl<|Aa (dT ap bq)<|AA (x:=g_0.2.2.1) a5.at2 rfl ?_;obtain ⟨a6,e9,i⟩:=bS i;obtain ⟨ho,hp,ea,eb,ec,bs⟩:=(b6.mono (((k.trans p).trans a2).trans ax)).get e9;refine AF _ ea (AY eb ?_);obtain ⟨_,_,rfl,rfl,⟨a7,rfl,bt⟩⟩:=ec;have bu:=bt.length;refine AC (x:=a6.1) (AE a5.sub (bs 0 _ rfl)) rfl<|AC (x:=a7) (by rw [Ah];exact (AE a5.sub (bs 1 _ rfl))) rfl<|AV (vs:=[.int .i64 (0:Int),.slice none 0 0]) a5 fun r40 hq ef=>AR ef rfl rfl fun hr eg=>AR eg rfl rfl fun hs ay=>AA (x:=a7) ay rfl ?_;obtain ⟨ht,eh,ei⟩:=bt.heap ay.sub;obtain ⟨bv,ej,i⟩:=bS i;refine Am (r:=cA) (ms:=a6.2) CW ay.at1 rfl ei eh bu.symm ej ?_;intro t42 hu a3;obtain ⟨ek,n,i⟩:=bS i;refine Aj (fun (y:Bool×Unit) w_ g=>∃ψ:AD,Sub ac ψ∧y.1=g∧St ψ (cR 9 cA t42 bv::cW 179 r40 [.int .i64 a6.1,sv a7]::cR 9 cA z10.2.1 z::Wq1 r1 g_0::F) w_) (g:=ek) ?_ ?_
  ·refine AA (x:=a6.1) a3.at1 rfl<|AK n rfl (fun _ n=> ?_) (fun _ n=> ?_)
   ·have el:=a3.at3;obtain rfl:=iS n;exact AQ (true,()) rfl ⟨ac,(bZ _),rfl,el.at3.at3.at3⟩
   refine AA (x:=a6.1) a3.at1 rfl<|AK n rfl (fun _ n=> ?_) (fun _ n=> ?_)
   ·have em:=a3.at3;obtain rfl:=iS n;exact AQ (true,()) rfl ⟨ac,(bZ _),rfl,em.at3.at3.at3⟩
   refine AA (x:=a7) a3.at1 rfl ?_;have en:=a3.at3.at3.at3.at3;obtain rfl:=iS n;exact AQ (((a7.2.1:Int)==(0:Int)),()) rfl ⟨ac,(bZ _),(by rw [bu]),en⟩
  rintro z43 hv ⟨bw,bx,rfl,bz⟩;try dsimp only at i
  refine AK i rfl (fun _ i=> ?_) (fun _ i=> ?_)
  ·obtain rfl:=iS i;obtain rfl:=e8 _ rfl;try dsimp only at hd
   obtain rfl:=iS hd;exact Ag (Ai (AB ⟨bw,false,((((k.trans p).trans a2).trans ax).trans bx),rfl,rfl,bz.tail.tail.tail.tail⟩))
  obtain rfl:=iS i;exact Ad ((wN z34.1),t42,z34.2.2.1,()) _ rfl rfl ⟨bw,bv,(ax.trans bx),br,rfl,bz.at1.tail.at2.at2.at2⟩
 ·rintro _ z34 hw _ ⟨eo,ep,er,rfl,rfl,c0⟩ es eu;subst eu;refine AA (x:=g_0.2.2.1) c0.at2 rfl<|AT (dF ap es)<|AJ (AL (z34.1,z34.2.1,z34.2.2.1,()) rfl ⟨_,rfl,_,eo,ep,er,rfl,rfl,c0.at2.at2.at2⟩)
 rintro z33 hx ⟨_,rfl,_,c1,az,ad,_,rfl,ev⟩;try dsimp only at hd
 obtain ⟨hy,ew,hd⟩:=bS hd;refine BK ew (fun ex (y:Int×Bool×Unit) w_ g=>∃ψ:AD,Sub c1 ψ∧y.1=ex∧()=g∧St ψ (cR 9 cA z33.2.1 az::cR 9 cA z10.2.1 z::Wq1 r1 g_0::F) w_) ((0:Int),z33.2.2.1,()) rfl ⟨c1,(bZ _),rfl,rfl,ev.at2.at2.at2⟩ ?_ ?_ ?_
 ·rintro _ z48 hz _ _ ⟨ey,ae,rfl,rfl,s⟩ d ez c2 c3 c4;try dsimp only at d ez c2 c3
  refine AA (x:=g_0.2.2.2.2.1) s.at2 rfl<|Aa (dT a9 c2)<|AA (x:=g_0.2.2.2.2.1) s.at2 rfl ?_;obtain ⟨f,f0,d⟩:=bS d;obtain ⟨i0,i1,f1,f2,f3,af⟩:=(b7.mono ((((k.trans p).trans a2).trans ad).trans ae)).get f0;refine AF _ f1 (AY f2 ?_);obtain ⟨_,_,rfl,rfl,⟨_,_,rfl,⟨u,rfl,c5⟩,f7⟩⟩:=f3;have b0:=c5.length;obtain ⟨_,_,rfl,rfl,rfl⟩:=f7;refine AC (x:=f.1) (AE s.sub (af 0 _ rfl)) rfl<|AC (x:=u) (by rw [Ah];exact (AE s.sub (af 1 _ rfl))) rfl<|AC (x:=f.2.2.1) (by rw [Ah];exact (AE s.sub (af 2 _ rfl))) rfl<|AC (x:=f.2.2.2) (by rw [Ah];exact (AE s.sub (af 3 _ rfl))) rfl<|AV (vs:=[.string ({data:=#[]}),.slice none 0 0,.string ({data:=#[]}),.string ({data:=#[]})]) s fun r56 i2 fa=>AR fa rfl rfl fun i3 fb=>AR fb rfl rfl fun i4 fc=>AR fc rfl rfl fun i5 fd=>AR fd rfl rfl fun i6 c6=> ?_;obtain ⟨fe,b,d⟩:=bS d;refine Aj (fun (y:Bool×Unit) w_ g=>∃ψ:AD,Sub ey ψ∧y.1=g∧St ψ (cW 172 r56 [.string f.1,sv u,.string f.2.2.1,.string f.2.2.2]::cR 9 cA z33.2.1 az::cR 9 cA z10.2.1 z::Wq1 r1 g_0::F) w_) (g:=fe) ?_ ?_
  ·refine AA (x:=f.1) c6 rfl ?_;obtain ⟨i7,ff,b⟩:=bS b;refine AI (CB c6 ff) ?_;rintro _ i8 ⟨c7,t59,a8,rfl,rfl,q⟩;refine ⟨t59,rfl,?_⟩;refine AK b rfl (fun _ b=> ?_) (fun _ b=> ?_)
   ·have fg:=q.at3;obtain rfl:=iS b;exact AQ (true,()) rfl ⟨c7,a8,rfl,fg.at3.at3.at3⟩
   refine AA (x:=u) q rfl<|AK b (by rw [b0] <;>rfl) (fun _ b=> ?_) (fun _ b=> ?_)
   ·have fh:=q.at3;obtain rfl:=iS b;exact AQ (true,()) rfl ⟨c7,a8,rfl,fh.at3.at3.at3⟩
   refine AA (x:=f.2.2.1) q rfl<|AK b rfl (fun _ b=> ?_) (fun _ b=> ?_)
   ·refine AA (x:=f.2.2.1) q rfl ?_;obtain ⟨i9,fi,b⟩:=bS b;refine AI (CB q fi) ?_;rintro _ ia ⟨fj,t63,c8,rfl,rfl,b1⟩;refine ⟨t63,rfl,?_⟩;refine AK b rfl (fun _ b=> ?_) (fun _ b=> ?_)
    ·have fk:=b1.at3;obtain rfl:=iS b;exact AQ (true,()) rfl ⟨fj,(a8.trans c8),rfl,fk.at3.at3.at3⟩
    refine AA (x:=f.2.2.2) b1 rfl ?_;obtain ⟨ib,fl,b⟩:=bS b;refine AI (ET b1 fl) ?_;rintro _ ic ⟨fm,t65,fn,rfl,rfl,fo⟩;refine ⟨t65,rfl,?_⟩;obtain rfl:=iS b;exact AQ ((!t65),()) rfl ⟨fm,((a8.trans c8).trans fn),rfl,fo.at3.at3.at3.at3⟩
   refine AA (x:=f.2.2.2) q rfl ?_;obtain ⟨ie,fp,b⟩:=bS b;refine AI (ET q fp) ?_;rintro _ ig ⟨fq,t67,fr,rfl,rfl,fs⟩;refine ⟨t67,rfl,?_⟩;obtain rfl:=iS b;exact AQ ((!t67),()) rfl ⟨fq,(a8.trans fr),rfl,fs.at3.at3.at3.at3⟩
  rintro z57 ih ⟨b2,ag,rfl,c9⟩;try dsimp only at d
  refine AK d rfl (fun _ d=> ?_) (fun _ d=> ?_)
  ·obtain rfl:=iS d;obtain rfl:=c4 _ rfl;try dsimp only at hd
   obtain rfl:=iS hd;exact Ag (Ai (AB ⟨b2,false,(((((k.trans p).trans a2).trans ad).trans ae).trans ag),rfl,rfl,c9.tail.tail.tail.tail⟩))
  obtain ⟨ii,ft,d⟩:=bS d;refine BK ft (fun fu (y:Int×Bool×Unit) w_ g=>∃ψ:AD,Sub b2 ψ∧y.1=fu∧()=g∧St ψ (cW 172 r56 [.string f.1,sv u,.string f.2.2.1,.string f.2.2.2]::cR 9 cA z33.2.1 az::cR 9 cA z10.2.1 z::Wq1 r1 g_0::F) w_) ((0:Int),z48.2.1,()) rfl ⟨b2,(bZ _),rfl,rfl,c9.at3.at3.at3.at3⟩ ?_ ?_ ?_
  ·rintro _ z69 ij _ _ ⟨ik,b3,rfl,rfl,ah⟩ m fv ca cb fw;try dsimp only at m fv ca cb
   refine AA (x:=u) ah rfl<|Aa (dT b0 ca)<|AA (x:=u) ah rfl ?_;obtain ⟨il,fx,m⟩:=bS m;refine Ce c5 fx (dJ (ag.trans b3) ah.sub) ?_;obtain ⟨im,fy,m⟩:=bS m;refine AI (CB ah fy) ?_;rintro _ io ⟨cc,t74,cd,rfl,rfl,ce⟩;refine ⟨t74,rfl,?_⟩;refine AK m rfl (fun _ m=> ?_) (fun _ m=> ?_)
   ·obtain rfl:=iS m;obtain rfl:=fw _ rfl;try dsimp only at d
    obtain rfl:=iS d;obtain rfl:=c4 _ rfl;try dsimp only at hd
    obtain rfl:=iS hd;exact Ag (Ai (Ag (Ai (AB ⟨cc,false,(((((((k.trans p).trans a2).trans ad).trans ae).trans ag).trans b3).trans cd),rfl,rfl,ce.tail.tail.tail.tail⟩))))
   obtain rfl:=iS m;exact Ad ((wN z69.1),z69.2.1,()) _ rfl rfl ⟨cc,(b3.trans cd),cb,rfl,ce.at3.at3.at3.at3⟩
  ·rintro _ z69 ip _ ⟨fz,g0,rfl,rfl,cf⟩ g1 g2;subst g2;refine AA (x:=u) cf rfl<|AT (dF b0 g1)<|AJ (AL (z69.1,z69.2.1,()) rfl ⟨_,rfl,_,fz,g0,rfl,rfl,cf.at3.at3.at3.at3⟩)
  rintro z68 iq ⟨_,rfl,_,g3,g4,_,rfl,g5⟩;try dsimp only at d
  obtain rfl:=iS d;exact Ad ((wN z48.1),z68.2.1,()) _ rfl rfl ⟨g3,((ae.trans ag).trans g4),c3,rfl,g5.tail.at2.at2.at2⟩
 ·rintro _ z48 ir _ ⟨g6,g7,rfl,rfl,cg⟩ g8 g9;subst g9;refine AA (x:=g_0.2.2.2.2.1) cg.at2 rfl<|AT (dF a9 g8)<|AJ (AL (z48.1,z48.2.1,()) rfl ⟨_,rfl,_,g6,g7,rfl,rfl,cg.at2.at2.at2⟩)
 rintro z47 it ⟨_,rfl,_,iu,ga,_,rfl,gb⟩;try dsimp only at hd
 obtain ⟨iv,gc,gd,ge⟩:=cN (t:=z10.2.1) gb.at1;obtain ⟨gf,ch,gg,gh⟩:=cN (t:=z33.2.1) ge;obtain ⟨gi,o,hd⟩:=bS hd;refine Aj (fun (y:Bool×Unit) w_ g=>∃ψ:AD,Sub gf ψ∧y.1=g∧St ψ (Wq1 r1 g_0::F) w_) (g:=gi) ?_ ?_
 ·obtain ⟨iw,gj,o⟩:=bS o;refine AI (E0 (gd.mono ch) gh gj) ?_;rintro _ ix ⟨gk,t76,b4,rfl,rfl,ci⟩;refine ⟨t76,rfl,?_⟩;refine AK o rfl (fun _ o=> ?_) (fun _ o=> ?_)
  ·obtain ⟨iy,gl,o⟩:=bS o;refine AI (E0 (gg.mono b4) ci gl) ?_;rintro _ iz ⟨gm,t77,gn,rfl,rfl,go⟩;refine ⟨t77,rfl,?_⟩;obtain rfl:=iS o;exact AQ (t77,()) rfl ⟨gm,(b4.trans gn),rfl,go⟩
  obtain rfl:=iS o;exact AQ (false,()) rfl ⟨gk,b4,rfl,ci⟩
 rintro z75 j0 ⟨gp,gq,rfl,gr⟩;try dsimp only at hd
 obtain rfl:=iS hd;exact AB ⟨gp,z75.1,(((((((k.trans p).trans a2).trans ad).trans ga).trans gc).trans ch).trans gq),rfl,rfl,gr.tail⟩
noncomputable def BL (s_0:Le):Option (List GP×List HR×List Ec×ByteArray×List C8):=need ((5:Int)≠0)<|need ((4:Int)≠0)<|(forS (σ:=C1) 0 (s_0.2.2.2.2.2.1.length:Int) (([]:List GP),([]:List HR),([]:List Ec),{data:=#[83]},([]:List C8)) fun i_z7 z7=>(idx s_0.2.2.2.2.2.1 i_z7).bind fun e75=>need ((3:Int)≠0)<|need (0≤i_z7∧i_z7≤(bR .i64 (i_z7+1))∧(bR .i64 (i_z7+1)) ≤(bY {data:=#[112,113,114,115,116]} :Nat))<|(app z7.2.2.1 ([((bR .i64 ((bR .i64 (bT e75 3))+1)),([(bV {data:=#[112,113,114,115,116]} (bU i_z7) (bU (bR .i64 (i_z7+1))))]:List ByteArray))]:List Ec)).bind fun t15=>some (z7.1,z7.2.1,t15,(z7.2.2.2.1),z7.2.2.2.2)).bind fun z6=>(forS (σ:=C1) 0 (bR .i64 ((bR .i64 (bT s_0.1 5))+1)) z6 fun i_z17 z17=>need (0≤i_z17∧i_z17≤(bR .i64 (i_z17+1))∧(bR .i64 (i_z17+1)) ≤(bY {data:=#[97,98,99,100,101]} :Nat))<|(app z17.1 ([((bV {data:=#[97,98,99,100,101]} (bU i_z17) (bU (bR .i64 (i_z17+1)))),(bV {data:=#[97,98,99,100,101]} (bU i_z17) (bU (bR .i64 (i_z17+1)))),{data:=#[]},false)]:List GP)).bind fun t20=>(cond (decide (i_z17< (s_0.2.2.2.2.2.2.length:Int))) ((idx s_0.2.2.2.2.2.2 i_z17).bind fun e175=>need ((bR .i64 ((((cK (t20,z17.2.1,z17.2.2.1,(z17.2.2.2.1),z17.2.2.2.2).2.2.1):Nat):Int)+1))≠0)<|(cond (decide ((bT (bR .i64 e175) (bR .i64 ((((cK (t20,z17.2.1,z17.2.2.1,(z17.2.2.2.1),z17.2.2.2.2).2.2.1):Nat):Int)+1))) >0)) ((idx ((t20,z17.2.1,z17.2.2.1,(z17.2.2.2.1),z17.2.2.2.2).1,(t20,z17.2.1,z17.2.2.1,(z17.2.2.2.1),z17.2.2.2.2).2.1,(t20,z17.2.1,z17.2.2.1,(z17.2.2.2.1),z17.2.2.2.2).2.2.1,((t20,z17.2.1,z17.2.2.1,(z17.2.2.2.1),z17.2.2.2.2).2.2.2.1),(t20,z17.2.1,z17.2.2.1,(z17.2.2.2.1),z17.2.2.2.2).2.2.2.2).2.2.1 (bR .i64 ((bT (bR .i64 e175) (bR .i64 ((((cK (t20,z17.2.1,z17.2.2.1,(z17.2.2.2.1),z17.2.2.2.2).2.2.1):Nat):Int)+1))) - 1))).bind fun e216=>(app ([]:List ByteArray) e216.2).bind fun t33=>(app t33 ([(bV {data:=#[97,98,99,100,101]} (bU i_z17) (bU (bR .i64 (i_z17+1))))]:List ByteArray)).bind fun t35=>(idx ((t20,z17.2.1,z17.2.2.1,(z17.2.2.2.1),z17.2.2.2.2).1,(t20,z17.2.1,z17.2.2.1,(z17.2.2.2.1),z17.2.2.2.2).2.1,(t20,z17.2.1,z17.2.2.1,(z17.2.2.2.1),z17.2.2.2.2).2.2.1,((t20,z17.2.1,z17.2.2.1,(z17.2.2.2.1),z17.2.2.2.2).2.2.2.1),(t20,z17.2.1,z17.2.2.1,(z17.2.2.2.1),z17.2.2.2.2).2.2.2.2).2.2.1 (bR .i64 ((bT (bR .i64 e175) (bR .i64 ((((cK (t20,z17.2.1,z17.2.2.1,(z17.2.2.2.1),z17.2.2.2.2).2.2.1):Nat):Int)+1))) - 1))).bind fun e253=>(DL (((t20,z17.2.1,z17.2.2.1,(z17.2.2.2.1),z17.2.2.2.2).1,(t20,z17.2.1,z17.2.2.1,(z17.2.2.2.1),z17.2.2.2.2).2.1,(t20,z17.2.1,z17.2.2.1,(z17.2.2.2.1),z17.2.2.2.2).2.2.1,((t20,z17.2.1,z17.2.2.1,(z17.2.2.2.1),z17.2.2.2.2).2.2.2.1),(t20,z17.2.1,z17.2.2.1,(z17.2.2.2.1),z17.2.2.2.2).2.2.2.2).2.2.1) (bR .i64 ((bT (bR .i64 e175) (bR .i64 ((((cK (t20,z17.2.1,z17.2.2.1,(z17.2.2.2.1),z17.2.2.2.2).2.2.1):Nat):Int)+1))) - 1)) (e253.1,t35)).bind fun m268=>some (((t20,z17.2.1,z17.2.2.1,(z17.2.2.2.1),z17.2.2.2.2).1,(t20,z17.2.1,z17.2.2.1,(z17.2.2.2.1),z17.2.2.2.2).2.1,(t20,z17.2.1,z17.2.2.1,(z17.2.2.2.1),z17.2.2.2.2).2.2.1,((t20,z17.2.1,z17.2.2.1,(z17.2.2.2.1),z17.2.2.2.2).2.2.2.1),(t20,z17.2.1,z17.2.2.1,(z17.2.2.2.1),z17.2.2.2.2).2.2.2.2).1,((t20,z17.2.1,z17.2.2.1,(z17.2.2.2.1),z17.2.2.2.2).1,(t20,z17.2.1,z17.2.2.1,(z17.2.2.2.1),z17.2.2.2.2).2.1,(t20,z17.2.1,z17.2.2.1,(z17.2.2.2.1),z17.2.2.2.2).2.2.1,((t20,z17.2.1,z17.2.2.1,(z17.2.2.2.1),z17.2.2.2.2).2.2.2.1),(t20,z17.2.1,z17.2.2.1,(z17.2.2.2.1),z17.2.2.2.2).2.2.2.2).2.1,m268,(((t20,z17.2.1,z17.2.2.1,(z17.2.2.2.1),z17.2.2.2.2).1,(t20,z17.2.1,z17.2.2.1,(z17.2.2.2.1),z17.2.2.2.2).2.1,(t20,z17.2.1,z17.2.2.1,(z17.2.2.2.1),z17.2.2.2.2).2.2.1,((t20,z17.2.1,z17.2.2.1,(z17.2.2.2.1),z17.2.2.2.2).2.2.2.1),(t20,z17.2.1,z17.2.2.1,(z17.2.2.2.1),z17.2.2.2.2).2.2.2.2).2.2.2.1),((t20,z17.2.1,z17.2.2.1,(z17.2.2.2.1),z17.2.2.2.2).1,(t20,z17.2.1,z17.2.2.1,(z17.2.2.2.1),z17.2.2.2.2).2.1,(t20,z17.2.1,z17.2.2.1,(z17.2.2.2.1),z17.2.2.2.2).2.2.1,((t20,z17.2.1,z17.2.2.1,(z17.2.2.2.1),z17.2.2.2.2).2.2.2.1),(t20,z17.2.1,z17.2.2.1,(z17.2.2.2.1),z17.2.2.2.2).2.2.2.2).2.2.2.2)) (some ((t20,z17.2.1,z17.2.2.1,(z17.2.2.2.1),z17.2.2.2.2).1,(t20,z17.2.1,z17.2.2.1,(z17.2.2.2.1),z17.2.2.2.2).2.1,(t20,z17.2.1,z17.2.2.1,(z17.2.2.2.1),z17.2.2.2.2).2.2.1,((t20,z17.2.1,z17.2.2.1,(z17.2.2.2.1),z17.2.2.2.2).2.2.2.1),(t20,z17.2.1,z17.2.2.1,(z17.2.2.2.1),z17.2.2.2.2).2.2.2.2))).bind fun z27=>some z27) (some (t20,z17.2.1,z17.2.2.1,(z17.2.2.2.1),z17.2.2.2.2))).bind fun z22=>some z22).bind fun z16=>(forS (σ:=C1) 0 (s_0.2.2.1.length:Int) z16 fun i_z47 z47=>(idx s_0.2.2.1 i_z47).bind fun e458=>need ((bR .i64 ((bR .i64 (bT s_0.2.1 4))+1))≠0)<|(idx s_0.2.2.1 i_z47).bind fun e468=>need ((bR .i64 ((bR .i64 (bT s_0.2.1 4))+1))≠0)<|need (0≤(bT (bR .i64 e458) (bR .i64 ((bR .i64 (bT s_0.2.1 4))+1)))∧(bT (bR .i64 e458) (bR .i64 ((bR .i64 (bT s_0.2.1 4))+1))) ≤(bR .i64 ((bT (bR .i64 e468) (bR .i64 ((bR .i64 (bT s_0.2.1 4))+1)))+1))∧(bR .i64 ((bT (bR .i64 e468) (bR .i64 ((bR .i64 (bT s_0.2.1 4))+1)))+1)) ≤(bY {data:=#[83,84,85,86]} :Nat))<|(cond (decide (i_z47< (s_0.2.2.2.1.length:Int))) ((loop (σ:=(Int×C8)) (β:=C8) (0,((bV {data:=#[83,84,85,86]} (bU (bT (bR .i64 e458) (bR .i64 ((bR .i64 (bT s_0.2.1 4))+1)))) (bU (bR .i64 ((bT (bR .i64 e468) (bR .i64 ((bR .i64 (bT s_0.2.1 4))+1)))+1)))),([]:List ByteArray),{data:=#[]},{data:=#[]})) fun z59=>(idx s_0.2.2.2.1 i_z47).bind fun e514=>cond (decide (z59.1< (e514.length:Int))) ((idx s_0.2.2.2.1 i_z47).bind fun e520=>(idx e520 z59.1).bind fun e523=>need ((bR .i64 ((bR .i64 ((bR .i64 (bT s_0.1 5))+1))+(bR .i64 ((bR .i64 (bT s_0.2.1 4))+1))))≠0)<|need ((5:Int)≠0)<|need ((5:Int)≠0)<|need (0≤(bT (bT (bR .i64 e523) (bR .i64 ((bR .i64 ((bR .i64 (bT s_0.1 5))+1))+(bR .i64 ((bR .i64 (bT s_0.2.1 4))+1))))) 5)∧(bT (bT (bR .i64 e523) (bR .i64 ((bR .i64 ((bR .i64 (bT s_0.1 5))+1))+(bR .i64 ((bR .i64 (bT s_0.2.1 4))+1))))) 5) ≤(bR .i64 ((bT (bT (bR .i64 e523) (bR .i64 ((bR .i64 ((bR .i64 (bT s_0.1 5))+1))+(bR .i64 ((bR .i64 (bT s_0.2.1 4))+1))))) 5)+1))∧(bR .i64 ((bT (bT (bR .i64 e523) (bR .i64 ((bR .i64 ((bR .i64 (bT s_0.1 5))+1))+(bR .i64 ((bR .i64 (bT s_0.2.1 4))+1))))) 5)+1)) ≤(bY {data:=#[97,98,99,100,101]} :Nat))<|(cond (decide ((bT (bR .i64 e523) (bR .i64 ((bR .i64 ((bR .i64 (bT s_0.1 5))+1))+(bR .i64 ((bR .i64 (bT s_0.2.1 4))+1))))) ≥ (bR .i64 ((bR .i64 (bT s_0.1 5))+1)))) (need (0≤(bR .i64 ((bT (bR .i64 e523) (bR .i64 ((bR .i64 ((bR .i64 (bT s_0.1 5))+1))+(bR .i64 ((bR .i64 (bT s_0.2.1 4))+1))))) - (bR .i64 ((bR .i64 (bT s_0.1 5))+1))))∧(bR .i64 ((bT (bR .i64 e523) (bR .i64 ((bR .i64 ((bR .i64 (bT s_0.1 5))+1))+(bR .i64 ((bR .i64 (bT s_0.2.1 4))+1))))) - (bR .i64 ((bR .i64 (bT s_0.1 5))+1)))) ≤(bR .i64 ((bR .i64 ((bT (bR .i64 e523) (bR .i64 ((bR .i64 ((bR .i64 (bT s_0.1 5))+1))+(bR .i64 ((bR .i64 (bT s_0.2.1 4))+1))))) - (bR .i64 ((bR .i64 (bT s_0.1 5))+1))))+1))∧(bR .i64 ((bR .i64 ((bT (bR .i64 e523) (bR .i64 ((bR .i64 ((bR .i64 (bT s_0.1 5))+1))+(bR .i64 ((bR .i64 (bT s_0.2.1 4))+1))))) - (bR .i64 ((bR .i64 (bT s_0.1 5))+1))))+1)) ≤(bY {data:=#[83,84,85,86]} :Nat))<|some (bV {data:=#[83,84,85,86]} (bU (bR .i64 ((bT (bR .i64 e523) (bR .i64 ((bR .i64 ((bR .i64 (bT s_0.1 5))+1))+(bR .i64 ((bR .i64 (bT s_0.2.1 4))+1))))) - (bR .i64 ((bR .i64 (bT s_0.1 5))+1))))) (bU (bR .i64 ((bR .i64 ((bT (bR .i64 e523) (bR .i64 ((bR .i64 ((bR .i64 (bT s_0.1 5))+1))+(bR .i64 ((bR .i64 (bT s_0.2.1 4))+1))))) - (bR .i64 ((bR .i64 (bT s_0.1 5))+1))))+1))))) (some (bV {data:=#[97,98,99,100,101]} (bU (bT (bT (bR .i64 e523) (bR .i64 ((bR .i64 ((bR .i64 (bT s_0.1 5))+1))+(bR .i64 ((bR .i64 (bT s_0.2.1 4))+1))))) 5)) (bU (bR .i64 ((bT (bT (bR .i64 e523) (bR .i64 ((bR .i64 ((bR .i64 (bT s_0.1 5))+1))+(bR .i64 ((bR .i64 (bT s_0.2.1 4))+1))))) 5)+1)))))).bind fun z68=>(app z59.2.2.1 ([z68]:List ByteArray)).bind fun t71=>some (dC ((bR .i64 (z59.1+1)),((z59.2.1),t71,(z59.2.2.2.1),(z59.2.2.2.2))))) (some (dB z59.2))).bind fun z58=>some z58) (some ((bV {data:=#[83,84,85,86]} (bU (bT (bR .i64 e458) (bR .i64 ((bR .i64 (bT s_0.2.1 4))+1)))) (bU (bR .i64 ((bT (bR .i64 e468) (bR .i64 ((bR .i64 (bT s_0.2.1 4))+1)))+1)))),([]:List ByteArray),{data:=#[]},{data:=#[]}))).bind fun z57=>(cond (decide (i_z47< (s_0.2.2.2.2.1.length:Int))) ((idx s_0.2.2.2.2.1 i_z47).bind fun e632=>need ((bR .i64 ((z47.2.2.1.length:Int)+1))≠0)<|(cond (decide ((bT (bR .i64 e632) (bR .i64 ((z47.2.2.1.length:Int)+1))) >0)) (need (0≤(bR .i64 ((bT (bR .i64 e632) (bR .i64 ((z47.2.2.1.length:Int)+1))) - 1))∧(bR .i64 ((bT (bR .i64 e632) (bR .i64 ((z47.2.2.1.length:Int)+1))) - 1)) ≤(bT (bR .i64 e632) (bR .i64 ((z47.2.2.1.length:Int)+1)))∧(bT (bR .i64 e632) (bR .i64 ((z47.2.2.1.length:Int)+1))) ≤(bY {data:=#[112,113,114,115,116]} :Nat))<|some ((z57.1),z57.2.1,(bV {data:=#[112,113,114,115,116]} (bU (bR .i64 ((bT (bR .i64 e632) (bR .i64 ((z47.2.2.1.length:Int)+1))) - 1))) (bU (bT (bR .i64 e632) (bR .i64 ((z47.2.2.1.length:Int)+1))))),(z57.2.2.2))) (some z57)).bind fun z78=>some z78) (some z57)).bind fun z73=>(app z47.2.2.2.2 ([((z73.1),z73.2.1,(z73.2.2.1),(z73.2.2.2))]:List C8)).bind fun t85=>some (z47.1,z47.2.1,z47.2.2.1,(z47.2.2.2.1),t85)).bind fun z46=>(forS (σ:=C1) 0 (bR .i64 ((bR .i64 (bT s_0.2.1 4))+1)) z46 fun i_z87 z87=>need (0≤i_z87∧i_z87≤(bR .i64 (i_z87+1))∧(bR .i64 (i_z87+1)) ≤(bY {data:=#[83,84,85,86]} :Nat))<|(loop (σ:=(Int×Bool)) (β:=Bool) (0,false) fun z89=>cond (decide (z89.1< (z87.2.2.2.2.length:Int))) ((cond z89.2 (some true) ((idx z87.2.2.2.2 z89.1).bind fun e875=>some (bX e875.1==bX (bV {data:=#[83,84,85,86]} (bU i_z87) (bU (bR .i64 (i_z87+1))))))).bind fun z91=>some (dC ((bR .i64 (z89.1+1)),z91))) (some (dB z89.2))).bind fun z88=>(cond (!z88) ((app z87.2.2.2.2 ([((bV {data:=#[83,84,85,86]} (bU i_z87) (bU (bR .i64 (i_z87+1)))),([]:List ByteArray),{data:=#[]},{data:=#[]})]:List C8)).bind fun t98=>some (z87.1,z87.2.1,z87.2.2.1,(z87.2.2.2.1),t98)) (some z87)).bind fun z95=>some z95).bind fun z86=>some (z86.1,z86.2.1,z86.2.2.1,(z86.2.2.2.1),z86.2.2.2.2)
set_option maxHeartbeats 4000000 in
theorem FF {s_0:Int×Int×Slc×Slc×Slc×Slc×Slc×Unit}{bj:List Int}{bk:List (List Int)}{bl:List Int}{bm:List Int}{bn:List Int}(bo:Ro.SliceIs (cH .u8) φ s_0.2.2.1 bj) (bp:Ro.SliceIs (gG (cH .u8)) φ s_0.2.2.2.1 bk) (cd:Ro.SliceIs (cH .u8) φ s_0.2.2.2.2.1 bl) (ce:Ro.SliceIs (cH .u8) φ s_0.2.2.2.2.2.1 bm) (cf:Ro.SliceIs (cH .u8) φ s_0.2.2.2.2.2.2.1 bn) (s0:St φ (F) h) {r:(List GP×List HR×List Ec×ByteArray×List C8)}(hd:BL (s_0.1,s_0.2.1,bj,bk,bl,bm,bn)=some r):
 CallsH bW 56 [(.agg #[(.int .u8 s_0.1),(.int .u8 s_0.2.1),(sv s_0.2.2.1),(sv s_0.2.2.2.1),(sv s_0.2.2.2.2.1),(sv s_0.2.2.2.2.2.1),(sv s_0.2.2.2.2.2.2.1)])] h (Ar fun v h'=>∃ψ:AD,∃y:Slc×Slc×Slc×ByteArray×Slc×Unit,∃cg:List GP,∃ch:List HR,∃ci:List Ec,∃cj:List C8,Sub φ ψ∧v=((.one (.agg [.slice,.slice,.slice,.string,.slice])):Sh).val y∧(cg,ch,ci,y.2.2.2.1,cj)=r∧Ro.SliceIs Gt ψ y.1 cg∧Ro.SliceIs Kt ψ y.2.1 ch∧Ro.SliceIs Gu ψ y.2.2.1 ci∧Ro.SliceIs GQ ψ y.2.2.2.2.1 cj∧St ψ (F) h'):=by
 refine AO mixed Tryz.func56 ?_;rw [FD];unfold DG;unfold BL at hd;have ck:s_0.2.2.1.2.1=cK bj:=bo.length;have f9:s_0.2.2.2.1.2.1=cK bk:=bp.length;have fa:s_0.2.2.2.2.1.2.1=cK bl:=cd.length;have cl:s_0.2.2.2.2.2.1.2.1=cK bm:=ce.length;have fb:s_0.2.2.2.2.2.2.1.2.1=cK bn:=cf.length;refine AV (vs:=[.int .u8 s_0.1,.int .u8 s_0.2.1,sv s_0.2.2.1,sv s_0.2.2.2.1,sv s_0.2.2.2.2.1,sv s_0.2.2.2.2.2.1,sv s_0.2.2.2.2.2.2.1]) s0 fun r1 nd fc=>AV (vs:=[.slice none 0 0,.slice none 0 0,.slice none 0 0,.string ({data:=#[]}),.slice none 0 0]) fc fun r2 nf bq=>AA (x:=s_0.1) bq.at1 rfl<|Ch hd id fun ng hd=>AA (x:=s_0.2.1) bq.at1 rfl<|Ch hd id fun nh hd=>AV (vs:=[.slice none 0 0,.slice none 0 0,.slice none 0 0,.string ({data:=#[]}),.slice none 0 0]) bq fun r5 ni fd=>AR fd rfl rfl fun nj fe=>AR fe rfl rfl fun nk ff=>AR ff rfl rfl fun nl fg=>AR fg rfl rfl fun nm fh=>AR fh rfl rfl fun nn fi=> ?_;have fj:=EG (t0:=((none,0,0):Slc)) (t1:=((none,0,0):Slc)) (t2:=((none,0,0):Slc)) (t4:=((none,0,0):Slc)) (x1:=([]:List HR)) (x3:={data:=#[83]}) (((fi.nil 176 Gt).nil 179 Gu).nil 172 GQ).at3.at3.at3.at3 (cF Kt φ);obtain ⟨np,fk,hd⟩:=bS hd;refine B9 fk (fun fl (y:Int×Unit) w_ g=>∃ψ:AD,∃cm:C1,Sub φ ψ∧y.1=fl∧cm=g∧St ψ (cO 107 Ed (some ⟨r5,0,none⟩) cm::Wq4 r2::Wq0 r1 s_0::F) w_) ((0:Int),()) rfl ⟨φ,(([]:List GP),[],[],{data:=#[83]},([]:List C8)),(bZ _),rfl,rfl,fj.at2.at2.at2⟩ ?_ ?_ ?_
 ·rintro _ z7 nq _ _ ⟨nr,ag,cn,rfl,rfl,co⟩ u fm cp cq;try dsimp only at u fm cp cq
  refine AA (x:=s_0.2.2.2.2.2.1) co.at2 rfl<|Aa (dT cl cp) ?_;obtain ⟨fn,ns,nt,fo,nu,cr,fp,b0⟩:=GB co;obtain rfl:r5=fn:=by simpa using cr
  clear cr;refine AA (x:=fo) b0.at3 rfl<|AA (x:=s_0.2.2.2.2.2.1) b0.at5 rfl ?_;obtain ⟨br,fq,u⟩:=bS u;obtain ⟨nv,nw,fr,fs,ft,ct⟩:=(ce.mono cn).get fq;refine AF _ fr (AY fs ?_);obtain rfl:=ft;refine AC (x:=br) (AE b0.sub (ct 0 _ rfl)) rfl<|Ch u id fun nx u=>Ch u id fun ny u=>KY b0 fun r13 nz o0 b1=>AM (AE b1.sub (ct 0 _ rfl))<|AM (cT (b:=r1) (j:=5) b1.at6 rfl)<|AM (cT (b:=r5) (j:=2) b1.at4 rfl)<|AV (vs:=[.int .i64 (bR .i64 ((bR .i64 (bT br (3:Int)))+(1:Int))),.slice (some ⟨r13,0,none⟩) 1 1]) b1 fun r14 o1 cu=>AM (cT (b:=r5) (j:=2) cu.at5 rfl) ?_;have fu:=eF (r:=cA) (l:=([(bV {data:=#[112,113,114,115,116]} (bU z7.1) (bU (wN z7.1)))]:List ByteArray)) (n:=1) cu.at1 (.cons (a:=[_]) rfl .nil) rfl (by decide);obtain ⟨fv,cv,fw,cw⟩:=cN (t:=((some ⟨r13,0,none⟩,1,1):Slc)) fu;obtain ⟨fx,fy,u⟩:=bS u;refine Am (r:=Gu) (ms:=([((bR .i64 ((bR .i64 (bT br (3:Int)))+(1:Int))),([(bV {data:=#[112,113,114,115,116]} (bU z7.1) (bU (wN z7.1)))]:List ByteArray))]:List Ec)) Oi cw.tail.at1 rfl (dI cw) (.cons (a:=[_,_]) ⟨[_],_,rfl,rfl,⟨((some ⟨r13,0,none⟩,1,1):Slc),rfl,fw⟩⟩ .nil) rfl fy ?_;intro t15 o2 fz;refine AR fz.at3 rfl rfl fun o3 g0=> ?_;obtain rfl:=iS u;exact Ad ((wN z7.1),()) _ rfl rfl ⟨fv,(ag.1,ag.2.1,fx,(ag.2.2.2.1),ag.2.2.2.2),(cn.trans cv),cq,rfl,((((EG (x1:=ag.2.1) (x3:=(ag.2.2.2.1)) g0.at3.at2.at3.at3.at3.at3.at3 (fp.mono cv)).at2).at2).at2)⟩
 ·rintro _ z7 o4 ⟨g1,g2,g3,rfl,rfl,cx⟩ g4;refine AA (x:=s_0.2.2.2.2.2.1) cx.at2 rfl<|AT (dF cl g4)<|AJ (AL (z7.1,()) rfl ⟨_,g1,g2,g3,rfl,rfl,cx.at2.at2.at2⟩)
 rintro z6 o5 ⟨_,cy,g5,a3,_,rfl,g6⟩;try dsimp only at hd
 obtain ⟨o6,g7,hd⟩:=bS hd;refine B9 g7 (fun g8 (y:Int×Unit) w_ g=>∃ψ:AD,∃cz:C1,Sub cy ψ∧y.1=g8∧cz=g∧St ψ (cO 107 Ed (some ⟨r5,0,none⟩) cz::Wq4 r2::Wq0 r1 s_0::F) w_) ((0:Int),()) rfl ⟨cy,g5,(bZ _),rfl,rfl,g6.at2.at2.at2⟩ ?_ ?_ ?_
 ·rintro _ z17 o7 _ _ ⟨b2,e,d0,rfl,rfl,g9⟩ z ga d1 d2;try dsimp only at z ga d1 d2
  refine Aa (by exact decide_eq_true d1)<|Ch z id fun o8 z=> ?_;obtain ⟨gb,gc,o9,oa,ob,d3,gd,d4⟩:=GB g9;obtain rfl:r5=gb:=by simpa using d3
  clear d3;refine AA (x:=gc) d4.at3 rfl<|AV (vs:=[.string (bV {data:=#[97,98,99,100,101]} (bU z17.1) (bU (wN z17.1))),.string (bV {data:=#[97,98,99,100,101]} (bU z17.1) (bU (wN z17.1))),.string ({data:=#[]}),.bool false]) d4 fun r19 oc d5=> ?_;obtain ⟨ar,ge,z⟩:=bS z;refine Am (r:=Gt) (ms:=([((bV {data:=#[97,98,99,100,101]} (bU z17.1) (bU (wN z17.1))),(bV {data:=#[97,98,99,100,101]} (bU z17.1) (bU (wN z17.1))),{data:=#[]},false)]:List GP)) Oh d5.tail.at2 rfl (dI d5) (.cons (a:=[_,_,_,_]) ⟨[_],_,rfl,rfl,⟨[_],_,rfl,rfl,⟨[_],_,rfl,rfl,rfl⟩⟩⟩ .nil) rfl ge ?_;intro t20 od gf;refine AR gf.at3 rfl rfl fun oe d6=>AA (x:=s_0.2.2.2.2.2.2.1) d6.at5 rfl ?_;have b3:=EG (x1:=e.2.1) (x3:=(e.2.2.2.1)) d6.at1.at3.at3.at3.at3.at3.at3 gd;obtain ⟨gg,q,z⟩:=bS z;refine Aj (fun (y:Unit) w_ g=>∃ψ:AD,∃d7:C1,Sub b2 ψ∧d7=g∧St ψ (cO 107 Ed (some ⟨r5,0,none⟩) d7::Wq4 r2::Wq0 r1 s_0::F) w_) (g:=gg) ?_ ?_
  ·refine AK q (by rw [fb] <;>rfl) (fun _ q=> ?_) (fun _ q=> ?_)
   ·refine AA (x:=s_0.2.2.2.2.2.2.1) b3.at2 rfl ?_;obtain ⟨og,gh,q⟩:=bS q;refine Ce cf gh (dJ (a3.trans d0) b3.sub) ?_;obtain ⟨gi,oh,oi,gj,oj,d8,d9,b4⟩:=GB b3;obtain rfl:r5=gi:=by simpa using d8
    clear d8;try dsimp only at b4 d9
    have a0:=(b4.at1).rowLen;refine AA (x:=gj) b4.at3 rfl<|Ch q (by rw [a0];exact id) fun ok q=> ?_;have da:=EG (x1:=e.2.1) (x3:=((e.2.2.2.1))) b4.at2.at2.at2.at3.at3.at3.at3 d9;obtain ⟨gk,d,q⟩:=bS q;refine Aj (fun (y:Unit) w_ g=>∃ψ:AD,∃db:C1,Sub b2 ψ∧db=g∧St ψ (cO 107 Ed (some ⟨r5,0,none⟩) db::Wq4 r2::Wq0 r1 s_0::F) w_) (g:=gk) ?_ ?_
    ·refine AK d (by rw [a0] <;>rfl) (fun _ d=> ?_) (fun _ d=> ?_)
     ·obtain ⟨gl,ol,om,dc,on,dd,b5,ah⟩:=GB da;obtain rfl:r5=gl:=by simpa using dd
      clear dd;try dsimp only at ah b5
      refine AA (x:=dc) ah.at3 rfl<|AA (x:=dc) ah.at3 rfl ?_;obtain ⟨bs,de,d⟩:=bS d;rw [←a0]at de;obtain ⟨oo,op,gm,gn,go,au⟩:=(ah.at1).get de;refine AF _ gm (AY gn ?_);obtain ⟨_,_,rfl,rfl,⟨gr,rfl,b6⟩⟩:=go;have bt:=b6.length;refine AC (x:=gr) (by rw [Ah];exact (au 1 _ rfl)) rfl<|Eb ?_ ?_
      ·refine KY ah fun r32 oq df av=>AM (by rw [Ah];exact (df _ _ (au 1 _ rfl)))<|AM (cT (b:=r5) (j:=2) av.at4 rfl)<|AM (cT (b:=r5) (j:=2) av.at4 rfl)<|Eb ?_ ?_
       ·obtain ⟨os,gs,gt⟩:=b6.heap av.sub;have gu:=eF (r:=cA) (l:=([]:List ByteArray)) (n:=0) av .nil rfl (by decide);obtain ⟨ot,gv,d⟩:=bS d;refine Am (r:=cA) (ms:=bs.2) CW gu rfl gt gs bt.symm gv ?_;intro t33 ou dg;refine AM (cT (b:=r5) (j:=2) dg.at4 rfl)<|AV (vs:=[.string (bV {data:=#[97,98,99,100,101]} (bU z17.1) (bU (wN z17.1)))]) dg fun r34 ov bu=>AM (cT (b:=r5) (j:=2) bu.at5 rfl) ?_;obtain ⟨ow,gw,d⟩:=bS d;refine Am (r:=cA) (ms:=([(bV {data:=#[97,98,99,100,101]} (bU z17.1) (bU (wN z17.1)))]:List ByteArray)) CW bu.tail rfl (dI bu) (.cons (a:=[_]) rfl .nil) rfl gw ?_;intro t35 ox bv;refine AM (cT (b:=r5) (j:=2) bv.at4 rfl) ?_;obtain ⟨oy,bw,d⟩:=bS d;rw [←a0]at bw;obtain ⟨oz,p0,dh,gx,gy,p1⟩:=(bv.at2).get bw;refine AF _ dh (AY gx ?_);obtain ⟨_,_,rfl,rfl,⟨p2,rfl,p3⟩⟩:=gy;obtain ⟨h1,di,h2,h3⟩:=cN (t:=t35) bv;obtain ⟨h4,dj,d⟩:=bS d;rw [←a0]at dj;refine Og (j:=1) h3.at1 bw dj (by rintro _ ⟨_,_,rfl,rfl,⟨t1,rfl,q1⟩⟩;exact ⟨[_],_,rfl,rfl,⟨t35,rfl,h2⟩⟩) rfl rfl dh (by rw [Ah];rfl) fun p4 h5=> ?_;have h6:=(((EG (x1:=e.2.1) (x3:=(((e.2.2.2.1)))) h5.at2.at1.at2.at3.at3.at3.at3 (b5.mono di)).at2).at2).at2;obtain rfl:=iS d;exact AQ (()) rfl ⟨h1,(ar,e.2.1,h4,(((e.2.2.2.1))),e.2.2.2.2),di,rfl,h6⟩
       ·refine KY av fun r37 p5 h7 b7=>AM (by rw [Ah];exact (h7 _ _ (df _ _ (au 1 _ rfl))))<|AM (cT (b:=r5) (j:=2) b7.at5 rfl)<|AM (cT (b:=r5) (j:=2) b7.at5 rfl) ?_;obtain ⟨p6,h8,h9⟩:=b6.heap b7.sub;have hb:=eF (r:=cA) (l:=([]:List ByteArray)) (n:=0) b7.at1 .nil rfl (by decide);obtain ⟨p7,hc,d⟩:=bS d;refine Am (r:=cA) (ms:=bs.2) CW hb rfl h9 h8 bt.symm hc ?_;intro t38 p8 bx;refine AM (cT (b:=r5) (j:=2) bx.at5 rfl) ?_;obtain ⟨p9,he,d⟩:=bS d;refine Am (r:=cA) (ms:=([(bV {data:=#[97,98,99,100,101]} (bU z17.1) (bU (wN z17.1)))]:List ByteArray)) CW bx.at1.tail rfl (dI bx.at1) (.cons (a:=[_]) rfl .nil) rfl he ?_;intro t39 pa bz;refine AM (cT (b:=r5) (j:=2) bz.at4 rfl) ?_;obtain ⟨pb,c0,d⟩:=bS d;rw [←a0]at c0;obtain ⟨pc,pd,dk,hf,hg,pe⟩:=(bz.at2).get c0;refine AF _ dk (AY hf ?_);obtain ⟨_,_,rfl,rfl,⟨pf,rfl,pg⟩⟩:=hg;obtain ⟨hj,dl,hk,hl⟩:=cN (t:=t39) bz;obtain ⟨hm,dm,d⟩:=bS d;rw [←a0]at dm;refine Og (j:=1) hl.at1 c0 dm (by rintro _ ⟨_,_,rfl,rfl,⟨t1,rfl,q1⟩⟩;exact ⟨[_],_,rfl,rfl,⟨t39,rfl,hk⟩⟩) rfl rfl dk (by rw [Ah];rfl) fun ph hn=> ?_;have ho:=(((EG (x1:=e.2.1) (x3:=(((e.2.2.2.1)))) hn.at2.at1.at2.at3.at3.at3.at3 (b5.mono dl)).at2).at2).at2;obtain rfl:=iS d;exact AQ (()) rfl ⟨hj,(ar,e.2.1,hm,(((e.2.2.2.1))),e.2.2.2.2),dl,rfl,ho⟩
      ·refine KY ah fun r41 pi dn c1=>AM (by rw [Ah];exact (dn _ _ (au 1 _ rfl)))<|AM (cT (b:=r5) (j:=2) c1.at4 rfl)<|AM (cT (b:=r5) (j:=2) c1.at4 rfl)<|KY c1 fun r42 pj hp b8=>AM (by rw [Ah];exact (hp _ _ (dn _ _ (au 1 _ rfl))))<|AM (cT (b:=r5) (j:=2) b8.at5 rfl)<|AM (cT (b:=r5) (j:=2) b8.at5 rfl) ?_;obtain ⟨pk,hq,hr⟩:=b6.heap b8.sub;have hs:=eF (r:=cA) (l:=([]:List ByteArray)) (n:=0) b8 .nil rfl (by decide);obtain ⟨pl,ht,d⟩:=bS d;refine Am (r:=cA) (ms:=bs.2) CW hs rfl hr hq bt.symm ht ?_;intro t43 pm c2;refine AM (cT (b:=r5) (j:=2) c2.at5 rfl) ?_;obtain ⟨pn,hu,d⟩:=bS d;refine Am (r:=cA) (ms:=([(bV {data:=#[97,98,99,100,101]} (bU z17.1) (bU (wN z17.1)))]:List ByteArray)) CW c2.at1.tail rfl (dI c2.at1) (.cons (a:=[_]) rfl .nil) rfl hu ?_;intro t44 po c3;refine AM (cT (b:=r5) (j:=2) c3.at4 rfl) ?_;obtain ⟨pp,c4,d⟩:=bS d;rw [←a0]at c4;obtain ⟨pq,pr,dp,hv,hw,ps⟩:=(c3.at2).get c4;refine AF _ dp (AY hv ?_);obtain ⟨_,_,rfl,rfl,⟨pt,rfl,pu⟩⟩:=hw;obtain ⟨hz,dq,i0,i1⟩:=cN (t:=t44) c3;obtain ⟨i2,dr,d⟩:=bS d;rw [←a0]at dr;refine Og (j:=1) i1.at1 c4 dr (by rintro _ ⟨_,_,rfl,rfl,⟨t1,rfl,q1⟩⟩;exact ⟨[_],_,rfl,rfl,⟨t44,rfl,i0⟩⟩) rfl rfl dp (by rw [Ah];rfl) fun pv i3=> ?_;have i4:=(((EG (x1:=e.2.1) (x3:=(((e.2.2.2.1)))) i3.at2.at1.at2.at3.at3.at3.at3 (b5.mono dq)).at2).at2).at2;obtain rfl:=iS d;exact AQ (()) rfl ⟨hz,(ar,e.2.1,i2,(((e.2.2.2.1))),e.2.2.2.2),dq,rfl,i4⟩
     obtain rfl:=iS d;exact AQ (()) rfl ⟨b2,(ar,e.2.1,e.2.2.1,((e.2.2.2.1)),e.2.2.2.2),(bZ _),rfl,da.at2.at2.at2⟩
    rintro z27 pw ⟨i5,i6,i7,rfl,i8⟩;try dsimp only at q
    obtain rfl:=iS q;exact AQ (()) rfl ⟨i5,i6,i7,rfl,i8.at2.at2.at2⟩
   obtain rfl:=iS q;exact AQ (()) rfl ⟨b2,(ar,e.2.1,e.2.2.1,(e.2.2.2.1),e.2.2.2.2),(bZ _),rfl,b3.at2.at2.at2⟩
  rintro z22 px ⟨i9,ia,ib,rfl,ic⟩;try dsimp only at z
  obtain rfl:=iS z;exact Ad ((wN z17.1),()) _ rfl rfl ⟨i9,ia,(d0.trans ib),d2,rfl,ic.at2.at2.at2⟩
 ·rintro _ z17 py ⟨ie,ig,ih,rfl,rfl,ii⟩ ij;refine AT (by exact decide_eq_false (Int.not_lt.2 ij))<|AJ (AL (z17.1,()) rfl ⟨_,ie,ig,ih,rfl,rfl,ii.at2.at2.at2⟩)
 rintro z16 pz ⟨_,ds,ik,a7,_,rfl,il⟩;try dsimp only at hd
 obtain ⟨q0,im,hd⟩:=bS hd;refine B9 im (fun io (y:Int×Unit) w_ g=>∃ψ:AD,∃dt:C1,Sub ds ψ∧y.1=io∧dt=g∧St ψ (cO 107 Ed (some ⟨r5,0,none⟩) dt::Wq4 r2::Wq0 r1 s_0::F) w_) ((0:Int),()) rfl ⟨ds,ik,(bZ _),rfl,rfl,il.at2.at2.at2⟩ ?_ ?_ ?_
 ·rintro _ z47 q2 _ _ ⟨ai,c,a8,rfl,rfl,aj⟩ i ip du dv;try dsimp only at i ip du dv
  refine AA (x:=s_0.2.2.1) aj.at2 rfl<|Aa (dT ck du)<|AA (x:=s_0.2.2.1) aj.at2 rfl ?_;obtain ⟨ak,iq,i⟩:=bS i;obtain ⟨q3,q4,ir,it,iu,dw⟩:=(bo.mono ((a3.trans a7).trans a8)).get iq;refine AF _ ir (AY it ?_);obtain rfl:=iu;refine AC (x:=ak) (AE aj.sub (dw 0 _ rfl)) rfl<|Ch i id fun q5 i=>AA (x:=s_0.2.2.1) aj.at2 rfl ?_;obtain ⟨al,iv,i⟩:=bS i;obtain ⟨q6,q7,iw,ix,iy,dx⟩:=(bo.mono ((a3.trans a7).trans a8)).get iv;refine AF _ iw (AY ix ?_);obtain rfl:=iy;refine AC (x:=al) (AE aj.sub (dx 0 _ rfl)) rfl<|Ch i id fun q8 i=>Ch i id fun q9 i=>KY aj fun r55 qa qb aw=>AM (AE aw.sub (dx 0 _ rfl))<|AM (cT (b:=r1) (j:=2) aw.at3 rfl)<|AM (AE aw.sub (dw 0 _ rfl))<|AM (cT (b:=r1) (j:=2) aw.at3 rfl)<|AR aw rfl rfl fun qc iz=>AR iz rfl rfl fun qd j0=>AR j0 rfl rfl fun qe j1=>AR j1 rfl rfl fun qf dy=>AA (x:=s_0.2.2.2.1) dy.at3 rfl ?_;have j2:=dL (r:=cA) (cs:=[.string ({data:=#[]})]) (x:={data:=#[]}) (dL (r:=cA) (cs:=[.string ({data:=#[]})]) (x:={data:=#[]}) (dy.nil 9 cA) rfl) rfl;have j3:=dL (r:=cA) (cs:=[.string (bV {data:=#[83,84,85,86]} (bU (bT (bR .i64 ak) (bR .i64 ((bR .i64 (bT s_0.2.1 (4:Int)))+(1:Int))))) (bU (bR .i64 ((bT (bR .i64 al) (bR .i64 ((bR .i64 (bT s_0.2.1 (4:Int)))+(1:Int))))+(1:Int)))))]) (x:=(bV {data:=#[83,84,85,86]} (bU (bT (bR .i64 ak) (bR .i64 ((bR .i64 (bT s_0.2.1 (4:Int)))+(1:Int))))) (bU (bR .i64 ((bT (bR .i64 al) (bR .i64 ((bR .i64 (bT s_0.2.1 (4:Int)))+(1:Int))))+(1:Int)))))) (dE ((dE j2).at1)) rfl;have dz:St ai (cO 172 Rq0 (some ⟨r55,0,none⟩) ((bV {data:=#[83,84,85,86]} (bU (bT (bR .i64 ak) (bR .i64 ((bR .i64 (bT s_0.2.1 (4:Int)))+(1:Int))))) (bU (bR .i64 ((bT (bR .i64 al) (bR .i64 ((bR .i64 (bT s_0.2.1 (4:Int)))+(1:Int))))+(1:Int))))),[],{data:=#[]},{data:=#[]})::cO 107 Ed (some ⟨r5,0,none⟩) c::Wq4 r2::Wq0 r1 s_0::F) _:=eO (dE j3).at1;obtain ⟨j4,a4,i⟩:=bS i;refine Aj (fun (y:Unit) w_ g=>∃ψ:AD,∃e0:C8,Sub ai ψ∧e0=g∧St ψ (cO 172 Rq0 (some ⟨r55,0,none⟩) e0::cO 107 Ed (some ⟨r5,0,none⟩) c::Wq4 r2::Wq0 r1 s_0::F) w_) (g:=j4) ?_ ?_
  ·refine AK a4 (by rw [f9] <;>rfl) (fun _ a4=> ?_) (fun _ a4=> ?_)
   ·have j5:=dz.at3;obtain ⟨j6,j7,a4⟩:=bS a4;refine Ap (fun (y:Int×Unit) w_ g=>∃ψ:AD,∃e1:C8,Sub ai ψ∧e1=g∧St ψ (cO 172 Rq0 (some ⟨r55,0,none⟩) e1::cO 107 Ed (some ⟨r5,0,none⟩) c::Wq4 r2::Wq0 r1 s_0::F) w_) (g:=j6) ?_ ?_
    ·refine DZ j7 (fun (y:Int×Unit) w_ g=>∃ψ:AD,∃e2:C8,Sub ai ψ∧(y.1,e2)=g∧St ψ (cO 172 Rq0 (some ⟨r55,0,none⟩) e2::cO 107 Ed (some ⟨r5,0,none⟩) c::Wq4 r2::Wq0 r1 s_0::F) w_) ((0:Int),()) rfl ⟨ai,((bV {data:=#[83,84,85,86]} (bU (bT (bR .i64 ak) (bR .i64 ((bR .i64 (bT s_0.2.1 (4:Int)))+(1:Int))))) (bU (bR .i64 ((bT (bR .i64 al) (bR .i64 ((bR .i64 (bT s_0.2.1 (4:Int)))+(1:Int))))+(1:Int))))),[],{data:=#[]},{data:=#[]}),(bZ _),rfl,j5.at3.at3.at3⟩ ?_
     ·rintro z59 qg _ _ ⟨b9,k,ax,rfl,a5⟩ f j8;try dsimp only at f
      refine AA (x:=s_0.2.2.2.1) a5.at3 rfl ?_;obtain ⟨qh,j9,f⟩:=bS f;refine Mn bp j9 (dJ (((a3.trans a7).trans a8).trans ax) a5.sub) fun qi ja=> ?_;have jb:=ja.length;refine AK f (by rw [jb] <;>rfl) (fun _ f=> ?_) (fun _ f=> ?_)
      ·refine AA (x:=s_0.2.2.2.1) a5.at3 rfl ?_;obtain ⟨qj,jc,f⟩:=bS f;refine Mn bp jc (dJ (((a3.trans a7).trans a8).trans ax) a5.sub) fun qk jd=> ?_;obtain ⟨ba,je,f⟩:=bS f;refine Ce jd je (dJ (((a3.trans a7).trans a8).trans ax) a5.sub)<|Ch f id fun ql f=>Ch f id fun qm f=>Ch f id fun qn f=>Ch f id fun qo f=> ?_;obtain ⟨jf,a9,f⟩:=bS f;refine Aj (fun (y:ByteArray×Unit) w_ g=>∃ψ:AD,Sub b9 ψ∧y.1=g∧St ψ (cO 172 Rq0 (some ⟨r55,0,none⟩) k::cO 107 Ed (some ⟨r5,0,none⟩) c::Wq4 r2::Wq0 r1 s_0::F) w_) (g:=jf) ?_ ?_
       ·refine AK a9 rfl (fun _ a9=> ?_) (fun _ a9=> ?_)
        ·refine Ch a9 id fun qp a9=> ?_;obtain rfl:=iS a9;exact AQ ((bV {data:=#[83,84,85,86]} (bU (bR .i64 ((bT (bR .i64 ba) (bR .i64 ((bR .i64 ((bR .i64 (bT s_0.1 (5:Int)))+(1:Int)))+(bR .i64 ((bR .i64 (bT s_0.2.1 (4:Int)))+(1:Int)))))) - (bR .i64 ((bR .i64 (bT s_0.1 (5:Int)))+(1:Int)))))) (bU (bR .i64 ((bR .i64 ((bT (bR .i64 ba) (bR .i64 ((bR .i64 ((bR .i64 (bT s_0.1 (5:Int)))+(1:Int)))+(bR .i64 ((bR .i64 (bT s_0.2.1 (4:Int)))+(1:Int)))))) - (bR .i64 ((bR .i64 (bT s_0.1 (5:Int)))+(1:Int)))))+(1:Int))))),()) rfl ⟨b9,(bZ _),rfl,a5.at3.at3.at3.at3⟩
        obtain rfl:=iS a9;exact AQ ((bV {data:=#[97,98,99,100,101]} (bU (bT (bT (bR .i64 ba) (bR .i64 ((bR .i64 ((bR .i64 (bT s_0.1 (5:Int)))+(1:Int)))+(bR .i64 ((bR .i64 (bT s_0.2.1 (4:Int)))+(1:Int)))))) (5:Int))) (bU (bR .i64 ((bT (bT (bR .i64 ba) (bR .i64 ((bR .i64 ((bR .i64 (bT s_0.1 (5:Int)))+(1:Int)))+(bR .i64 ((bR .i64 (bT s_0.2.1 (4:Int)))+(1:Int)))))) (5:Int))+(1:Int))))),()) rfl ⟨b9,(bZ _),rfl,a5.at3.at3.at3.at3⟩
       rintro z68 qq ⟨c5,jg,rfl,jh⟩;try dsimp only at f
       obtain ⟨ji,qr,e3,qs,jj⟩:=jh.open;obtain rfl:r55=ji:=by simpa using e3
       clear e3;obtain ⟨qt,qu,rfl,qv,jk⟩:=jj.at1.pair;obtain ⟨jl,jm⟩:=jk.ro;subst jl;obtain ⟨qw,qx,rfl,qy,e4⟩:=jm.pair;obtain ⟨c6,jn⟩:=e4.rowCs;subst jn;obtain ⟨qz,r0,rfl,r3,jo⟩:=e4.at1.pair;obtain ⟨jp,jq⟩:=jo.ro;subst jp;obtain ⟨jr,js⟩:=jq.ro;subst jr;have e5:St c5 (cR 9 cA c6 k.2.1::cW 172 r55 [.string (k.1),sv c6,.string (k.2.2.1),.string (k.2.2.2)]::cO 107 Ed (some ⟨r5,0,none⟩) c::Wq4 r2::Wq0 r1 s_0::F) _:=js;refine AA (x:=c6) e5.at1 rfl<|AV (vs:=[.string z68.1]) e5 fun r70 r4 e6=> ?_;obtain ⟨e7,jt,f⟩:=bS f;refine Am (r:=cA) (ms:=([z68.1]:List ByteArray)) CW e6.tail rfl (dI e6) (.cons (a:=[_]) rfl .nil) rfl jt ?_;intro t71 r6 ju;refine AR ju.at1 rfl rfl fun r7 jv=> ?_;have jw:=dL (r:=cA) (cs:=[.string (k.2.2.1)]) (x:=(k.2.2.1)) (dL (r:=cA) (cs:=[.string (k.2.2.2)]) (x:=(k.2.2.2)) jv.at1 rfl) rfl;have jx:St c5 (cO 172 Rq0 (some ⟨r55,0,none⟩) ((k.1),e7,(k.2.2.1),(k.2.2.2))::cO 107 Ed (some ⟨r5,0,none⟩) c::Wq4 r2::Wq0 r1 s_0::F) _:=eO (dE (dL (r:=cA) (cs:=[.string (k.1)]) (x:=(k.1)) (dE ((dE jw).at1)) rfl)).at1;obtain rfl:=iS f;exact Ad ((wN z59.1),()) _ rfl rfl ⟨c5,((k.1),e7,(k.2.2.1),(k.2.2.2)),(ax.trans jg),rfl,jx.at3.at3.at3.at3⟩
      obtain rfl:=iS f;obtain rfl:=j8 _ rfl;exact AJ (AL (z59.1,()) rfl ⟨b9,k,ax,rfl,a5.at3.at3.at3.at3⟩)
    rintro z58 r8 ⟨jy,jz,k0,rfl,k1⟩;try dsimp only at a4
    obtain rfl:=iS a4;exact AQ (()) rfl ⟨jy,jz,k0,rfl,k1.at3.at3.at3.at3⟩
   obtain rfl:=iS a4;exact AQ (()) rfl ⟨ai,((bV {data:=#[83,84,85,86]} (bU (bT (bR .i64 ak) (bR .i64 ((bR .i64 (bT s_0.2.1 (4:Int)))+(1:Int))))) (bU (bR .i64 ((bT (bR .i64 al) (bR .i64 ((bR .i64 (bT s_0.2.1 (4:Int)))+(1:Int))))+(1:Int))))),[],{data:=#[]},{data:=#[]}),(bZ _),rfl,dz.at3.at3.at3.at3⟩
  rintro z57 r9 ⟨aa,o,e8,rfl,ay⟩;try dsimp only at i
  refine AA (x:=s_0.2.2.2.2.1) ay.at3 rfl ?_;obtain ⟨k2,s,i⟩:=bS i;refine Aj (fun (y:Unit) w_ g=>∃ψ:AD,∃e9:C8,Sub aa ψ∧e9=g∧St ψ (cO 172 Rq0 (some ⟨r55,0,none⟩) e9::cO 107 Ed (some ⟨r5,0,none⟩) c::Wq4 r2::Wq0 r1 s_0::F) w_) (g:=k2) ?_ ?_
  ·refine AK s (by rw [fa] <;>rfl) (fun _ s=> ?_) (fun _ s=> ?_)
   ·refine AA (x:=s_0.2.2.2.2.1) ay.at3 rfl ?_;obtain ⟨a6,k3,s⟩:=bS s;refine Ce cd k3 (dJ (((a3.trans a7).trans a8).trans e8) ay.sub) ?_;obtain ⟨k4,am,c7,a1,an,ea,k5,bb⟩:=GB ay.at1;obtain rfl:r5=k4:=by simpa using ea
    clear ea;have bc:=(bb.at1).rowLen;refine AA (x:=a1) bb.at3 rfl<|Ch s (by rw [bc];exact id) fun ra s=> ?_;obtain ⟨k6,ab,s⟩:=bS s;refine Aj (fun (y:Unit) w_ g=>∃ψ:AD,∃eb:C8,Sub aa ψ∧eb=g∧St ψ (cO 172 Rq0 (some ⟨r55,0,none⟩) eb::cR 172 GQ an c.2.2.2.2::cR 179 Gu a1 c.2.2.1::cR 176 Gt am c.1::cW 107 r5 [sv am,sv c7,sv a1,.string (c.2.2.2.1),sv an]::Wq4 r2::Wq0 r1 s_0::F) w_) (g:=k6) ?_ ?_
    ·refine AK ab (by rw [bc] <;>rfl) (fun _ ab=> ?_) (fun _ ab=> ?_)
     ·refine Ch ab (by rw [bc];exact id) fun rb ab=> ?_;obtain ⟨k7,rc,ec,rd,k8⟩:=bb.at4.open;obtain rfl:r55=k7:=by simpa using ec
      clear ec;obtain ⟨re,rf,rfl,rg,k9⟩:=k8.at1.pair;obtain ⟨ka,kb⟩:=k9.ro;subst ka;obtain ⟨rh,ri,rfl,rj,ed⟩:=kb.pair;obtain ⟨ee,kc⟩:=ed.rowCs;subst kc;obtain ⟨rk,rl,rfl,rm,kd⟩:=ed.at1.pair;obtain ⟨ke,kf⟩:=kd.ro;subst ke;obtain ⟨kg,kh⟩:=kf.ro;subst kg;have ki:St aa (cR 9 cA ee o.2.1::cW 172 r55 [.string (o.1),sv ee,.string (o.2.2.1),.string (o.2.2.2)]::cR 172 GQ an c.2.2.2.2::cR 179 Gu a1 c.2.2.1::cR 176 Gt am c.1::cW 107 r5 [sv am,sv c7,sv a1,.string (c.2.2.2.1),sv an]::Wq4 r2::Wq0 r1 s_0::F) _:=kh;refine AR ki.at1 rfl rfl fun rn kj=> ?_;have kk:=dL (r:=cA) (cs:=[.string (bV {data:=#[112,113,114,115,116]} (bU (bR .i64 ((bT (bR .i64 a6) (bR .i64 ((a1.2.1:Int)+(1:Int)))) - (1:Int)))) (bU (bT (bR .i64 a6) (bR .i64 ((a1.2.1:Int)+(1:Int))))))]) (x:=(bV {data:=#[112,113,114,115,116]} (bU (bR .i64 ((bT (bR .i64 a6) (bR .i64 ((c.2.2.1.length:Int)+(1:Int)))) - (1:Int)))) (bU (bT (bR .i64 a6) (bR .i64 ((c.2.2.1.length:Int)+(1:Int))))))) (dL (r:=cA) (cs:=[.string (o.2.2.2)]) (x:=(o.2.2.2)) kj.at1 rfl) (show _=_ by rw [bc];rfl);have kl:St aa (cO 172 Rq0 (some ⟨r55,0,none⟩) ((o.1),o.2.1,(bV {data:=#[112,113,114,115,116]} (bU (bR .i64 ((bT (bR .i64 a6) (bR .i64 ((c.2.2.1.length:Int)+(1:Int)))) - (1:Int)))) (bU (bT (bR .i64 a6) (bR .i64 ((c.2.2.1.length:Int)+(1:Int)))))),(o.2.2.2))::cR 172 GQ an c.2.2.2.2::cR 179 Gu a1 c.2.2.1::cR 176 Gt am c.1::cW 107 r5 [sv am,sv c7,sv a1,.string (c.2.2.2.1),sv an]::Wq4 r2::Wq0 r1 s_0::F) _:=eO (dE (dL (r:=cA) (cs:=[.string (o.1)]) (x:=(o.1)) (dE ((dE kk).at1)) rfl)).at1;obtain rfl:=iS ab;exact AQ (()) rfl ⟨aa,((o.1),o.2.1,(bV {data:=#[112,113,114,115,116]} (bU (bR .i64 ((bT (bR .i64 a6) (bR .i64 ((c.2.2.1.length:Int)+(1:Int)))) - (1:Int)))) (bU (bT (bR .i64 a6) (bR .i64 ((c.2.2.1.length:Int)+(1:Int)))))),(o.2.2.2)),(bZ _),rfl,kl.at6.at6.at6.at6.at6.at6.at6⟩
     obtain rfl:=iS ab;exact AQ (()) rfl ⟨aa,o,(bZ _),rfl,bb.at6.at6.at5.at5.at5.at5.at6⟩
    rintro z78 rp ⟨km,kn,ef,rfl,ko⟩;try dsimp only at s
    have kp:=(((EG (x1:=c.2.1) (x3:=(c.2.2.2.1)) ko.at3.at3.at3.at4.at3.at3.at3 (k5.mono ef)).at3).at3).at2;obtain rfl:=iS s;exact AQ (()) rfl ⟨km,kn,ef,rfl,kp.at3⟩
   obtain rfl:=iS s;exact AQ (()) rfl ⟨aa,o,(bZ _),rfl,ay.at3.at3.at3.at3⟩
  rintro z73 rq ⟨kq,p,kr,rfl,ks⟩;try dsimp only at i
  obtain ⟨kt,eg,ku,eh,c8,ei,kv,ej⟩:=GB ks.at1;obtain rfl:r5=kt:=by simpa using ei
  clear ei;refine AA (x:=c8) ej.at3 rfl ?_;obtain ⟨kw,rr,ek,rs,kx⟩:=ej.at4.open;obtain rfl:r55=kw:=by simpa using ek
  clear ek;obtain ⟨rt,ru,rfl,rv,ky⟩:=kx.at1.pair;obtain ⟨kz,l0⟩:=ky.ro;subst kz;obtain ⟨rx,ry,rfl,rz,el⟩:=l0.pair;obtain ⟨ao,l1⟩:=el.rowCs;subst l1;obtain ⟨s1,s2,rfl,s3,l2⟩:=el.at1.pair;obtain ⟨l3,l4⟩:=l2.ro;subst l3;obtain ⟨l5,l6⟩:=l4.ro;subst l5;have az:St kq (cR 9 cA ao p.2.1::cW 172 r55 [.string (p.1),sv ao,.string (p.2.2.1),.string (p.2.2.2)]::cR 172 GQ c8 c.2.2.2.2::cR 179 Gu eh c.2.2.1::cR 176 Gt eg c.1::cW 107 r5 [sv eg,sv ku,sv eh,.string (c.2.2.2.1),sv c8]::Wq4 r2::Wq0 r1 s_0::F) _:=l6;refine AA (x:=(p.1)) az.at1 rfl<|AA (x:=ao) az.at1 rfl<|AA (x:=(p.2.2.1)) az.at1 rfl<|AA (x:=(p.2.2.2)) az.at1 rfl<|AV (vs:=[.string (p.1),sv ao,.string (p.2.2.1),.string (p.2.2.2)]) az fun r84 s4 l7=> ?_;obtain ⟨l8,em,l9,en⟩:=cN (t:=ao) l7.at1;obtain ⟨la,lb,i⟩:=bS i;refine Am (r:=GQ) (ms:=([((p.1),p.2.1,(p.2.2.1),(p.2.2.2))]:List C8)) K5 en.tail.at1 rfl (dI en) (.cons (a:=[_,_,_,_]) ⟨[_],_,rfl,rfl,⟨[_],_,rfl,⟨ao,rfl,l9⟩,⟨[_],_,rfl,rfl,rfl⟩⟩⟩ .nil) rfl lb ?_;intro t85 s5 lc;refine AR lc.at4 rfl rfl fun s6 ld=> ?_;have le:=((EG (x1:=c.2.1) (x3:=(c.2.2.2.1)) ld.at4.at4.at3.at3.at3.at3.at3 (kv.mono em)).at1.tail).at2;obtain rfl:=iS i;exact Ad ((wN z47.1),()) _ rfl rfl ⟨l8,(c.1,c.2.1,c.2.2.1,(c.2.2.2.1),la),(((a8.trans e8).trans kr).trans em),dv,rfl,le.at2.at2⟩
 ·rintro _ z47 s7 ⟨lf,lg,lh,rfl,rfl,eo⟩ li;refine AA (x:=s_0.2.2.1) eo.at2 rfl<|AT (dF ck li)<|AJ (AL (z47.1,()) rfl ⟨_,lf,lg,lh,rfl,rfl,eo.at2.at2.at2⟩)
 rintro z46 s8 ⟨_,ep,lj,lk,_,rfl,ll⟩;try dsimp only at hd
 obtain ⟨s9,lm,hd⟩:=bS hd;refine B9 lm (fun ln (y:Int×Unit) w_ g=>∃ψ:AD,∃er:C1,Sub ep ψ∧y.1=ln∧er=g∧St ψ (cO 107 Ed (some ⟨r5,0,none⟩) er::Wq4 r2::Wq0 r1 s_0::F) w_) ((0:Int),()) rfl ⟨ep,lj,(bZ _),rfl,rfl,ll.at2.at2.at2⟩ ?_ ?_ ?_
 ·rintro _ z87 sa _ _ ⟨c9,m,lo,rfl,rfl,lp⟩ w lq es eu;try dsimp only at w lq es eu
  refine Aa (by exact decide_eq_true es)<|Ch w id fun sb w=> ?_;obtain ⟨lr,ls,w⟩:=bS w;refine Ap (fun (y:Int×Bool×Unit) w_ g=>∃ψ:AD,Sub c9 ψ∧y.2.1=g∧St ψ (cO 107 Ed (some ⟨r5,0,none⟩) m::Wq4 r2::Wq0 r1 s_0::F) w_) (g:=lr) ?_ ?_
  ·refine DZ ls (fun (y:Int×Bool×Unit) w_ g=>∃ψ:AD,Sub c9 ψ∧(y.1,y.2.1)=g∧St ψ (cO 107 Ed (some ⟨r5,0,none⟩) m::Wq4 r2::Wq0 r1 s_0::F) w_) ((0:Int),false,()) rfl ⟨c9,(bZ _),rfl,lp.at2.at2.at2⟩ ?_
   ·rintro z89 sc _ _ ⟨bd,ev,rfl,lt⟩ a2 lu;try dsimp only at a2
    obtain ⟨lv,ew,lw,ex,be,ey,ez,ac⟩:=GB lt;obtain rfl:r5=lv:=by simpa using ey
    clear ey;have lx:=(ac).rowLen;refine AA (x:=be) ac.at3 rfl<|AK a2 (by rw [lx] <;>rfl) (fun _ a2=> ?_) (fun _ a2=> ?_)
    ·obtain ⟨ly,ad,a2⟩:=bS a2;refine Aj (fun (y:Bool×Unit) w_ g=>∃ψ:AD,Sub bd ψ∧y.1=g∧St ψ (cR 172 GQ be m.2.2.2.2::cR 179 Gu ex m.2.2.1::cR 176 Gt ew m.1::cW 107 r5 [sv ew,sv lw,sv ex,.string (m.2.2.2.1),sv be]::Wq4 r2::Wq0 r1 s_0::F) w_) (g:=ly) ?_ ?_
     ·refine AK ad rfl (fun _ ad=> ?_) (fun _ ad=> ?_)
      ·have lz:=ac.at5;obtain rfl:=iS ad;exact AQ (true,()) rfl ⟨bd,(bZ _),rfl,lz.at5.at5.at5.at5.at5⟩
      refine AA (x:=be) ac.at3 rfl ?_;obtain ⟨f0,m0,ad⟩:=bS ad;obtain ⟨sd,se,m1,m2,m3,m4⟩:=(ac).get m0;refine AF _ m1 (AY m2 ?_);obtain ⟨_,_,rfl,rfl,⟨_,_,rfl,⟨sf,rfl,sg⟩,⟨_,_,rfl,rfl,rfl⟩⟩⟩:=m3;refine AC (x:=f0.1) (m4 0 _ rfl) rfl ?_;obtain rfl:=iS ad;exact AQ ((bX f0.1==bX (bV {data:=#[83,84,85,86]} (bU z87.1) (bU (wN z87.1)))),()) rfl ⟨bd,(bZ _),rfl,ac.at5.at5.at5.at5.at5.at5⟩
     rintro z91 sh ⟨mb,f1,rfl,mc⟩;try dsimp only at a2
     have md:=(((EG (x1:=m.2.1) (x3:=(m.2.2.2.1)) mc.at2.at2.at2.at3.at3.at3.at3 (ez.mono f1)).at2).at2).at2;obtain rfl:=iS a2;exact Ad ((wN z89.1),z91.1,()) _ rfl rfl ⟨mb,(ev.trans f1),rfl,md⟩
    obtain rfl:=iS a2;obtain rfl:=lu _ rfl;exact AJ (AL (z89.1,z89.2.1,()) rfl ⟨bd,ev,rfl,((((EG (x1:=m.2.1) (x3:=(m.2.2.2.1)) ac.at2.at2.at2.at3.at3.at3.at3 ez).at2).at2).at2)⟩)
  rintro z88 si ⟨ca,me,rfl,f2⟩;try dsimp only at w
  obtain ⟨mf,ae,w⟩:=bS w;refine Aj (fun (y:Unit) w_ g=>∃ψ:AD,∃f3:C1,Sub ca ψ∧f3=g∧St ψ (cO 107 Ed (some ⟨r5,0,none⟩) f3::Wq4 r2::Wq0 r1 s_0::F) w_) (g:=mf) ?_ ?_
  ·refine AK ae rfl (fun _ ae=> ?_) (fun _ ae=> ?_)
   ·obtain ⟨mg,sj,sk,sl,mh,f4,mi,f5⟩:=GB f2;obtain rfl:r5=mg:=by simpa using f4
    clear f4;refine AA (x:=mh) f5.at3 rfl<|AV (vs:=[.string (bV {data:=#[83,84,85,86]} (bU z87.1) (bU (wN z87.1))),.slice none 0 0,.string ({data:=#[]}),.string ({data:=#[]})]) f5 fun r97 sm f6=> ?_;obtain ⟨mj,mk,ae⟩:=bS ae;refine Am (r:=GQ) (ms:=([((bV {data:=#[83,84,85,86]} (bU z87.1) (bU (wN z87.1))),[],{data:=#[]},{data:=#[]})]:List C8)) K5 f6.tail rfl (dI f6) (.cons (a:=[_,_,_,_]) ⟨[_],_,rfl,rfl,⟨[_],_,rfl,⟨((none,0,0):Slc),rfl,cF _ _⟩,⟨[_],_,rfl,rfl,rfl⟩⟩⟩ .nil) rfl mk ?_;intro t98 sn ml;refine AR ml.at3 rfl rfl fun so mm=> ?_;obtain rfl:=iS ae;exact AQ (()) rfl ⟨ca,(m.1,m.2.1,m.2.2.1,(m.2.2.2.1),mj),(bZ _),rfl,((((EG (x1:=m.2.1) (x3:=(m.2.2.2.1)) mm.at3.at3.at3.at3.at3.at3.at3 mi).at2).at2).at2)⟩
   obtain rfl:=iS ae;exact AQ (()) rfl ⟨ca,m,(bZ _),rfl,f2.at2.at2.at2⟩
  rintro z95 sp ⟨mn,mo,mp,rfl,mq⟩;try dsimp only at w
  obtain rfl:=iS w;exact Ad ((wN z87.1),()) _ rfl rfl ⟨mn,mo,((lo.trans me).trans mp),eu,rfl,mq.at2.at2.at2⟩
 ·rintro _ z87 sq ⟨mr,mu,mv,rfl,rfl,mw⟩ mx;refine AT (by exact decide_eq_false (Int.not_lt.2 mx))<|AJ (AL (z87.1,()) rfl ⟨_,mr,mu,mv,rfl,rfl,mw.at2.at2.at2⟩)
 rintro z86 sr ⟨_,ss,af,my,_,rfl,mz⟩;try dsimp only at hd
 obtain ⟨n0,bf,cb,bg,bh,f7,n1,ap⟩:=GB mz;obtain rfl:r5=n0:=by simpa using f7
 clear f7;refine AA (x:=bf) ap.at3 rfl<|AA (x:=cb) ap.at3 rfl<|AA (x:=bg) ap.at3 rfl<|AA (x:=(af.2.2.2.1)) ap.at3 rfl<|AA (x:=bh) ap.at3 rfl<|AR ap.at4 rfl rfl fun st n2=>AR n2 rfl rfl fun su n3=>AR n3 rfl rfl fun sw n4=>AR n4 rfl rfl fun sx n5=>AR n5 rfl rfl fun sy aq=>AA (x:=bf) aq rfl<|AA (x:=cb) aq rfl<|AA (x:=bg) aq rfl<|AA (x:=(af.2.2.2.1)) aq rfl<|AA (x:=bh) aq rfl ?_;obtain ⟨sz,f8,n6,n7⟩:=cN (t:=bf) aq.at3;obtain ⟨t3,cc,n8,n9⟩:=cN (t:=bg) n7.at2;obtain ⟨na,bi,nb,nc⟩:=cN (t:=bh) n9.at1;obtain rfl:=iS hd;exact AB ⟨na,(bf,cb,bg,(af.2.2.2.1),bh,()),af.1,af.2.1,af.2.2.1,af.2.2.2.2,((((((a3.trans a7).trans lk).trans my).trans f8).trans cc).trans bi),rfl,rfl,(n6.mono (cc.trans bi)),(n1.mono ((f8.trans cc).trans bi)),(n8.mono bi),nb,nc.tail.tail.tail⟩
end
section
variable {φ:AD}{h:AH}{F:List Chk}
theorem Ql:HG bW 29 29 65 3:=⟨fF,.inl fF,⟨Tryz.t65,by kernel_rfl,rfl,⟨_,rfl,rfl⟩,by decide,by decide⟩,by decide⟩
theorem FG:HG bW 30 30 3 1:=⟨dP,.inl dP,⟨Tryz.t3,by kernel_rfl,rfl,⟨_,rfl,rfl⟩,by decide,by decide⟩,by decide⟩
noncomputable def Ct (g_0:C1):Option (List ByteArray×List ByteArray×List Ay×List Int×List Int×List ByteArray×Int×ByteArray):=
 (CN (g_0.1,g_0.2.1,g_0.2.2.1,g_0.2.2.2.1,g_0.2.2.2.2)).bind fun t8=>
 cond (!t8)
 (some (([]:List ByteArray),[],[],[],[],[],1,{data:=#[]}))
 ((forS (σ:=BA) 0 (g_0.2.2.2.2.length:Int) (([{data:=#[36,101,110,100]}]:List ByteArray),[],[],([(0:Int)]:List Int),([(0:Int)]:List Int),([{data:=#[]}]:List ByteArray)) fun i_z21 z21=>
  (idx g_0.2.2.2.2 i_z21).bind fun e109=>
  (As z21.2.1 e109.1).bind fun t27=>
  (cond (decide (t27< 0))
  ((idx g_0.2.2.2.2 i_z21).bind fun e159=>
   (app (z21.1,z21.2.1,z21.2.2.1,z21.2.2.2.1,z21.2.2.2.2.1,z21.2.2.2.2.2).2.1 ([e159.1]:List ByteArray)).bind fun t34=>
   some ((z21.1,z21.2.1,z21.2.2.1,z21.2.2.2.1,z21.2.2.2.2.1,z21.2.2.2.2.2).1,t34,(z21.1,z21.2.1,z21.2.2.1,z21.2.2.2.1,z21.2.2.2.2.1,z21.2.2.2.2.2).2.2.1,(z21.1,z21.2.1,z21.2.2.1,z21.2.2.2.1,z21.2.2.2.2.1,z21.2.2.2.2.2).2.2.2.1,(z21.1,z21.2.1,z21.2.2.1,z21.2.2.2.1,z21.2.2.2.2.1,z21.2.2.2.2.2).2.2.2.2.1,(z21.1,z21.2.1,z21.2.2.1,z21.2.2.2.1,z21.2.2.2.2.1,z21.2.2.2.2.2).2.2.2.2.2))
  (some (z21.1,z21.2.1,z21.2.2.1,z21.2.2.2.1,z21.2.2.2.2.1,z21.2.2.2.2.2))).bind fun z28=>
  (idx g_0.2.2.2.2 i_z21).bind fun e224=>
  (app z28.2.2.2.2.2 ([e224.2.2.2]:List ByteArray)).bind fun t40=>
  some (z28.1,z28.2.1,z28.2.2.1,z28.2.2.2.1,z28.2.2.2.2.1,t40)).bind fun z20=>
  (C2 (σ:=(BA×BA)) (β:=(List ByteArray×List ByteArray×List Ay×List Int×List Int×List ByteArray×Int×ByteArray)) 0 (g_0.1.length:Int) ((([]:List ByteArray),[],[],[],[],([]:List ByteArray)),z20) fun i_z42 z42=>
   (idx g_0.1 i_z42).bind fun e324=>
   (As z42.2.2.1 e324.1).bind fun t48=>
   cond (decide (t48≥ 0))
   ((idx g_0.1 i_z42).bind fun e346=>
    some (dB (([]:List ByteArray),[],[],[],[],[],15,e346.1)))
   ((idx g_0.1 i_z42).bind fun e403=>
    (app z42.2.1 ([e403.1]:List ByteArray)).bind fun t63=>
    (idx g_0.1 i_z42).bind fun e431=>
    (Bs (g_0.1,g_0.2.1,g_0.2.2.1,g_0.2.2.2.1,g_0.2.2.2.2) e431.1).bind fun t73=>
    (app z42.2.2.2.2.1 ([t73]:List Int)).bind fun t75=>
    some (dC (z42.1,(t63,z42.2.2.1,z42.2.2.2.1,t75,z42.2.2.2.2.2.1,z42.2.2.2.2.2.2))))).bind fun e_z41=>match e_z41 with
  |.next z41=>
   (forS (σ:=BA) 0 (g_0.2.2.1.length:Int) z41.2 fun i_z77 z77=>
    (idx g_0.2.2.1 i_z77).bind fun e527=>
    (app z77.2.2.2.2.1 ([e527.1]:List Int)).bind fun t84=>
    some (z77.1,z77.2.1,z77.2.2.1,z77.2.2.2.1,t84,z77.2.2.2.2.2)).bind fun z76=>
   (BJ (z76.1,z76.2.1) g_0.2.2.2.1).bind fun t94=>
   (C2 (σ:=(BA×BA)) (β:=(List ByteArray×List ByteArray×List Ay×List Int×List Int×List ByteArray×Int×ByteArray)) 0 (g_0.2.2.2.2.length:Int) (z41.1,(z76.1,z76.2.1,([((bR .i64 ((z76.1.length:Int)+(z76.2.1.length:Int))),([t94]:List Int),0)]:List Ay),z76.2.2.2.1,z76.2.2.2.2.1,z76.2.2.2.2.2)) fun i_z98 z98=>
    (idx g_0.2.2.2.2 i_z98).bind fun e644=>
    (BJ (z98.2.1,z98.2.2.1) e644.1).bind fun t114=>
    (C2 (σ:=(BA×Ay)) (β:=(List ByteArray×List ByteArray×List Ay×List Int×List Int×List ByteArray×Int×ByteArray)) 0 (e644.2.1.length:Int) (z98.1,(t114,[],0)) fun i_z117 z117=>
     (idx e644.2.1 i_z117).bind fun e735=>
     (BJ (z98.2.1,z98.2.2.1) e735).bind fun t128=>
     cond (decide (t128< 0))
     ((idx e644.2.1 i_z117).bind fun e753=>
      some (dB (([]:List ByteArray),[],[],[],[],[],16,e753)))
     ((app z117.2.2.1 ([t128]:List Int)).bind fun t140=>
      (cond (decide (t128< (z98.2.1.length:Int)))
      ((idx z98.2.2.2.2.1 t128).bind fun e849=>
       some ((((z117.2.1),t140,(z117.2.2.2)).1),((z117.2.1),t140,(z117.2.2.2)).2.1,e849))
      (some ((z117.2.1),t140,(z117.2.2.2)))).bind fun z142=>
      some (dC (z117.1,z142)))).bind fun e_z116=>match e_z116 with
    |.next z116=>
     ((cond (!(bX e644.2.2.1==bX {data:=#[]}))
     ((Bs (g_0.1,g_0.2.1,g_0.2.2.1,g_0.2.2.2.1,g_0.2.2.2.2) e644.2.2.1).bind fun t154=>
      cond (t154==0)
      (some (dB (([]:List ByteArray),[],[],[],[],[],16,e644.2.2.1)))
      (some (dC (((z116.2.1),z116.2.2.1,t154),z116.1))))
     (some (dC (z116.2,z116.1)))):Option (Ab (Ay×BA) (List ByteArray×List ByteArray×List Ay×List Int×List Int×List ByteArray×Int×ByteArray))).bind fun e_z147=>match e_z147 with
     |.next z147=>
      (app z98.2.2.2.1 ([((z147.1.1),z147.1.2.1,(z147.1.2.2))]:List Ay)).bind fun t168=>
      some (dC (z147.2,(z98.2.1,z98.2.2.1,t168,z98.2.2.2.2.1,z98.2.2.2.2.2.1,z98.2.2.2.2.2.2)))
     |.done q1132=>some (dB q1132)
    |.done q1133=>some (dB q1133)).bind fun e_z97=>match e_z97 with
   |.next z97=>
    (As z97.2.2.1 g_0.2.2.2.1).bind fun t171=>
    cond (decide (t171< 0))
    (some (([]:List ByteArray),[],[],[],[],[],16,g_0.2.2.2.1))
    (some (z97.2.1,z97.2.2.1,z97.2.2.2.1,z97.2.2.2.2.1,z97.2.2.2.2.2.1,z97.2.2.2.2.2.2,0,{data:=#[]}))
   |.done q1286=>some q1286
  |.done q1287=>some q1287)
set_option maxHeartbeats 4000000 in
theorem J7 {g_0:Slc×Slc×Slc×ByteArray×Slc×Unit}{c7:List GP}{ct:List HR}{c8:List Ec}{c9:List C8}(ar:Ro.SliceIs Gt φ g_0.1 c7) (ca:Ro.SliceIs Kt φ g_0.2.1 ct) (bc:Ro.SliceIs Gu φ g_0.2.2.1 c8) (au:Ro.SliceIs GQ φ g_0.2.2.2.2.1 c9) (s0:St φ (F) h) {r:(List ByteArray×List ByteArray×List Ay×List Int×List Int×List ByteArray×Int×ByteArray)}(hd:Ct (c7,ct,c8,g_0.2.2.2.1,c9)=some r):
 CallsH bW 55 [(.agg #[(sv g_0.1),(sv g_0.2.1),(sv g_0.2.2.1),(.string g_0.2.2.2.1),(sv g_0.2.2.2.2.1)])] h (Ar fun v h'=>∃ψ:AD,∃y:(Pl6)×Int×ByteArray×Unit,∃cu:List ByteArray,∃cv:List ByteArray,∃cw:List Ay,∃cx:List Int,∃cy:List Int,∃cz:List ByteArray,Sub φ ψ∧v=((.tuple [(.agg [.slice,.slice,.slice,.slice,.slice,.slice]),aI,(.atom .string)]):Sh).val y∧(cu,cv,cw,cx,cy,cz,y.2.1,y.2.2.1)=r∧Ro.SliceIs cA ψ y.1.1 cu∧Ro.SliceIs cA ψ y.1.2.1 cv∧Ro.SliceIs CR ψ y.1.2.2.1 cw∧Ro.SliceIs (cH .i64) ψ y.1.2.2.2.1 cx∧Ro.SliceIs (cH .i64) ψ y.1.2.2.2.2.1 cy∧Ro.SliceIs cA ψ y.1.2.2.2.2.2.1 cz∧St ψ (F) h'):=by
 refine AO mixed Tryz.func55 ?_;rw [J0];unfold Gx;unfold Ct at hd;have d0:g_0.1.2.1=cK c7:=ar.length;have d1:g_0.2.2.1.2.1=cK c8:=bc.length;have bj:g_0.2.2.2.2.1.2.1=cK c9:=au.length;refine AV (vs:=[sv g_0.1,sv g_0.2.1,sv g_0.2.2.1,.string g_0.2.2.2.1,sv g_0.2.2.2.2.1]) s0 fun r1 pp fg=>AV (vs:=[.slice none 0 0,.slice none 0 0,.slice none 0 0,.slice none 0 0,.slice none 0 0,.slice none 0 0]) fg fun r2 pq b5=>AA (x:=g_0.1) b5.at1 rfl<|AA (x:=g_0.2.1) b5.at1 rfl<|AA (x:=g_0.2.2.1) b5.at1 rfl<|AA (x:=g_0.2.2.2.1) b5.at1 rfl<|AA (x:=g_0.2.2.2.2.1) b5.at1 rfl ?_;obtain ⟨pr,fh,hd⟩:=bS hd;refine AI (H9 (g_0:=(g_0.1,g_0.2.1,g_0.2.2.1,g_0.2.2.2.1,g_0.2.2.2.2.1,())) ar ca bc au b5 fh) ?_;rintro _ ps ⟨ae,t8,p,rfl,rfl,d2⟩;refine ⟨t8,rfl,?_⟩;refine AK hd rfl (fun _ hd=> ?_) (fun _ hd=> ?_)
 ·refine AR d2 rfl rfl fun pt fi=>AR fi rfl rfl fun pu fj=>AR fj rfl rfl fun pv fk=>AR fk rfl rfl fun pw fl=>AR fl rfl rfl fun px fm=>AR fm rfl rfl fun py ay=>AA (x:=((none,0,0):Slc)) ay rfl<|AA (x:=((none,0,0):Slc)) ay rfl<|AA (x:=((none,0,0):Slc)) ay rfl<|AA (x:=((none,0,0):Slc)) ay rfl<|AA (x:=((none,0,0):Slc)) ay rfl<|AA (x:=((none,0,0):Slc)) ay rfl ?_;obtain rfl:=iS hd;exact AB ⟨ae,((((none,0,0):Slc),((none,0,0):Slc),((none,0,0):Slc),((none,0,0):Slc),((none,0,0):Slc),((none,0,0):Slc),()),(1:Int),{data:=#[]},()),[],[],[],[],[],[],p,rfl,rfl,(cF cA ae),(cF cA ae),(cF CR ae),(cF (cH .i64) ae),(cF (cH .i64) ae),(cF cA ae),ay.tail.tail⟩
 refine AV (vs:=[.string ({data:=#[36,101,110,100]})]) d2 fun r15 pz fn=>AV (vs:=[.int .i64 (0:Int)]) fn fun r16 q0 fo=>AV (vs:=[.int .i64 (0:Int)]) fo fun r17 q1 fp=>AV (vs:=[.string ({data:=#[]})]) fp fun r18 q2 fq=>AV (vs:=[.slice none 0 0,.slice none 0 0,.slice none 0 0,.slice none 0 0,.slice none 0 0,.slice none 0 0]) fq fun r19 q3 fr=>AR fr rfl rfl fun q4 fs=>AR fs rfl rfl fun q5 ft=>AR ft rfl rfl fun q6 fu=>AR fu rfl rfl fun q7 fv=>AR fv rfl rfl fun q8 fw=>AR fw rfl rfl fun q9 fx=> ?_;have fy:=eF (r:=cA) (l:=([{data:=#[36,101,110,100]}]:List ByteArray)) (n:=1) fx.at4 (.cons (a:=[_]) rfl .nil) rfl (by decide);have fz:=eF (r:=(cH .i64)) (l:=([(0:Int)]:List Int)) (n:=1) ((fy.nil 9 cA).nil 65 CR).at6 (.cons (a:=[_]) rfl .nil) rfl (by decide);have g0:=eF (r:=(cH .i64)) (l:=([(0:Int)]:List Int)) (n:=1) fz.at6 (.cons (a:=[_]) rfl .nil) rfl (by decide);have g1:=eF (r:=cA) (l:=([{data:=#[]}]:List ByteArray)) (n:=1) g0.at6 (.cons (a:=[_]) rfl .nil) rfl (by decide);have g2:=Hz (t0:=((some ⟨r15,0,none⟩,1,1):Slc)) (t1:=((none,0,0):Slc)) (t2:=((none,0,0):Slc)) (t3:=((some ⟨r16,0,none⟩,1,1):Slc)) (t4:=((some ⟨r17,0,none⟩,1,1):Slc)) (t5:=((some ⟨r18,0,none⟩,1,1):Slc)) g1.at6.at6.at6.at6.at6.at6.at6;obtain ⟨qa,g3,hd⟩:=bS hd;refine B9 g3 (fun g4 (y:Int×Unit) w_ g=>∃ψ:AD,∃d3:BA,Sub ae ψ∧y.1=g4∧d3=g∧St ψ (cO 32 HI (some ⟨r19,0,none⟩) d3::Wq5 r2::Wq1 r1 g_0::F) w_) ((0:Int),()) rfl ⟨ae,(([{data:=#[36,101,110,100]}]:List ByteArray),[],[],([(0:Int)]:List Int),([(0:Int)]:List Int),([{data:=#[]}]:List ByteArray)),(bZ _),rfl,rfl,g2.at2.at2.at2⟩ ?_ ?_ ?_
 ·rintro _ z21 qb _ _ ⟨qc,a6,bk,rfl,rfl,d4⟩ a4 g5 d5 d6;try dsimp only at a4 g5 d5 d6
  refine AA (x:=g_0.2.2.2.2.1) d4.at2 rfl<|Aa (dT bj d5) ?_;obtain ⟨g6,qd,g7,qe,qf,qg,qh,d7,bl⟩:=FC d4;obtain rfl:r19=g6:=by simpa using d7
  clear d7;refine AA (x:=g7) bl.at6 rfl<|AA (x:=g_0.2.2.2.2.1) bl.at8 rfl ?_;obtain ⟨g8,g9,a4⟩:=bS a4;obtain ⟨qi,qj,ga,gb,gc,gd⟩:=(au.mono (p.trans bk)).get g9;refine AF _ ga (AY gb ?_);obtain ⟨_,_,rfl,rfl,⟨_,_,rfl,⟨qk,rfl,ql⟩,⟨_,_,rfl,rfl,rfl⟩⟩⟩:=gc;refine AC (x:=g8.1) (AE bl.sub (gd 0 _ rfl)) rfl ?_;obtain ⟨qm,gk,a4⟩:=bS a4;refine AI (Bb bl.at4 gk) ?_;rintro _ qn ⟨cb,t27,cc,rfl,rfl,gl⟩;refine ⟨t27,rfl,?_⟩;have d8:=Hz gl.at5.at1.at5.at5.at5.at5.at6.at6.at6.at6.at6.at6.at6;obtain ⟨gm,af,a4⟩:=bS a4;refine Aj (fun (y:Unit) w_ g=>∃ψ:AD,∃d9:BA,Sub cb ψ∧d9=g∧St ψ (cO 32 HI (some ⟨r19,0,none⟩) d9::Wq5 r2::Wq1 r1 g_0::F) w_) (g:=gm) ?_ ?_
  ·refine AK af rfl (fun _ af=> ?_) (fun _ af=> ?_)
   ·obtain ⟨gn,qo,go,qp,qq,qr,qs,da,bd⟩:=FC d8;obtain rfl:r19=gn:=by simpa using da
    clear da;try dsimp only at bd
    refine AA (x:=go) bd.at6 rfl<|AA (x:=g_0.2.2.2.2.1) bd.at8 rfl ?_;obtain ⟨cd,gp,af⟩:=bS af;obtain ⟨qt,qu,gq,gr,gs,gt⟩:=(au.mono ((p.trans bk).trans cc)).get gp;refine AF _ gq (AY gr ?_);obtain ⟨_,_,rfl,rfl,⟨_,_,rfl,⟨qv,rfl,qw⟩,⟨_,_,rfl,rfl,rfl⟩⟩⟩:=gs;refine AC (x:=cd.1) (AE bd.sub (gt 0 _ rfl)) rfl<|AV (vs:=[.string cd.1]) bd fun r33 qx ce=>AM (cT (b:=r19) (j:=1) ce.at7 rfl) ?_;obtain ⟨h0,h1,af⟩:=bS af;refine Am (r:=cA) (ms:=([cd.1]:List ByteArray)) CW ce.tail.at4 rfl (dI ce) (.cons (a:=[_]) rfl .nil) rfl h1 ?_;intro t34 qy h2;refine AR h2.at6 rfl rfl fun qz h3=> ?_;obtain rfl:=iS af;exact AQ (()) rfl ⟨cb,(a6.1,h0,a6.2.2.1,a6.2.2.2.1,a6.2.2.2.2.1,a6.2.2.2.2.2),(bZ _),rfl,((((Hz h3.at6.at2.at6.at6.at6.at6.at6.at6.at6.at6.at6.at6.at6).at2).at2).at2)⟩
   obtain rfl:=iS af;exact AQ (()) rfl ⟨cb,(a6.1,a6.2.1,a6.2.2.1,a6.2.2.2.1,a6.2.2.2.2.1,a6.2.2.2.2.2),(bZ _),rfl,d8.at2.at2.at2⟩
  rintro z28 r0 ⟨h4,be,db,rfl,h5⟩;try dsimp only at a4
  obtain ⟨h6,r3,r4,r5,r6,r7,h7,dc,bm⟩:=FC h5;obtain rfl:r19=h6:=by simpa using dc
  clear dc;refine AA (x:=h7) bm.at6 rfl<|AA (x:=g_0.2.2.2.2.1) bm.at8 rfl ?_;obtain ⟨cf,h8,a4⟩:=bS a4;obtain ⟨r8,r9,h9,hb,hc,he⟩:=(au.mono (((p.trans bk).trans cc).trans db)).get h8;refine AF _ h9 (AY hb ?_);obtain ⟨_,_,rfl,rfl,⟨_,_,rfl,⟨ra,rfl,rb⟩,⟨_,_,rfl,rfl,rfl⟩⟩⟩:=hc;refine AC (x:=cf.2.2.2) (by rw [Ah];exact (AE bm.sub (he 3 _ rfl))) rfl<|AV (vs:=[.string cf.2.2.2]) bm fun r39 rc cg=>AM (cT (b:=r19) (j:=5) cg.at7 rfl) ?_;obtain ⟨hl,hm,a4⟩:=bS a4;refine Am (r:=cA) (ms:=([cf.2.2.2]:List ByteArray)) CW cg.tail rfl (dI cg) (.cons (a:=[_]) rfl .nil) rfl hm ?_;intro t40 rd hn;refine AR hn.at6 rfl rfl fun re ho=> ?_;obtain rfl:=iS a4;exact Ad ((wN z21.1),()) _ rfl rfl ⟨h4,(be.1,be.2.1,be.2.2.1,be.2.2.2.1,be.2.2.2.2.1,hl),((bk.trans cc).trans db),d6,rfl,((((Hz ho.at6.at6.at6.at6.at6.at6.at6.at6.at6.at6.at6.at6.at6).at2).at2).at2)⟩
 ·rintro _ z21 rf ⟨hp,hq,hr,rfl,rfl,dd⟩ hs;refine AA (x:=g_0.2.2.2.2.1) dd.at2 rfl<|AT (dF bj hs)<|AJ (AL (z21.1,()) rfl ⟨_,hp,hq,hr,rfl,rfl,dd.at2.at2.at2⟩)
 rintro z20 rg ⟨_,de,ht,u,_,rfl,hu⟩;try dsimp only at hd
 have hv:=Hz (t0:=((none,0,0):Slc)) (t1:=((none,0,0):Slc)) (t2:=((none,0,0):Slc)) (t3:=((none,0,0):Slc)) (t4:=((none,0,0):Slc)) (t5:=((none,0,0):Slc)) ((((((hu.nil 9 cA).nil 9 cA).nil 65 CR).nil 3 (cH .i64)).nil 3 (cH .i64)).nil 9 cA).at7.at6.at6.at6.at6.at6.at6;obtain ⟨rh,hw,hd⟩:=bS hd;refine BK hw (fun hx (y:Int×ByteArray×Int×Unit) w_ g=>∃ψ:AD,∃df:BA,∃dg:BA,Sub de ψ∧y.1=hx∧(df,dg)=g∧St ψ (cO 32 HI (some ⟨r2,0,none⟩) df::cO 32 HI (some ⟨r19,0,none⟩) dg::Wq1 r1 g_0::F) w_) ((0:Int),{data:=#[]},(0:Int),()) rfl ⟨de,(([]:List ByteArray),[],[],[],[],([]:List ByteArray)),ht,(bZ _),rfl,rfl,hv.at2.at2.at2⟩ ?_ ?_ ?_
 ·rintro _ z42 ri _ _ ⟨rj,hy,bn,a8,rfl,rfl,dh⟩ q hz di dj i0;try dsimp only at q hz di dj
  refine AA (x:=g_0.1) dh.at2 rfl<|Aa (dT d0 di) ?_;obtain ⟨i1,i2,i3,rk,i4,rl,rm,dk,bo⟩:=FC dh.at1;obtain rfl:r19=i1:=by simpa using dk
  clear dk;refine AA (x:=i3) bo.at6 rfl<|AA (x:=g_0.1) bo.at8 rfl ?_;obtain ⟨i5,i6,q⟩:=bS q;obtain ⟨rn,rp,i7,i8,i9,ia⟩:=(ar.mono ((p.trans u).trans a8)).get i6;refine AF _ i7 (AY i8 ?_);obtain ⟨_,_,rfl,rfl,⟨_,_,rfl,rfl,⟨_,_,rfl,rfl,rfl⟩⟩⟩:=i9;refine AC (x:=i5.1) (AE bo.sub (ia 0 _ rfl)) rfl ?_;obtain ⟨rq,ij,q⟩:=bS q;refine AI (Bb bo.at4 ij) ?_;rintro _ rr ⟨az,t48,ag,rfl,rfl,b0⟩;refine ⟨t48,rfl,?_⟩;refine AK q rfl (fun _ q=> ?_) (fun _ q=> ?_)
  ·refine AA (x:=g_0.1) b0.at8 rfl ?_;obtain ⟨dl,ik,q⟩:=bS q;obtain ⟨rs,rt,il,im,io,dm⟩:=(ar.mono (((p.trans u).trans a8).trans ag)).get ik;refine AF _ il (AY im ?_);obtain ⟨_,_,rfl,rfl,⟨_,_,rfl,rfl,⟨_,_,rfl,rfl,rfl⟩⟩⟩:=io;refine AC (x:=dl.1) (AE b0.sub (dm 0 _ rfl)) rfl ?_;obtain ⟨iw,ru,rv,rx,ry,rz,s1,dn,ix⟩:=FC b0.at7;obtain rfl:r2=iw:=by simpa using dn
   clear dn;refine AR ix.at6 rfl rfl fun s2 iy=>AR iy rfl rfl fun s3 iz=>AR iz rfl rfl fun s4 j0=>AR j0 rfl rfl fun s5 j1=>AR j1 rfl rfl fun s6 j2=>AR j2 rfl rfl fun s7 ah=>AM (AE ah.sub (dm 0 _ rfl))<|AM (cT (b:=r1) (j:=0) ah.at14 rfl)<|AA (x:=((none,0,0):Slc)) ah rfl<|AA (x:=((none,0,0):Slc)) ah rfl<|AA (x:=((none,0,0):Slc)) ah rfl<|AA (x:=((none,0,0):Slc)) ah rfl<|AA (x:=((none,0,0):Slc)) ah rfl<|AA (x:=((none,0,0):Slc)) ah rfl ?_;obtain rfl:=iS q;obtain rfl:=i0 _ rfl;try dsimp only at hd
   obtain rfl:=iS hd;exact Ag (Ai (AB ⟨az,((((none,0,0):Slc),((none,0,0):Slc),((none,0,0):Slc),((none,0,0):Slc),((none,0,0):Slc),((none,0,0):Slc),()),(15:Int),dl.1,()),[],[],[],[],[],[],(((p.trans u).trans a8).trans ag),rfl,rfl,(cF cA az),(cF cA az),(cF CR az),(cF (cH .i64) az),(cF (cH .i64) az),(cF cA az),ah.tail.tail.tail.tail.tail.tail.tail.tail.tail.tail.tail.tail.tail.tail.tail⟩))
  refine AA (x:=i2) b0.at6 rfl<|AA (x:=g_0.1) b0.at8 rfl ?_;obtain ⟨ch,j3,q⟩:=bS q;obtain ⟨s8,s9,j4,j5,j6,j7⟩:=(ar.mono (((p.trans u).trans a8).trans ag)).get j3;refine AF _ j4 (AY j5 ?_);obtain ⟨_,_,rfl,rfl,⟨_,_,rfl,rfl,⟨_,_,rfl,rfl,rfl⟩⟩⟩:=j6;refine AC (x:=ch.1) (AE b0.sub (j7 0 _ rfl)) rfl<|AV (vs:=[.string ch.1]) b0 fun r62 sa ci=>AM (cT (b:=r19) (j:=0) ci.at7 rfl) ?_;obtain ⟨je,jf,q⟩:=bS q;refine Am (r:=cA) (ms:=([ch.1]:List ByteArray)) CW ci.tail.at5 rfl (dI ci) (.cons (a:=[_]) rfl .nil) rfl jf ?_;intro t63 sb jg;refine AR jg.at6 rfl rfl fun sc ai=>AA (x:=i4) ai rfl<|AA (x:=g_0.1) ai.at8 rfl<|AA (x:=g_0.2.1) ai.at8 rfl<|AA (x:=g_0.2.2.1) ai.at8 rfl<|AA (x:=g_0.2.2.2.1) ai.at8 rfl<|AA (x:=g_0.2.2.2.2.1) ai.at8 rfl<|AA (x:=g_0.1) ai.at8 rfl ?_;obtain ⟨jh,ji,q⟩:=bS q;obtain ⟨sd,se,jj,jk,jl,jm⟩:=(ar.mono (((p.trans u).trans a8).trans ag)).get ji;refine AF _ jj (AY jk ?_);obtain ⟨_,_,rfl,rfl,⟨_,_,rfl,rfl,⟨_,_,rfl,rfl,rfl⟩⟩⟩:=jl;refine AC (x:=jh.1) (AE ai.sub (jm 0 _ rfl)) rfl ?_;obtain ⟨sf,jt,q⟩:=bS q;refine AI (Eh (g_0:=(g_0.1,g_0.2.1,g_0.2.2.1,g_0.2.2.2.1,g_0.2.2.2.2.1,())) (ar.mono (((p.trans u).trans a8).trans ag)) (ca.mono (((p.trans u).trans a8).trans ag)) (bc.mono (((p.trans u).trans a8).trans ag)) (au.mono (((p.trans u).trans a8).trans ag)) ai jt) ?_;rintro _ sg ⟨ju,t73,jv,rfl,rfl,dp⟩;refine ⟨t73,rfl,?_⟩;refine AM (cT (b:=r19) (j:=3) dp rfl)<|AV (vs:=[.int .i64 t73]) dp fun r74 sh cj=>AM (cT (b:=r19) (j:=3) cj.at1 rfl) ?_;obtain ⟨jw,jx,q⟩:=bS q;refine Am (r:=(cH .i64)) (ms:=([t73]:List Int)) FG cj.tail.at5 rfl (dI cj) (.cons (a:=[_]) rfl .nil) rfl jx ?_;intro t75 si jy;refine AR jy.at1 rfl rfl fun sj jz=> ?_;obtain rfl:=iS q;exact Ad ((wN z42.1),z42.2.1,z42.2.2.1,()) _ rfl rfl ⟨ju,hy,(je,bn.2.1,bn.2.2.1,jw,bn.2.2.2.2.1,bn.2.2.2.2.2),((a8.trans ag).trans jv),dj,rfl,((((Hz jz.at2.at3.at6.at4.at6.at6.at6.at6.at6.at6.at6.at6.at6).at2).at1).at2)⟩
 ·rintro _ z42 sk _ ⟨k0,k1,k2,k3,rfl,rfl,dq⟩ k4 k5;subst k5;refine AA (x:=g_0.1) dq.at2 rfl<|AT (dF d0 k4)<|AJ (AL (z42.1,z42.2.1,z42.2.2.1,()) rfl ⟨_,rfl,_,k0,k1,k2,k3,rfl,rfl,dq.at2.at2.at2⟩)
 rintro z41 sl ⟨_,rfl,_,dr,ds,k6,a9,_,rfl,k7⟩;try dsimp only at hd
 obtain ⟨sm,k8,hd⟩:=bS hd;refine B9 k8 (fun k9 (y:Int×Unit) w_ g=>∃ψ:AD,∃dt:BA,Sub dr ψ∧y.1=k9∧dt=g∧St ψ (cO 32 HI (some ⟨r19,0,none⟩) dt::cO 32 HI (some ⟨r2,0,none⟩) ds::Wq1 r1 g_0::F) w_) ((0:Int),()) rfl ⟨dr,k6,(bZ _),rfl,rfl,k7.at2.at1.at2⟩ ?_ ?_ ?_
 ·rintro _ z77 sn _ _ ⟨ka,bf,du,rfl,rfl,dv⟩ b6 kb dw dx;try dsimp only at b6 kb dw dx
  refine AA (x:=g_0.2.2.1) dv.at2 rfl<|Aa (dT d1 dw) ?_;obtain ⟨kc,so,sp,sq,sr,kd,ss,dy,bp⟩:=FC dv;obtain rfl:r19=kc:=by simpa using dy
  clear dy;refine AA (x:=kd) bp.at6 rfl<|AA (x:=g_0.2.2.1) bp.at8 rfl ?_;obtain ⟨ck,ke,b6⟩:=bS b6;obtain ⟨st,su,kf,kg,kh,ki⟩:=(bc.mono (((p.trans u).trans a9).trans du)).get ke;refine AF _ kf (AY kg ?_);obtain ⟨_,_,rfl,rfl,⟨sw,rfl,sx⟩⟩:=kh;refine AC (x:=ck.1) (AE bp.sub (ki 0 _ rfl)) rfl<|AV (vs:=[.int .i64 ck.1]) bp fun r83 sy cl=>AM (cT (b:=r19) (j:=4) cl.at7 rfl) ?_;obtain ⟨kl,km,b6⟩:=bS b6;refine Am (r:=(cH .i64)) (ms:=([ck.1]:List Int)) FG cl.tail.at1 rfl (dI cl) (.cons (a:=[_]) rfl .nil) rfl km ?_;intro t84 sz kn;refine AR kn.at6 rfl rfl fun t6 ko=> ?_;obtain rfl:=iS b6;exact Ad ((wN z77.1),()) _ rfl rfl ⟨ka,(bf.1,bf.2.1,bf.2.2.1,bf.2.2.2.1,kl,bf.2.2.2.2.2),du,dx,rfl,((((Hz ko.at6.at6.at6.at6.at5.at6.at6.at6.at6.at6.at6.at6.at6).at2).at2).at2)⟩
 ·rintro _ z77 t7 ⟨kp,kq,kr,rfl,rfl,dz⟩ ks;refine AA (x:=g_0.2.2.1) dz.at2 rfl<|AT (dF d1 ks)<|AJ (AL (z77.1,()) rfl ⟨_,kp,kq,kr,rfl,rfl,dz.at2.at2.at2⟩)
 rintro z76 t9 ⟨_,ta,s,aj,_,rfl,kt⟩;try dsimp only at hd
 obtain ⟨ku,bq,br,a2,e0,e1,e2,e3,a5⟩:=FC kt;obtain rfl:r19=ku:=by simpa using e3
 clear e3;have kv:=(a5.at5).rowLen;have kw:=(a5.at4).rowLen;refine AA (x:=bq) a5.at6 rfl<|AA (x:=br) a5.at6 rfl<|AA (x:=bq) a5.at6 rfl<|AA (x:=br) a5.at6 rfl<|AA (x:=a2) a5.at6 rfl<|AA (x:=e0) a5.at6 rfl<|AA (x:=e1) a5.at6 rfl<|AA (x:=e2) a5.at6 rfl<|AA (x:=g_0.2.2.2.1) a5.at8 rfl ?_;obtain ⟨tb,kx,hd⟩:=bS hd;refine AI (Cy (p_0:=(bq,br,a2,e0,e1,e2,())) a5.at5.at5.at1 kx) ?_;rintro _ tc ⟨td,t94,ak,rfl,rfl,ky⟩;refine ⟨t94,rfl,?_⟩;refine AV (vs:=[.int .i64 t94]) ky fun r95 te kz=>AV (vs:=[.int .i64 (bR .i64 ((bq.2.1:Int)+(br.2.1:Int))),.slice (some ⟨r95,0,none⟩) 1 1,.int .i64 (0:Int)]) kz fun r96 tf l0=>AR l0.at8 rfl rfl fun tg l1=> ?_;have l2:=eF (r:=(cH .i64)) (l:=([t94]:List Int)) (n:=1) l1.at3.at4.at4 (.cons (a:=[_]) rfl .nil) rfl (by decide);obtain ⟨e4,al,l3,l4⟩:=cN (t:=((some ⟨r95,0,none⟩,1,1):Slc)) l2;have l5:=eF (r:=CR) (l:=([((bR .i64 ((s.1.length:Int)+(s.2.1.length:Int))),([t94]:List Int),(0:Int))]:List Ay)) (n:=1) l4.at3 (.cons (a:=[_,_,_]) ⟨[_],_,rfl,(show _=_ by rw [kv,kw];rfl),⟨[_],_,rfl,⟨((some ⟨r95,0,none⟩,1,1):Slc),rfl,l3⟩,rfl⟩⟩ .nil) rfl (by decide);have l6:=((((Hz (t2:=((some ⟨r96,0,none⟩,1,1):Slc)) l5.at6.at6.at6.at6.at6.at6.at6.at6.at6.at6).at3).at2).at2).at3;obtain ⟨th,l7,hd⟩:=bS hd;refine BK l7 (fun l8 (y:Int×ByteArray×Int×Unit) w_ g=>∃ψ:AD,∃e5:BA,∃e6:BA,Sub e4 ψ∧y.1=l8∧(e5,e6)=g∧St ψ (cO 32 HI (some ⟨r2,0,none⟩) e5::cO 32 HI (some ⟨r19,0,none⟩) e6::cR 65 CR a2 s.2.2.1::Wq1 r1 g_0::F) w_) ((0:Int),z41.2.1,z41.2.2.1,()) rfl ⟨e4,ds,(s.1,s.2.1,([((bR .i64 ((s.1.length:Int)+(s.2.1.length:Int))),([t94]:List Int),(0:Int))]:List Ay),s.2.2.2.1,s.2.2.2.2.1,s.2.2.2.2.2),(bZ _),rfl,rfl,l6⟩ ?_ ?_ ?_
 ·rintro _ z98 ti _ _ ⟨tj,e7,c,av,rfl,rfl,b1⟩ w l9 e8 e9 ea;try dsimp only at w l9 e8 e9
  refine AA (x:=g_0.2.2.2.2.1) b1.at3 rfl<|Aa (dT bj e8)<|AA (x:=g_0.2.2.2.2.1) b1.at3 rfl ?_;obtain ⟨d,la,w⟩:=bS w;obtain ⟨tk,tl,lb,lc,ld,bs⟩:=(au.mono ((((((p.trans u).trans a9).trans aj).trans ak).trans al).trans av)).get la;refine AF _ lb (AY lc ?_);obtain ⟨_,_,rfl,rfl,⟨_,_,rfl,⟨a1,rfl,cm⟩,lh⟩⟩:=ld;have eb:=cm.length;obtain ⟨_,_,rfl,rfl,rfl⟩:=lh;refine AC (x:=d.1) (AE b1.sub (bs 0 _ rfl)) rfl<|AC (x:=a1) (by rw [Ah];exact (AE b1.sub (bs 1 _ rfl))) rfl<|AC (x:=d.2.2.1) (by rw [Ah];exact (AE b1.sub (bs 2 _ rfl))) rfl<|AC (x:=d.2.2.2) (by rw [Ah];exact (AE b1.sub (bs 3 _ rfl))) rfl<|AV (vs:=[.string ({data:=#[]}),.slice none 0 0,.string ({data:=#[]}),.string ({data:=#[]})]) b1 fun r106 tm lk=>AR lk rfl rfl fun tn ll=>AR ll rfl rfl fun tp lm=>AR lm rfl rfl fun tq ln=>AR ln rfl rfl fun tr lo=> ?_;obtain ⟨lp,e,k,f,i,m,o,ec,am⟩:=FC lo.at2;obtain rfl:r19=lp:=by simpa using ec
  clear ec;have lq:=(am.at5).rowLen;refine AA (x:=e) am.at6 rfl<|AA (x:=k) am.at6 rfl<|AA (x:=f) am.at6 rfl<|AA (x:=i) am.at6 rfl<|AA (x:=m) am.at6 rfl<|AA (x:=o) am.at6 rfl<|AA (x:=d.1) am.at7 rfl ?_;obtain ⟨ts,lr,w⟩:=bS w;refine AI (Cy (p_0:=(e,k,f,i,m,o,())) am.at5.at5.at1 lr) ?_;rintro _ tt ⟨cn,t114,an,rfl,rfl,ls⟩;refine ⟨t114,rfl,?_⟩;refine AV (vs:=[.int .i64 (0:Int),.slice none 0 0,.int .i64 (0:Int)]) ls fun r115 tu lt=>AR lt rfl rfl fun tv lu=>AR lu rfl rfl fun tw lv=>AR lv rfl rfl fun tx lw=> ?_;have lx:=dE ((dL (r:=(cH .i64)) (cs:=[.int .i64 (0:Int)]) (x:=(0:Int)) (lw.nil 3 (cH .i64)) rfl).at1);have ly:St cn (cO 65 Rq1 (some ⟨r115,0,none⟩) (t114,[],(0:Int))::cR 9 cA e c.1::cR 9 cA k c.2.1::cR 9 cA o c.2.2.2.2.2::cR 3 (cH .i64) m c.2.2.2.2.1::cR 3 (cH .i64) i c.2.2.2.1::cR 65 CR f c.2.2.1::cW 32 r19 [sv e,sv k,sv f,sv i,sv m,sv o]::cW 172 r106 [.string d.1,sv a1,.string d.2.2.1,.string d.2.2.2]::cO 32 HI (some ⟨r2,0,none⟩) e7::cR 65 CR a2 s.2.2.1::Wq1 r1 g_0::F) _:=eO (dE (dL (r:=(cH .i64)) (cs:=[.int .i64 t114]) (x:=t114) lx rfl)).at1;obtain ⟨ty,lz,w⟩:=bS w;refine BK lz (fun m0 (y:Int×ByteArray×Int×Unit) w_ g=>∃ψ:AD,∃ed:BA,∃ee:Ay,Sub cn ψ∧y.1=m0∧(ed,ee)=g∧St ψ (cO 32 HI (some ⟨r2,0,none⟩) ed::cO 65 Rq1 (some ⟨r115,0,none⟩) ee::cR 9 cA e c.1::cR 9 cA k c.2.1::cR 9 cA o c.2.2.2.2.2::cR 3 (cH .i64) m c.2.2.2.2.1::cR 3 (cH .i64) i c.2.2.2.1::cR 65 CR f c.2.2.1::cW 32 r19 [sv e,sv k,sv f,sv i,sv m,sv o]::cW 172 r106 [.string d.1,sv a1,.string d.2.2.1,.string d.2.2.2]::cR 65 CR a2 s.2.2.1::Wq1 r1 g_0::F) w_) ((0:Int),z98.2.1,z98.2.2.1,()) rfl ⟨cn,e7,(t114,[],(0:Int)),(bZ _),rfl,rfl,ly.at11.at11.at10.at10.at10.at10.at10.at10.at10.at10.at10.at11⟩ ?_ ?_ ?_
  ·rintro _ z117 tz _ _ ⟨u0,b7,z,bt,rfl,rfl,aa⟩ a0 m1 ef eg m2;try dsimp only at a0 m1 ef eg
   refine AA (x:=a1) aa.at9 rfl<|Aa (dT eb ef)<|AA (x:=e) aa.at8 rfl<|AA (x:=k) aa.at8 rfl<|AA (x:=f) aa.at8 rfl<|AA (x:=i) aa.at8 rfl<|AA (x:=m) aa.at8 rfl<|AA (x:=o) aa.at8 rfl<|AA (x:=a1) aa.at9 rfl ?_;obtain ⟨u1,m3,a0⟩:=bS a0;refine Ce cm m3 (dJ (an.trans bt) aa.sub) ?_;obtain ⟨u2,m4,a0⟩:=bS a0;refine AI (Cy (p_0:=(e,k,f,i,m,o,())) aa.at2.at3.at1 m4) ?_;rintro _ u3 ⟨a3,t128,co,rfl,rfl,bu⟩;refine ⟨t128,rfl,?_⟩;refine AK a0 rfl (fun _ a0=> ?_) (fun _ a0=> ?_)
   ·refine AA (x:=a1) bu.at9 rfl ?_;obtain ⟨eh,m5,a0⟩:=bS a0;obtain ⟨u4,u5,m6,m7,m8,ei⟩:=(cm.mono ((an.trans bt).trans co)).get m5;refine AF _ m6 (AY m7 ?_);obtain rfl:=m8;refine AC (x:=eh) (AE bu.sub (ei 0 _ rfl)) rfl ?_;obtain ⟨m9,u6,u7,u8,u9,ua,ub,ej,ma⟩:=FC bu.at2;obtain rfl:r2=m9:=by simpa using ej
    clear ej;refine AR ma.at6 rfl rfl fun uc mb=>AR mb rfl rfl fun ud mc=>AR mc rfl rfl fun ue md=>AR md rfl rfl fun uf me=>AR me rfl rfl fun ug mf=>AR mf rfl rfl fun uh ao=>AM (AE ao.sub (ei 0 _ rfl))<|AM (cT (b:=r106) (j:=1) ao.at15 rfl)<|AA (x:=((none,0,0):Slc)) ao rfl<|AA (x:=((none,0,0):Slc)) ao rfl<|AA (x:=((none,0,0):Slc)) ao rfl<|AA (x:=((none,0,0):Slc)) ao rfl<|AA (x:=((none,0,0):Slc)) ao rfl<|AA (x:=((none,0,0):Slc)) ao rfl ?_;obtain rfl:=iS a0;obtain rfl:=m2 _ rfl;try dsimp only at w
    obtain rfl:=iS w;obtain rfl:=ea _ rfl;try dsimp only at hd
    obtain rfl:=iS hd;exact Ag (Ai (Ag (Ai (AB ⟨a3,((((none,0,0):Slc),((none,0,0):Slc),((none,0,0):Slc),((none,0,0):Slc),((none,0,0):Slc),((none,0,0):Slc),()),(16:Int),eh,()),[],[],[],[],[],[],(((((((((p.trans u).trans a9).trans aj).trans ak).trans al).trans av).trans an).trans bt).trans co),rfl,rfl,(cF cA a3),(cF cA a3),(cF CR a3),(cF (cH .i64) a3),(cF (cH .i64) a3),(cF cA a3),ao.tail.tail.tail.tail.tail.tail.tail.tail.tail.tail.tail.tail.tail.tail.tail.tail.tail.tail⟩))))
   obtain ⟨mg,ui,ek,uj,mh⟩:=bu.at3.open;obtain rfl:r115=mg:=by simpa using ek
   clear ek;obtain ⟨uk,ul,rfl,um,mi⟩:=mh.at1.pair;obtain ⟨mj,mk⟩:=mi.ro;subst mj;obtain ⟨un,uo,rfl,up,el⟩:=mk.pair;obtain ⟨cp,ml⟩:=el.rowCs;subst ml;obtain ⟨mm,mn⟩:=el.at1.ro;subst mm;have em:St a3 (cR 3 (cH .i64) cp z.2.1::cW 65 r115 [.int .i64 (z.1),sv cp,.int .i64 (z.2.2)]::cR 9 cA e c.1::cR 9 cA k c.2.1::cO 32 HI (some ⟨r2,0,none⟩) b7::cR 9 cA o c.2.2.2.2.2::cR 3 (cH .i64) m c.2.2.2.2.1::cR 3 (cH .i64) i c.2.2.2.1::cR 65 CR f c.2.2.1::cW 32 r19 [sv e,sv k,sv f,sv i,sv m,sv o]::cW 172 r106 [.string d.1,sv a1,.string d.2.2.1,.string d.2.2.2]::cR 65 CR a2 s.2.2.1::Wq1 r1 g_0::F) _:=mn;refine AA (x:=cp) em.at1 rfl<|AV (vs:=[.int .i64 t128]) em fun r139 uq en=> ?_;obtain ⟨bg,mo,a0⟩:=bS a0;refine Am (r:=(cH .i64)) (ms:=([t128]:List Int)) FG en.tail rfl (dI en) (.cons (a:=[_]) rfl .nil) rfl mo ?_;intro t140 ur mp;refine AR mp.at1 rfl rfl fun us eo=>AA (x:=e) eo.at9 rfl ?_;have mq:=dL (r:=(cH .i64)) (cs:=[.int .i64 (z.1)]) (x:=(z.1)) (dE ((dL (r:=(cH .i64)) (cs:=[.int .i64 (z.2.2)]) (x:=(z.2.2)) eo.at1 rfl).at1)) rfl;have bv:St a3 (cO 65 Rq1 (some ⟨r115,0,none⟩) ((z.1),bg,(z.2.2))::cR 9 cA e c.1::cR 9 cA k c.2.1::cO 32 HI (some ⟨r2,0,none⟩) b7::cR 9 cA o c.2.2.2.2.2::cR 3 (cH .i64) m c.2.2.2.2.1::cR 3 (cH .i64) i c.2.2.2.1::cR 65 CR f c.2.2.1::cW 32 r19 [sv e,sv k,sv f,sv i,sv m,sv o]::cW 172 r106 [.string d.1,sv a1,.string d.2.2.1,.string d.2.2.2]::cR 65 CR a2 s.2.2.1::Wq1 r1 g_0::F) _:=eO (dE mq).at1;obtain ⟨mr,b2,a0⟩:=bS a0;refine Aj (fun (y:Unit) w_ g=>∃ψ:AD,∃ep:Ay,Sub a3 ψ∧ep=g∧St ψ (cO 65 Rq1 (some ⟨r115,0,none⟩) ep::cR 9 cA e c.1::cR 9 cA k c.2.1::cO 32 HI (some ⟨r2,0,none⟩) b7::cR 9 cA o c.2.2.2.2.2::cR 3 (cH .i64) m c.2.2.2.2.1::cR 3 (cH .i64) i c.2.2.2.1::cR 65 CR f c.2.2.1::cW 32 r19 [sv e,sv k,sv f,sv i,sv m,sv o]::cW 172 r106 [.string d.1,sv a1,.string d.2.2.1,.string d.2.2.2]::cR 65 CR a2 s.2.2.1::Wq1 r1 g_0::F) w_) (g:=mr) ?_ ?_
   ·refine AK b2 (by rw [lq] <;>rfl) (fun _ b2=> ?_) (fun _ b2=> ?_)
    ·refine AA (x:=i) bv.at8 rfl ?_;obtain ⟨bw,mu,b2⟩:=bS b2;refine EK bv.at6 mu ?_;obtain ⟨mv,ut,er,uu,mw⟩:=bv.open;obtain rfl:r115=mv:=by simpa using er
     clear er;obtain ⟨uv,uw,rfl,ux,mx⟩:=mw.at1.pair;obtain ⟨my,mz⟩:=mx.ro;subst my;obtain ⟨uy,uz,rfl,v0,es⟩:=mz.pair;obtain ⟨eu,n0⟩:=es.rowCs;subst n0;obtain ⟨n1,n2⟩:=es.at1.ro;subst n1;have n3:St a3 (cR 3 (cH .i64) eu bg::cW 65 r115 [.int .i64 ((z.1)),sv eu,.int .i64 ((z.2.2))]::cR 9 cA e c.1::cR 9 cA k c.2.1::cO 32 HI (some ⟨r2,0,none⟩) b7::cR 9 cA o c.2.2.2.2.2::cR 3 (cH .i64) m c.2.2.2.2.1::cR 3 (cH .i64) i c.2.2.2.1::cR 65 CR f c.2.2.1::cW 32 r19 [sv e,sv k,sv f,sv i,sv m,sv o]::cW 172 r106 [.string d.1,sv a1,.string d.2.2.1,.string d.2.2.2]::cR 65 CR a2 s.2.2.1::Wq1 r1 g_0::F) _:=n2;refine AR n3.at1 rfl rfl fun v1 n4=> ?_;have n5:=dL (r:=(cH .i64)) (cs:=[.int .i64 ((z.1))]) (x:=((z.1))) (dE ((dL (r:=(cH .i64)) (cs:=[.int .i64 bw]) (x:=bw) n4.at1 rfl).at1)) rfl;have n6:St a3 (cO 65 Rq1 (some ⟨r115,0,none⟩) (((z.1)),bg,bw)::cR 9 cA e c.1::cR 9 cA k c.2.1::cO 32 HI (some ⟨r2,0,none⟩) b7::cR 9 cA o c.2.2.2.2.2::cR 3 (cH .i64) m c.2.2.2.2.1::cR 3 (cH .i64) i c.2.2.2.1::cR 65 CR f c.2.2.1::cW 32 r19 [sv e,sv k,sv f,sv i,sv m,sv o]::cW 172 r106 [.string d.1,sv a1,.string d.2.2.1,.string d.2.2.2]::cR 65 CR a2 s.2.2.1::Wq1 r1 g_0::F) _:=eO (dE n5).at1;obtain rfl:=iS b2;exact AQ (()) rfl ⟨a3,(((z.1)),bg,bw),(bZ _),rfl,n6.at11.at11.at11.at11.at11.at11.at11.at11.at11.at11.at11.at11⟩
    obtain rfl:=iS b2;exact AQ (()) rfl ⟨a3,((z.1),bg,(z.2.2)),(bZ _),rfl,bv.at11.at11.at11.at11.at11.at11.at11.at11.at11.at11.at11.at11⟩
   rintro z142 v2 ⟨n7,n8,n9,rfl,na⟩;try dsimp only at a0
   obtain rfl:=iS a0;exact Ad ((wN z117.1),z117.2.1,z117.2.2.1,()) _ rfl rfl ⟨n7,b7,n8,((bt.trans co).trans n9),eg,rfl,na.at11.at11.at11.at11.at11.at11.at11.at11.at10.at10.at10.at11⟩
  ·rintro _ z117 v3 _ ⟨nb,nc,nd,nf,rfl,rfl,ev⟩ ng nh;subst nh;refine AA (x:=a1) ev.at9 rfl<|AT (dF eb ng)<|AJ (AL (z117.1,z117.2.1,z117.2.2.1,()) rfl ⟨_,rfl,_,nb,nc,nd,nf,rfl,rfl,ev.at11.at11.at11.at11.at11.at11.at11.at11.at11.at11.at11.at11⟩)
  rintro z116 v4 ⟨_,rfl,_,ew,bx,ab,b8,_,rfl,ap⟩;try dsimp only at w
  refine AA (x:=d.2.2.1) ap.at9 rfl ?_;obtain ⟨ni,a7,w⟩:=bS w;refine Aj (fun (y:ByteArray×Int×Unit) w_ g=>∃ψ:AD,∃ex:Ay,∃ey:BA,Sub ew ψ∧dC (ex,ey)=g∧St ψ (cO 65 Rq1 (some ⟨r115,0,none⟩) ex::cO 32 HI (some ⟨r2,0,none⟩) ey::cR 9 cA e c.1::cR 9 cA k c.2.1::cR 9 cA o c.2.2.2.2.2::cR 3 (cH .i64) m c.2.2.2.2.1::cR 3 (cH .i64) i c.2.2.2.1::cR 65 CR f c.2.2.1::cW 32 r19 [sv e,sv k,sv f,sv i,sv m,sv o]::cW 172 r106 [.string d.1,sv a1,.string d.2.2.1,.string d.2.2.2]::cR 65 CR a2 s.2.2.1::Wq1 r1 g_0::F) w_) (g:=ni) ?_ ?_
  ·refine AK a7 rfl (fun _ a7=> ?_) (fun _ a7=> ?_)
   ·refine AA (x:=g_0.1) ap.at11 rfl<|AA (x:=g_0.2.1) ap.at11 rfl<|AA (x:=g_0.2.2.1) ap.at11 rfl<|AA (x:=g_0.2.2.2.1) ap.at11 rfl<|AA (x:=g_0.2.2.2.2.1) ap.at11 rfl<|AA (x:=d.2.2.1) ap.at9 rfl ?_;obtain ⟨v5,nj,a7⟩:=bS a7;refine AI (Eh (g_0:=(g_0.1,g_0.2.1,g_0.2.2.1,g_0.2.2.2.1,g_0.2.2.2.2.1,())) (ar.mono ((((((((p.trans u).trans a9).trans aj).trans ak).trans al).trans av).trans an).trans b8)) (ca.mono ((((((((p.trans u).trans a9).trans aj).trans ak).trans al).trans av).trans an).trans b8)) (bc.mono ((((((((p.trans u).trans a9).trans aj).trans ak).trans al).trans av).trans an).trans b8)) (au.mono ((((((((p.trans u).trans a9).trans aj).trans ak).trans al).trans av).trans an).trans b8)) ap nj) ?_;rintro _ v6 ⟨ac,t154,ez,rfl,rfl,nk⟩;refine ⟨t154,rfl,?_⟩;obtain ⟨nl,v7,f0,v8,nm⟩:=nk.at1.open;obtain rfl:r115=nl:=by simpa using f0
    clear f0;obtain ⟨v9,va,rfl,vb,nn⟩:=nm.at1.pair;obtain ⟨np,nq⟩:=nn.ro;subst np;obtain ⟨vc,vd,rfl,ve,f1⟩:=nq.pair;obtain ⟨f2,nr⟩:=f1.rowCs;subst nr;obtain ⟨ns,nt⟩:=f1.at1.ro;subst ns;have nu:St ac (cR 3 (cH .i64) f2 ab.2.1::cW 65 r115 [.int .i64 (ab.1),sv f2,.int .i64 (ab.2.2)]::cO 32 HI (some ⟨r2,0,none⟩) bx::cR 9 cA e c.1::cR 9 cA k c.2.1::cR 9 cA o c.2.2.2.2.2::cR 3 (cH .i64) m c.2.2.2.2.1::cR 3 (cH .i64) i c.2.2.2.1::cR 65 CR f c.2.2.1::cW 32 r19 [sv e,sv k,sv f,sv i,sv m,sv o]::cW 172 r106 [.string d.1,sv a1,.string d.2.2.1,.string d.2.2.2]::cR 65 CR a2 s.2.2.1::Wq1 r1 g_0::F) _:=nt;refine AR nu.at1 rfl rfl fun vf bz=>AA (x:=t154) bz rfl<|AK a7 rfl (fun _ a7=> ?_) (fun _ a7=> ?_)
    ·refine AA (x:=d.2.2.1) bz.at10 rfl ?_;obtain ⟨nv,vg,vh,vi,vj,vk,vl,f3,nw⟩:=FC bz.at2;obtain rfl:r2=nv:=by simpa using f3
     clear f3;refine AR nw.at6 rfl rfl fun vm nx=>AR nx rfl rfl fun vn ny=>AR ny rfl rfl fun vo nz=>AR nz rfl rfl fun vp o0=>AR o0 rfl rfl fun vq o1=>AR o1 rfl rfl fun vr aw=>AM (cT (b:=r106) (j:=2) aw.at16 rfl)<|AA (x:=((none,0,0):Slc)) aw rfl<|AA (x:=((none,0,0):Slc)) aw rfl<|AA (x:=((none,0,0):Slc)) aw rfl<|AA (x:=((none,0,0):Slc)) aw rfl<|AA (x:=((none,0,0):Slc)) aw rfl<|AA (x:=((none,0,0):Slc)) aw rfl ?_;obtain rfl:=iS a7;try dsimp only at w
     obtain rfl:=iS w;obtain rfl:=ea _ rfl;try dsimp only at hd
     obtain rfl:=iS hd;exact TX (Ag (Ai (AB ⟨ac,((((none,0,0):Slc),((none,0,0):Slc),((none,0,0):Slc),((none,0,0):Slc),((none,0,0):Slc),((none,0,0):Slc),()),(16:Int),d.2.2.1,()),[],[],[],[],[],[],(((((((((p.trans u).trans a9).trans aj).trans ak).trans al).trans av).trans an).trans b8).trans ez),rfl,rfl,(cF cA ac),(cF cA ac),(cF CR ac),(cF (cH .i64) ac),(cF (cH .i64) ac),(cF cA ac),aw.tail.tail.tail.tail.tail.tail.tail.tail.tail.tail.tail.tail.tail.tail.tail.tail.tail.tail.tail⟩)))
    have o2:=dL (r:=(cH .i64)) (cs:=[.int .i64 (ab.1)]) (x:=(ab.1)) (dE ((dL (r:=(cH .i64)) (cs:=[.int .i64 t154]) (x:=t154) bz.at1 rfl).at1)) rfl;have o3:St ac (cO 65 Rq1 (some ⟨r115,0,none⟩) ((ab.1),ab.2.1,t154)::cO 32 HI (some ⟨r2,0,none⟩) bx::cR 9 cA e c.1::cR 9 cA k c.2.1::cR 9 cA o c.2.2.2.2.2::cR 3 (cH .i64) m c.2.2.2.2.1::cR 3 (cH .i64) i c.2.2.2.1::cR 65 CR f c.2.2.1::cW 32 r19 [sv e,sv k,sv f,sv i,sv m,sv o]::cW 172 r106 [.string d.1,sv a1,.string d.2.2.1,.string d.2.2.2]::cR 65 CR a2 s.2.2.1::Wq1 r1 g_0::F) _:=eO (dE o2).at1;obtain rfl:=iS a7;exact AQ (z116.2.1,z116.2.2.1,()) rfl ⟨ac,((ab.1),ab.2.1,t154),bx,ez,rfl,o3.at11.at11.at11.at11.at11.at11.at11.at11.at11.at11.at11.at11⟩
   obtain rfl:=iS a7;exact AQ (z116.2.1,z116.2.2.1,()) rfl ⟨ew,ab,bx,(bZ _),rfl,ap.at11.at11.at11.at11.at11.at11.at11.at11.at11.at11.at10.at11⟩
  rintro z147 vt ⟨o4,ad,f4,o5,rfl,f5⟩;try dsimp only at w
  refine AA (x:=f) f5.at8 rfl ?_;obtain ⟨o6,vu,f6,vv,o7⟩:=f5.open;obtain rfl:r115=o6:=by simpa using f6
  clear f6;obtain ⟨vw,vx,rfl,vy,o8⟩:=o7.at1.pair;obtain ⟨o9,oa⟩:=o8.ro;subst o9;obtain ⟨vz,w0,rfl,w1,f7⟩:=oa.pair;obtain ⟨b9,ob⟩:=f7.rowCs;subst ob;obtain ⟨oc,od⟩:=f7.at1.ro;subst oc;have c0:St o4 (cR 3 (cH .i64) b9 ad.2.1::cW 65 r115 [.int .i64 (ad.1),sv b9,.int .i64 (ad.2.2)]::cO 32 HI (some ⟨r2,0,none⟩) f4::cR 9 cA e c.1::cR 9 cA k c.2.1::cR 9 cA o c.2.2.2.2.2::cR 3 (cH .i64) m c.2.2.2.2.1::cR 3 (cH .i64) i c.2.2.2.1::cR 65 CR f c.2.2.1::cW 32 r19 [sv e,sv k,sv f,sv i,sv m,sv o]::cW 172 r106 [.string d.1,sv a1,.string d.2.2.1,.string d.2.2.2]::cR 65 CR a2 s.2.2.1::Wq1 r1 g_0::F) _:=od;refine AA (x:=(ad.1)) c0.at1 rfl<|AA (x:=b9) c0.at1 rfl<|AA (x:=(ad.2.2)) c0.at1 rfl<|AV (vs:=[.int .i64 (ad.1),sv b9,.int .i64 (ad.2.2)]) c0 fun r167 w2 oe=> ?_;obtain ⟨og,oh,oi,f8⟩:=cN (t:=b9) oe.at1;obtain ⟨oj,ok,w⟩:=bS w;refine Am (r:=CR) (ms:=([((ad.1),ad.2.1,(ad.2.2))]:List Ay)) Ql f8.tail.at7 rfl (dI f8) (.cons (a:=[_,_,_]) ⟨[_],_,rfl,rfl,⟨[_],_,rfl,⟨b9,rfl,oi⟩,rfl⟩⟩ .nil) rfl ok ?_;intro t168 w3 ol;refine AR ol.at8 rfl rfl fun w4 om=> ?_;obtain rfl:=iS w;exact Ad ((wN z98.1),z147.1,z147.2.1,()) _ rfl rfl ⟨og,f4,(c.1,c.2.1,oj,c.2.2.2.1,c.2.2.2.2.1,c.2.2.2.2.2),((((av.trans an).trans b8).trans o5).trans oh),e9,rfl,(((((((Hz om.at4.at5.at3.at8.at8.at8.at6.at6.at6.at6.at6.at6.at6).at1.tail).at2.tail).at3).at3).at2).at3)⟩
 ·rintro _ z98 w5 _ ⟨on,oo,op,oq,rfl,rfl,f9⟩ os ot;subst ot;refine AA (x:=g_0.2.2.2.2.1) f9.at3 rfl<|AT (dF bj os)<|AJ (AL (z98.1,z98.2.1,z98.2.2.1,()) rfl ⟨_,rfl,_,on,oo,op,oq,rfl,rfl,f9.at3.at3.at3.at3⟩)
 rintro z97 w6 ⟨_,rfl,_,w7,w8,ba,fa,_,rfl,ou⟩;try dsimp only at hd
 obtain ⟨ov,c1,bh,c2,c3,c4,c5,fb,cq⟩:=FC ou.at1;obtain rfl:r19=ov:=by simpa using fb
 clear fb;refine AA (x:=bh) cq.at6 rfl<|AA (x:=g_0.2.2.2.1) cq.at9 rfl ?_;obtain ⟨w9,ow,hd⟩:=bS hd;refine AI (Bb cq.at4 ow) ?_;rintro _ wa ⟨b3,t171,fc,rfl,rfl,aq⟩;refine ⟨t171,rfl,?_⟩;refine AK hd rfl (fun _ hd=> ?_) (fun _ hd=> ?_)
 ·refine AA (x:=g_0.2.2.2.1) aq.at9 rfl ?_;obtain ⟨ox,wb,wc,wd,we,wf,wg,fd,oy⟩:=FC aq.at7;obtain rfl:r2=ox:=by simpa using fd
  clear fd;refine AR oy.at6 rfl rfl fun wh oz=>AR oz rfl rfl fun wi p0=>AR p0 rfl rfl fun wj p1=>AR p1 rfl rfl fun wk p2=>AR p2 rfl rfl fun wl p3=>AR p3 rfl rfl fun wm ax=>AM (cT (b:=r1) (j:=3) ax.at15 rfl)<|AA (x:=((none,0,0):Slc)) ax rfl<|AA (x:=((none,0,0):Slc)) ax rfl<|AA (x:=((none,0,0):Slc)) ax rfl<|AA (x:=((none,0,0):Slc)) ax rfl<|AA (x:=((none,0,0):Slc)) ax rfl<|AA (x:=((none,0,0):Slc)) ax rfl ?_;obtain rfl:=iS hd;exact AB ⟨b3,((((none,0,0):Slc),((none,0,0):Slc),((none,0,0):Slc),((none,0,0):Slc),((none,0,0):Slc),((none,0,0):Slc),()),(16:Int),g_0.2.2.2.1,()),[],[],[],[],[],[],(((((((p.trans u).trans a9).trans aj).trans ak).trans al).trans fa).trans fc),rfl,rfl,(cF cA b3),(cF cA b3),(cF CR b3),(cF (cH .i64) b3),(cF (cH .i64) b3),(cF cA b3),ax.tail.tail.tail.tail.tail.tail.tail.tail.tail.tail.tail.tail.tail.tail.tail.tail⟩
 refine AA (x:=c1) aq.at6 rfl<|AA (x:=bh) aq.at6 rfl<|AA (x:=c2) aq.at6 rfl<|AA (x:=c3) aq.at6 rfl<|AA (x:=c4) aq.at6 rfl<|AA (x:=c5) aq.at6 rfl ?_;obtain ⟨p4,wn,wo,wp,wq,wr,ws,fe,p5⟩:=FC aq.at7;obtain rfl:r2=p4:=by simpa using fe
 clear fe;refine AR p5.at6 rfl rfl fun wt p6=>AR p6 rfl rfl fun wu p7=>AR p7 rfl rfl fun wv p8=>AR p8 rfl rfl fun ww p9=>AR p9 rfl rfl fun wx pa=>AR pa rfl rfl fun wy b4=>AA (x:=c1) b4 rfl<|AA (x:=bh) b4 rfl<|AA (x:=c2) b4 rfl<|AA (x:=c3) b4 rfl<|AA (x:=c4) b4 rfl<|AA (x:=c5) b4 rfl ?_;obtain ⟨wz,pb,pc,pd⟩:=cN (t:=c1) b4.at12;obtain ⟨x0,ff,pe,pf⟩:=cN (t:=bh) pd.at7;obtain ⟨x1,cr,pg,ph⟩:=cN (t:=c2) pf.at10;obtain ⟨x2,c6,pi,pj⟩:=cN (t:=c3) ph.at9;obtain ⟨x3,bi,pk,pl⟩:=cN (t:=c4) pj.at8;obtain ⟨pm,bb,pn,po⟩:=cN (t:=c5) pl.at7;obtain rfl:=iS hd;exact AB ⟨pm,((c1,bh,c2,c3,c4,c5,()),(0:Int),{data:=#[]},()),ba.1,ba.2.1,ba.2.2.1,ba.2.2.2.1,ba.2.2.2.2.1,ba.2.2.2.2.2,(((((((((((((p.trans u).trans a9).trans aj).trans ak).trans al).trans fa).trans fc).trans pb).trans ff).trans cr).trans c6).trans bi).trans bb),rfl,rfl,(pc.mono ((((ff.trans cr).trans c6).trans bi).trans bb)),(pe.mono (((cr.trans c6).trans bi).trans bb)),(pg.mono ((c6.trans bi).trans bb)),(pi.mono (bi.trans bb)),(pk.mono bb),pn,po.tail.tail.tail.tail.tail.tail.tail.tail.tail.tail⟩
noncomputable def Bf (s_0:Le):Option (List ByteArray×List ByteArray×List Ay×List Int×List Int×List ByteArray):=(BL (s_0.1,s_0.2.1,s_0.2.2.1,s_0.2.2.2.1,s_0.2.2.2.2.1,s_0.2.2.2.2.2.1,s_0.2.2.2.2.2.2)).bind fun t10=>(Ct (t10.1,t10.2.1,t10.2.2.1,t10.2.2.2.1,t10.2.2.2.2)).bind fun t11=>some (t11.1,t11.2.1,t11.2.2.1,t11.2.2.2.1,t11.2.2.2.2.1,t11.2.2.2.2.2.1)
theorem GE {s_0:Int×Int×Slc×Slc×Slc×Slc×Slc×Unit}{d:List Int}{e:List (List Int)}{f:List Int}{g:List Int}{i:List Int}(p:Ro.SliceIs (cH .u8) φ s_0.2.2.1 d) (q:Ro.SliceIs (gG (cH .u8)) φ s_0.2.2.2.1 e) (s:Ro.SliceIs (cH .u8) φ s_0.2.2.2.2.1 f) (t:Ro.SliceIs (cH .u8) φ s_0.2.2.2.2.2.1 g) (u:Ro.SliceIs (cH .u8) φ s_0.2.2.2.2.2.2.1 i) (s0:St φ (F) h) {r:(List ByteArray×List ByteArray×List Ay×List Int×List Int×List ByteArray)}(hd:Bf (s_0.1,s_0.2.1,d,e,f,g,i)=some r):
 CallsH bW 15 [(.agg #[(.int .u8 s_0.1),(.int .u8 s_0.2.1),(sv s_0.2.2.1),(sv s_0.2.2.2.1),(sv s_0.2.2.2.2.1),(sv s_0.2.2.2.2.2.1),(sv s_0.2.2.2.2.2.2.1)])] h (Ar fun v h'=>∃ψ:AD,∃y:Pl6,∃j:List ByteArray,∃k:List ByteArray,∃l:List Ay,∃m:List Int,∃n:List Int,∃o:List ByteArray,Sub φ ψ∧v=((.one (.agg [.slice,.slice,.slice,.slice,.slice,.slice])):Sh).val y∧(j,k,l,m,n,o)=r∧Ro.SliceIs cA ψ y.1 j∧Ro.SliceIs cA ψ y.2.1 k∧Ro.SliceIs CR ψ y.2.2.1 l∧Ro.SliceIs (cH .i64) ψ y.2.2.2.1 m∧Ro.SliceIs (cH .i64) ψ y.2.2.2.2.1 n∧Ro.SliceIs cA ψ y.2.2.2.2.2.1 o∧St ψ (F) h'):=by
 refine AO mixed Tryz.func15 ?_;rw [GC];unfold Dy;unfold Bf at hd;refine AV (vs:=[.int .u8 s_0.1,.int .u8 s_0.2.1,sv s_0.2.2.1,sv s_0.2.2.2.1,sv s_0.2.2.2.2.1,sv s_0.2.2.2.2.2.1,sv s_0.2.2.2.2.2.2.1]) s0 fun r1 az w=>AV (vs:=[.slice none 0 0,.slice none 0 0,.slice none 0 0,.slice none 0 0,.slice none 0 0,.slice none 0 0]) w fun r2 b0 a=>AA (x:=s_0.1) a.at1 rfl<|AA (x:=s_0.2.1) a.at1 rfl<|AA (x:=s_0.2.2.1) a.at1 rfl<|AA (x:=s_0.2.2.2.1) a.at1 rfl<|AA (x:=s_0.2.2.2.2.1) a.at1 rfl<|AA (x:=s_0.2.2.2.2.2.1) a.at1 rfl<|AA (x:=s_0.2.2.2.2.2.2.1) a.at1 rfl ?_;obtain ⟨b1,z,hd⟩:=bS hd;refine AI (FF (s_0:=(s_0.1,s_0.2.1,s_0.2.2.1,s_0.2.2.2.1,s_0.2.2.2.2.1,s_0.2.2.2.2.2.1,s_0.2.2.2.2.2.2.1,())) p q s t u a z) ?_;rintro _ b2 ⟨b3,t10,b4,b5,b6,b7,a0,rfl,rfl,a1,a2,a3,a4,a5⟩;refine ⟨t10,rfl,?_⟩;try dsimp only at hd
 obtain ⟨b8,a6,hd⟩:=bS hd;refine AI (J7 (g_0:=(t10.1,t10.2.1,t10.2.2.1,t10.2.2.2.1,t10.2.2.2.2.1,())) a1 a2 a3 a4 a5 a6) ?_;rintro _ b9 ⟨a7,t11,a8,a9,aa,ab,ac,ad,ae,rfl,rfl,af,ag,ah,ai,aj,ak,al⟩;refine ⟨t11,rfl,?_⟩;try dsimp only at hd
 refine AV (vs:=[.slice none 0 0,.slice none 0 0,.slice none 0 0,.slice none 0 0,.slice none 0 0,.slice none 0 0]) al fun r12 ba am=>AR am rfl rfl fun bb an=>AR an rfl rfl fun bc ao=>AR ao rfl rfl fun bd ap=>AR ap rfl rfl fun be aq=>AR aq rfl rfl fun bf ar=>AR ar rfl rfl fun bg b=>AA (x:=t11.1.1) b rfl<|AA (x:=t11.1.2.1) b rfl<|AA (x:=t11.1.2.2.1) b rfl<|AA (x:=t11.1.2.2.2.1) b rfl<|AA (x:=t11.1.2.2.2.2.1) b rfl<|AA (x:=t11.1.2.2.2.2.2.1) b rfl<|AR b.at1 rfl rfl fun bh au=>AR au rfl rfl fun bi av=>AR av rfl rfl fun bj aw=>AR aw rfl rfl fun bk ax=>AR ax rfl rfl fun bl ay=>AR ay rfl rfl fun bm c=>AA (x:=t11.1.1) c rfl<|AA (x:=t11.1.2.1) c rfl<|AA (x:=t11.1.2.2.1) c rfl<|AA (x:=t11.1.2.2.2.1) c rfl<|AA (x:=t11.1.2.2.2.2.1) c rfl<|AA (x:=t11.1.2.2.2.2.2.1) c rfl ?_;obtain rfl:=iS hd;exact AB ⟨a7,(t11.1.1,t11.1.2.1,t11.1.2.2.1,t11.1.2.2.2.1,t11.1.2.2.2.2.1,t11.1.2.2.2.2.2.1,()),a8,a9,aa,ab,ac,ad,(a0.trans ae),rfl,rfl,af,ag,ah,ai,aj,ak,c.tail.tail.tail⟩
end
end Go.Proofs.YteolcjbobmpdiaaGreatDoor
namespace Go.Eng
open Go
theorem CI {α:Type}(l:List α) (k:Nat):idx l (k:Int)=l[k]? :=by
 unfold idx;rw [if_pos (by omega),eA]
theorem Jl {α:Type}{l:List α}{i:Int}(h0:0≤i) (h1:i.toNat<l.length):idx l i=some l[i.toNat]:=by
 unfold idx;rw [if_pos h0,cJ h1]
theorem FH {α:Type}{l:List α}{k:Nat}(h:k<l.length):idx l (k:Int)=some l[k]:=by
 rw [CI,cJ h]
theorem Qm {α:Type}{l m:List α}(h:l.length+m.length≤1073741824):app l m=some (l++m):=by unfold app;rw [if_pos h]
theorem Oj {α:Type}{l:List α}{a b:Int}(h0:0≤a) (h1:a≤b) (h2:b≤(l.length:Int)):cut l a b=some ((l.take b.toNat).drop a.toNat):=by unfold cut;rw [if_pos ⟨h0,h1,h2⟩]
theorem G3 {α:Type}{l:List α}{i:Int}{x:α}(h0:0≤i) (h1:i< (l.length:Int)):DL l i x=some (l.set i.toNat x):=by unfold DL;rw [if_pos ⟨h0,h1⟩]
theorem Ej {α:Type}{p:Prop}[Decidable p] (h:p) (k:Option α):need p k=k:=by unfold need;rw [if_pos h]
theorem Qn {σ:Type}{f:Int→σ→Option σ}(I:Int→σ→Prop):∀(n:Nat) (i:Int) (s:σ),I i s→(∀j s,i≤j→j<i+n→I j s→ ∃s',f j s=some s'∧I (j+1) s')→ ∃s',KX f n i s=some s'∧I (i+n) s':=by
 intro n
 induction n with
 |zero=>intro i s hI _;exact ⟨s,rfl,by simpa using hI⟩
 |succ n ih=>
  intro i s hI hs;obtain ⟨s',h1,h2⟩:=hs i s (fY _) (by omega) hI;obtain ⟨s'',h3,h4⟩:=ih (i+1) s' h2 fun j s hj hj'=>hs j s (by omega) (by omega);refine ⟨s'',by simp only [KX];rw [h1];exact h3,?_⟩;rw [show i+(n+1:Nat)=i+1+n by omega];exact h4
theorem Bw {σ:Type}{f:Int→σ→Option σ}{n:Nat}(I:Nat→σ→Prop) (hn:n≤9223372036854775807) {s:σ}(h0:I 0 s) (hs:∀k s,k<n→I k s→ ∃s',f (k:Int) s=some s'∧I (k+1) s'):∃s',forS 0 (n:Int) s f=some s'∧I n s':=by
 unfold forS;rw [if_pos ⟨by omega,by omega⟩];obtain ⟨s',h1,h2⟩:=Qn (f:=f) (fun i s=>I i.toNat s) ((n:Int) - 0).toNat 0 s (by simpa using h0) fun j s hj hj' hI=>by
  obtain ⟨s',h1,h2⟩:=hs j.toNat s (by omega) hI;refine ⟨s',by rw [←h1,show (j.toNat:Int)=j by omega],by rw [show (j+1).toNat=j.toNat+1 by omega];exact h2⟩
 refine ⟨s',h1,?_⟩;have e:((0:Int)+(((n:Int) - 0).toNat:Nat)).toNat=n:=by omega
 rw [e]at h2;exact h2
theorem SV {σ β:Type}{f:Int→σ→Option (Ab σ β)}(I:Int→σ→Prop) (B:β→Prop):∀(n:Nat) (i:Int) (s:σ),I i s→(∀j s,i≤j→j<i+n→I j s→(∃s',f j s=some (.next s')∧I (j+1) s')∨ ∃b,f j s=some (.done b)∧B b)→
 (∃s',IV f n i s=some (.next s')∧I (i+n) s')∨ ∃b,IV f n i s=some (.done b)∧B b:=by
 intro n
 induction n with
 |zero=>intro i s hI _;exact .inl ⟨s,rfl,by simpa using hI⟩
 |succ n ih=>
  intro i s hI hs;rcases hs i s (fY _) (by omega) hI with ⟨s',h1,h2⟩|⟨b,h1,h2⟩
  ·rcases ih (i+1) s' h2 fun j s hj hj'=>hs j s (by omega) (by omega) with ⟨s'',h3,h4⟩|⟨b,h3,h4⟩
   ·left
    refine ⟨s'',by simp only [IV];rw [h1];exact h3,?_⟩;rw [show i+(n+1:Nat)=i+1+n by omega];exact h4
   ·exact .inr ⟨b,by simp only [IV];rw [h1];exact h3,h4⟩
  ·exact .inr ⟨b,by simp only [IV];rw [h1];rfl,h2⟩
theorem K6 {σ β:Type}{f:Int→σ→Option (Ab σ β)}{n:Nat}(I:Nat→σ→Prop) (B:β→Prop) (hn:n≤9223372036854775807) {s:σ}(h0:I 0 s)
 (hs:∀k s,k<n→I k s→(∃s',f (k:Int) s=some (.next s')∧I (k+1) s')∨ ∃b,f (k:Int) s=some (.done b)∧B b):
 (∃s',C2 0 (n:Int) s f=some (.next s')∧I n s')∨ ∃b,C2 0 (n:Int) s f=some (.done b)∧B b:=by
 unfold C2;rw [if_pos ⟨by omega,by omega⟩];rcases SV (fun i s=>I i.toNat s) B ((n:Int) - 0).toNat 0 s (by simpa using h0) (fun j s hj hj' hI=>by
  have e:(j.toNat:Int)=j:=by omega
  rcases hs j.toNat s (by omega) hI with ⟨s',h1,h2⟩|⟨b,h1,h2⟩
  ·exact .inl ⟨s',by rw [←h1,e],by rw [show (j+1).toNat=j.toNat+1 by omega];exact h2⟩
  ·exact .inr ⟨b,by rw [←h1,e],h2⟩) with ⟨s',h1,h2⟩|h
 ·left
  refine ⟨s',h1,?_⟩;have e:((0:Int)+(((n:Int) - 0).toNat:Nat)).toNat=n:=by omega
  rw [e]at h2;exact h2
 ·exact .inr h
theorem Ta {σ β:Type}{f:Int→σ→Option (Ab σ β)}{n:Nat}(I:Nat→σ→Prop) (hn:n≤9223372036854775807) {s:σ}(h0:I 0 s)
 (hs:∀k s,k<n→I k s→ ∃s',f (k:Int) s=some (.next s')∧I (k+1) s'):∃s',C2 0 (n:Int) s f=some (.next s')∧I n s':=by
 rcases K6 I (fun _=>False) hn h0 (fun k s hk hI=>.inl (hs k s hk hI)) with h | ⟨_,_,h⟩
 ·exact h
 ·exact h.elim
theorem Tb {σ β:Type}{f:σ→Option (Ab σ β)}(I:σ→Prop) (μ:σ→Nat) (B:β→Prop) (hs:∀s,I s→(∃s',f s=some (.next s')∧I s'∧μ s'<μ s)∨ ∃b,f s=some (.done b)∧B b):∀ {s:σ},I s→ ∃b,loop s f=some b∧B b:=by
 intro s
 generalize hm:μ s=m
 induction m using Nat.strongRecOn generalizing s with
 |ind m ih=>
  intro hI;rw [Od];rcases hs s hI with ⟨s',h1,h2,h3⟩|⟨b,h1,h2⟩
  ·rw [h1];exact ih (μ s') (by omega) rfl h2
  ·rw [h1];exact ⟨b,rfl,h2⟩
def Ok {α:Type}(o:Option α) (P:α→Prop):Prop:= ∃x,o=some x∧P x
section
variable {α β γ σ:Type}{P:γ→Prop}{k:α→Option γ}
theorem Ok.eq {o:Option α}{x:α}(h:Ok o (· =x)):o=some x:=by obtain ⟨y,h1,h2⟩:=h;rw [h1];exact congrArg some h2
theorem Ok.of {o:Option α}{x:α}{Q:α→Prop}(h:o=some x) (hq:Q x):Ok o Q:=⟨x,h,hq⟩
theorem Ok.mono {o:Option α}{Q R:α→Prop}(h:Ok o Q) (hq:∀x,Q x→R x):Ok o R:=by obtain ⟨x,h1,h2⟩:=h;exact ⟨x,h1,hq x h2⟩
theorem AG {x:γ}(h:P x):Ok (some x) P:=⟨x,rfl,h⟩
theorem AN {o:Option α}{Q:α→Prop}(h:Ok o Q) (hk:∀x,Q x→Ok (k x) P):Ok (o.bind k) P:=by
 obtain ⟨x,h1,h2⟩:=h;rw [h1];exact hk x h2
theorem AS {o:Option α}{x:α}(h:o=some x) (hk:Ok (k x) P):Ok (o.bind k) P:=by rw [h];exact hk
theorem Ba {p:Prop}{d:Decidable p}{o:Option γ}(h:p) (hk:Ok o P):Ok (@need γ p d o) P:=by
 have: @need γ p d o=o:=by unfold need;exact if_pos h
 rw [this];exact hk
theorem Cu {c:Bool}{x y:Option γ}(h:c=true) (hk:Ok x P):Ok (cond c x y) P:=by subst h;exact hk
theorem Ak {c:Bool}{x y:Option γ}(h:c=false) (hk:Ok y P):Ok (cond c x y) P:=by subst h;exact hk
theorem Ae {c:Bool}{x y:Option γ}(h1:c=true→Ok x P) (h2:c=false→Ok y P):Ok (cond c x y) P:=by
 cases c with
 |true=>exact h1 rfl
 |false=>exact h2 rfl
theorem DC {l:List α}{i:Int}{x:α}(h0:0≤i) (h:l[i.toNat]? =some x) (hk:Ok (k x) P):Ok ((idx l i).bind k) P:=by
 unfold idx;rw [if_pos h0,h];exact hk
theorem AW {l:List α}{i:Nat}{x:α}(h:l[i]? =some x) (hk:Ok (k x) P):Ok ((idx l (i:Int)).bind k) P:=by
 rw [CI,h];exact hk
theorem Bo {l m:List α}{k:List α→Option γ}(h:l.length+m.length≤1073741824) (hk:Ok (k (l++m)) P):Ok ((app l m).bind k) P:=by
 rw [Qm h];exact hk
theorem Ek {l:List α}{i:Int}{x:α}{k:List α→Option γ}(h0:0≤i) (h1:i< (l.length:Int)) (hk:Ok (k (l.set i.toNat x)) P):Ok ((DL l i x).bind k) P:=by
 rw [G3 h0 h1];exact hk
theorem B8 {f:Int→σ→Option σ}{n:Nat}{s:σ}{k:σ→Option γ}(I:Nat→σ→Prop) (hn:n≤9223372036854775807) (h0:I 0 s) (hs:∀j s,j<n→I j s→Ok (f (j:Int) s) (I (j+1))) (hk:∀s',I n s'→Ok (k s') P):
 Ok ((forS 0 (n:Int) s f).bind k) P:=by
 obtain ⟨s',h1,h2⟩:=Bw I hn h0 hs;rw [h1];exact hk s' h2
theorem El {f:Int→σ→Option (Ab σ β)}{n:Nat}{s:σ}{k:Ab σ β→Option γ}(I:Nat→σ→Prop) (hn:n≤9223372036854775807) (h0:I 0 s) (hs:∀j s,j<n→I j s→Ok (f (j:Int) s) (fun e=>∃s',e= .next s'∧I (j+1) s')) (hk:∀s',I n s'→Ok (k (.next s')) P):
 Ok ((C2 0 (n:Int) s f).bind k) P:=by
 obtain ⟨s',h1,h2⟩:=Ta I hn h0 (fun j s hj hI=>by
  obtain ⟨e,h1,s',rfl,h2⟩:=hs j s hj hI;exact ⟨s',h1,h2⟩)
 rw [h1];exact hk s' h2
theorem Gb {f:Int→σ→Option (Ab σ β)}{n:Nat}{s:σ}{k:Ab σ β→Option γ}(I:Nat→σ→Prop) (B:β→Prop) (hn:n≤9223372036854775807) (h0:I 0 s) (hs:∀j s,j<n→I j s→Ok (f (j:Int) s) (fun e=>(∃s',e= .next s'∧I (j+1) s')∨ ∃b,e= .done b∧B b))
 (hk:∀s',I n s'→Ok (k (.next s')) P) (hb:∀b,B b→Ok (k (.done b)) P):
 Ok ((C2 0 (n:Int) s f).bind k) P:=by
 rcases K6 I B hn h0 (fun j s hj hI=>by
  obtain ⟨e,h1,h2⟩:=hs j s hj hI;rcases h2 with ⟨s',rfl,h2⟩|⟨b,rfl,h2⟩
  ·exact .inl ⟨s',h1,h2⟩
  ·exact .inr ⟨b,h1,h2⟩) with ⟨s',h1,h2⟩|⟨b,h1,h2⟩
 ·rw [h1];exact hk s' h2
 ·rw [h1];exact hb b h2
theorem C4 {f:σ→Option (Ab σ β)}{s:σ}{k:β→Option γ}(I:σ→Prop) (μ:σ→Nat) (B:β→Prop) (h0:I s) (hs:∀s,I s→Ok (f s) (fun e=>(∃s',e= .next s'∧I s'∧μ s'<μ s)∨ ∃b,e= .done b∧B b)) (hk:∀b,B b→Ok (k b) P):
 Ok ((loop s f).bind k) P:=by
 obtain ⟨b,h1,h2⟩:=Tb I μ B (fun s hI=>by
  obtain ⟨e,h1,h2⟩:=hs s hI;rcases h2 with ⟨s',rfl,h2⟩|⟨b,rfl,h2⟩
  ·exact .inl ⟨s',h1,h2⟩
  ·exact .inr ⟨b,h1,h2⟩) h0
 rw [h1];exact hk b h2
theorem FL {s:σ}{Q:σ→Prop}(h:Q s):Ok (some (dC s:Ab σ β)) (fun e=>∃s',e= .next s'∧Q s'):=⟨_,rfl,s,rfl,h⟩
theorem CX {s:σ}{Q:σ→Prop}{B:β→Prop}(h:Q s):Ok (some (dC s:Ab σ β)) (fun e=>(∃s',e= .next s'∧Q s')∨ ∃b,e= .done b∧B b):=⟨_,rfl,.inl ⟨s,rfl,h⟩⟩
theorem Bj {b:β}{Q:σ→Prop}{B:β→Prop}(h:B b):Ok (some (dB b:Ab σ β)) (fun e=>(∃s',e= .next s'∧Q s')∨ ∃b,e= .done b∧B b):=⟨_,rfl,.inr ⟨b,rfl,h⟩⟩
end
theorem K7 {α β γ:Type}{P:γ→Prop}{f:Int→Unit→Option (Ab Unit β)}{k:Ab Unit β→Option γ}(l:List α) (q:Nat→α→Bool) (d:Nat→α→β) (hl:l.length≤9223372036854775807)
 (hf:∀(j:Nat) x,l[j]? =some x→f (j:Int) ()=some (if q j x then .done (d j x) else .next ()))
 (h1:(∀(j:Nat) x,l[j]? =some x→q j x=false)→Ok (k (.next ())) P) (h2:∀(j:Nat) x,l[j]? =some x→q j x=true→(∀(i:Nat) y,i<j→l[i]? =some y→q i y=false)→Ok (k (.done (d j x))) P):
 Ok ((C2 (0:Int) (l.length:Int) () f).bind k) P:=by
 refine Gb (fun i _=>∀(j:Nat) y,j<i→l[j]? =some y→q j y=false) (fun b=>∃(j:Nat) (x:α),l[j]? =some x∧q j x=true∧(∀(i:Nat) y,i<j→l[i]? =some y→q i y=false)∧b=d j x) hl (fun j y h=>by omega) (fun i _ hi hI=> ?_) (fun _ h=>h1 fun j x hx=>h j x (List.getElem?_eq_some_iff.1 hx).1 hx) (fun b ⟨j,x,g1,g2,g3,g4⟩=>by rw [g4];exact h2 j x g1 g2 g3);have hx:=cJ hi;rw [hf i _ hx];cases hq:q i l[i]with
 |true=>exact ⟨_,rfl,.inr ⟨_,rfl,i,_,hx,hq,hI,rfl⟩⟩
 |false=>
  refine ⟨_,rfl,.inl ⟨(),rfl,fun j y hj hy=> ?_⟩⟩;rcases Nat.lt_succ_iff_lt_or_eq.1 hj with h | rfl
  ·exact hI j y h hy
  ·rw [hx]at hy;cases hy;exact hq
end Go.Eng
namespace Go.Proofs.YteolcjbobmpdiaaGreatDoor
open Go Go.Eng
set_option linter.unusedVariables false
set_option maxRecDepth 100000
theorem MI (b:ByteArray):b.toList=b.data.toList:=by
 have hsz:b.size=b.data.toList.length:=by rw [Array.length_toList];rfl
 have key:∀(n i:Nat) (r:List UInt8),b.size - i=n→ByteArray.toList.loop b i r=r.reverse++b.data.toList.drop i:=by
  intro n
  induction n with
  |zero=>
   intro i r h;rw [ByteArray.toList.loop.eq_1,if_neg (by omega),List.drop_eq_nil_of_le (by omega),List.append_nil]
  |succ n ih=>
   intro i r h;have hi:i<b.size:=by omega
   rw [ByteArray.toList.loop.eq_1,if_pos hi,ih (i+1) _ (by omega)];have hi':i<b.data.toList.length:=by omega
   rw [List.drop_eq_getElem_cons hi',List.reverse_cons,fG]
   have:b.get! i=b.data.toList[i]:=by
    cases b with
    |mk a=>
     show a[i]! =_;rw [getElem!_pos a i (by simpa using hi')];rw [Array.getElem_toList]
   rw [this];rfl
 unfold bX;rw [key _ 0 [] rfl];rfl
theorem De (a b:ByteArray):(a.toList==b.toList)=decide (a=b):=by
 rw [MI,MI];by_cases h:a=b
 ·subst h;simp
 ·rw [decide_eq_false h];refine beq_eq_false_iff_ne.2 fun e=>h ?_;cases a;cases b;simp only [ByteArray.mk.injEq];exact Array.toList_inj.1 e
theorem Gc {l:List ByteArray}{s:ByteArray}(hl:l.length≤9223372036854775807):Ok (As l s) fun k=>(k= -1∧s∉l)∨ ∃j:Nat,k=j∧l[j]? =some s:=by
 unfold As;refine K7 l (fun _ x=>decide (x=s)) (fun k _=>k) hl (fun k x hx=> ?_) (fun h=> ?_) fun j x hx hq _=> ?_
 ·rw [CI,hx,fS,De];cases decide (x=s) <;>rfl
 ·refine AG (.inl ⟨rfl,fun hm=> ?_⟩);obtain ⟨j,hj⟩:=eK hm
  have:=h j s hj
  simp at this
 ·refine AG (.inr ⟨j,rfl,?_⟩);rw [hx,of_decide_eq_true hq]
def nm (c i:Nat):ByteArray:=⟨#[eB (c+i)]⟩
theorem Kg {c i d j:Nat}(h1:c+i<256) (h2:d+j<256) (h:nm c i=nm d j):c+i=d+j:=by
 unfold nm at h;simp only [ByteArray.mk.injEq,Array.mk.injEq,List.cons.injEq,and_true]at h
 have:=congrArg cV h
 simp at this;omega
theorem Wj {i:Nat}(h:i<5):bV {data:=#[97,98,99,100,101]} i (i+1)=nm 97 i:=by
 match i,h with
 | 0,_ | 1,_ | 2,_ | 3,_ | 4,_=>decide
theorem Wk {i:Nat}(h:i<5):bV {data:=#[112,113,114,115,116]} i (i+1)=nm 112 i:=by
 match i,h with
 | 0,_ | 1,_ | 2,_ | 3,_ | 4,_=>decide
theorem Wl {i:Nat}(h:i<4):bV {data:=#[83,84,85,86]} i (i+1)=nm 83 i:=by
 match i,h with
 | 0,_ | 1,_ | 2,_ | 3,_=>decide
inductive Nm:ByteArray→Prop
 |tok {i:Nat} :i<5→Nm (nm 97 i)
 |lev {i:Nat} :i<5→Nm (nm 112 i)
 |var {i:Nat} :i<4→Nm (nm 83 i)
theorem RZ {c i:Nat}(h:(65≤c+i∧c+i≤90)∨(97≤c+i∧c+i≤122)):BB (nm c i)=some true:=by
 generalize e:c+i=n at h
 have:nm c i=⟨#[eB n]⟩:=by unfold nm;rw [e]
 rw [this];have all:∀m:Fin 123,((65≤m.1∧m.1≤90)∨(97≤m.1∧m.1≤122))→(CA ((cV (eB m.1):Nat):Int))=some true:=by
  have:∀m:Fin 123,((65≤m.1∧m.1≤90)∨(97≤m.1∧m.1≤122))→(match CA ((cV (eB m.1):Nat):Int) with | some true=>true | _=>false)=true:=by
   decide+kernel
  intro m hm
  have:=this m hm
  split at this
  ·assumption
  ·cases this
 have hl:=all ⟨n,by omega⟩ h;refine Ok.eq ?_;unfold BB C3;have hs:bY {data:=#[eB n]} =1:=rfl;rw [hs];refine AN (Q:=fun x=>x=true) (Cu rfl (AN (Q:=fun x=>x=true) ?_ fun _ h=>AG h)) fun _ h=>AG h;refine El (fun _ _=>True) (by omega) trivial (fun j s hj _=> ?_) fun s _=> ?_
 ·obtain rfl:j=0:=by omega
  refine AN (Q:=fun x=>x=false) (Ba (by omega) (AS hl (Ak rfl (AG rfl)))) fun _ h=> ?_;subst h;exact FL trivial
 ·rw [De,decide_eq_false (fun h=>by simp at h)];exact AG rfl
theorem Nm.name {s:ByteArray}(h:Nm s):BB s=some true:=by
 cases h with
 |tok h | lev h | var h=>exact RZ (by omega)
theorem Nm.ne {s:ByteArray}(h:Nm s):s≠⟨#[]⟩:=by
 cases h with
 |tok h | lev h | var h=>intro e;unfold nm at e;simp at e
theorem Nm.size {s:ByteArray}(h:Nm s):s.size=1:=by
 cases h with
 |tok h | lev h | var h=>rfl
theorem Qo:(bX {data:=#[]} ==bX {data:=#[]})=true:=by rw [De];rfl
theorem K8:CC {data:=#[]} =some true:=by rfl
theorem Ol {s:ByteArray}(h:Nm s):Be (s,{data:=#[]},false)=some true:=by
 unfold Be;dsimp only;have e:=h.size;rw [Qo,De,decide_eq_false h.ne,e];rfl
theorem Ra {l:List ByteArray}(hl:l.length≤9223372036854775807) (h:∀x∈l,Nm x) (hn:l.Nodup):BO l=some true:=by
 refine Ok.eq ?_;unfold BO;refine El (fun _ _=>True) hl trivial (fun k s hk _=> ?_) fun _ _=>AG rfl;have hk':=cJ hk;refine AW hk' (AS (h _ (cZ hk)).name ?_);refine Ak rfl<|El (fun _ _=>True) (by omega) trivial (fun j s hj _=> ?_) fun _ _=>FL trivial;have hj':=cJ (show j<l.length by omega);refine AW hj' (AW hk' ?_);rw [De,decide_eq_false (List.pairwise_iff_getElem.1 (List.nodup_iff_pairwise_ne.1 hn) j k (by omega) hk hj)];exact FL trivial
theorem wr {x:Int}(h: -1000000≤x∧x≤1000000):bR .i64 x=x:=w64 (by omega) (by omega)
theorem tm {x n:Int}(h:0≤x):bT x n=x % n:=Int.tmod_eq_emod_of_nonneg h
theorem Tc {i:Int}(h0:0≤i) (h1:i<5):bV {data:=#[112,113,114,115,116]} (bU i) (bU (i+1))=nm 112 i.toNat:=by
 rw [show bU (i+1)=i.toNat+1 by omega,Wk (by omega)]
theorem Td {i:Int}(h0:0≤i) (h1:i<5):bV {data:=#[97,98,99,100,101]} (bU i) (bU (i+1))=nm 97 i.toNat:=by
 rw [show bU (i+1)=i.toNat+1 by omega,Wj (by omega)]
theorem Qp {i:Int}(h0:0≤i) (h1:i<4):bV {data:=#[83,84,85,86]} (bU i) (bU (i+1))=nm 83 i.toNat:=by
 rw [show bU (i+1)=i.toNat+1 by omega,Wl (by omega)]
def FI (L:List Ec):List ByteArray:=L.flatMap (·.2)
structure Lv (nl nk:Nat) (L:List Ec):Prop where
 len:L.length=nl
 each:∀(j:Nat) x,L[j]? =some x→1≤x.1∧x.1≤3∧nm 112 j∈x.2
 names:∀x∈FI L,(∃i,i<nl∧x=nm 112 i)∨ ∃i,i<nk∧x=nm 97 i
 once:(FI L).Nodup
 room:(FI L).length≤nl+nk
def Tk (n:Nat) (l:List GP):Prop:=l.length=n∧ ∀j,j<n→l[j]? =some (nm 97 j,nm 97 j,{data:=#[]},false)
structure Ru1 (nt nv nl:Nat) (r:C8):Prop where
 left:∃i,i<nv∧r.1=nm 83 i
 few:r.2.1.length≤8
 right:∀x∈r.2.1,(∃i,i<nt∧x=nm 97 i)∨ ∃i,i<nv∧x=nm 83 i
 prec:r.2.2.1= {data:=#[]} ∨ ∃i,i<nl∧r.2.2.1=nm 112 i
 act:r.2.2.2= {data:=#[]}
theorem Lv.snoc {k:Nat}{L:List Ec}{a:Int}(H:Lv k 0 L) (ha:1≤a∧a≤3) (hk:k<5):Lv (k+1) 0 (L++ [(a,[nm 112 k])]):=by
 have e:FI (L++ [(a,[nm 112 k])])=FI L++ [nm 112 k]:=by unfold FI;rw [List.flatMap_append];rfl
 refine ⟨by simp [H.len],fun j x hj=> ?_,fun x hx=> ?_,?_,?_⟩
 ·rcases Nat.lt_or_ge j L.length with g | g
  ·rw [dZ g]at hj;exact H.each j x hj
  ·rw [dY g]at hj
   have:j - L.length=0:=by
    rcases Nat.eq_zero_or_pos (j - L.length) with q | q
    ·exact q
    ·rw [List.getElem?_eq_none (by simp;omega)]at hj;cases hj
   rw [this]at hj;simp at hj;subst hj
   have:j=k:=by have:=H.len;omega
   subst this;exact ⟨ha.1,ha.2,by simp⟩
 ·rw [e]at hx;rcases List.mem_append.1 hx with h | h
  ·rcases H.names x h with ⟨i,h1,h2⟩|⟨i,h1,h2⟩
   ·exact .inl ⟨i,by omega,h2⟩
   ·omega
  ·exact .inl ⟨k,by omega,by simpa using h⟩
 ·rw [e];refine List.nodup_append.2 ⟨H.once,by simp,fun x hx y hy hxy=> ?_⟩;have hy:y=nm 112 k:=by simpa using hy
  subst hy;rcases H.names x hx with ⟨i,h1,h2⟩|⟨i,h1,h2⟩
  ·rw [h2]at hxy
   have:=Kg (by omega) (by omega) hxy
   omega
  ·omega
 ·rw [e,dM]
  have:=H.room
  simp;omega
theorem Te {L:List Ec}{q:Nat}{a:Int}{ns:List ByteArray}{y:ByteArray}(h:L[q]? =some (a,ns)):(FI (L.set q (a,ns++ [y]))).Perm (y::FI L):=by
 induction L generalizing q with
 |nil=>simp at h
 |cons x L ih=>
  cases q with
  |zero=>
   simp at h;subst h;show (ns++ [y] ++FI L).Perm (y::(ns++FI L));rw [fG];exact fT
  |succ q=>
   have:=ih (q:=q) (by simpa using h)
   show (x.2++FI (L.set q (a,ns++ [y]))).Perm (y::(x.2++FI L));exact (this.append_left x.2).trans fT
theorem Lv.put {nl k:Nat}{L:List Ec}{q:Nat}{a:Int}{ns:List ByteArray}(H:Lv nl k L) (hk:k<5) (hn:nl≤5) (h:L[q]? =some (a,ns)):Lv nl (k+1) (L.set q (a,ns++ [nm 97 k])):=by
 have hp:=Te (y:=nm 97 k) h;refine ⟨by simp [H.len],fun j x hj=> ?_,fun x hx=> ?_,?_,?_⟩
 ·by_cases hq:j=q
  ·subst hq;rw [List.getElem?_set_self (List.getElem?_eq_some_iff.1 h).1]at hj;cases hj;obtain ⟨h1,h2,h3⟩:=H.each j _ h;exact ⟨h1,h2,eL _ h3⟩
  ·rw [List.getElem?_set_ne (fun e=>hq e.symm)]at hj;exact H.each j x hj
 ·rcases List.mem_cons.1 (hp.mem_iff.1 hx) with rfl | h
  ·exact .inr ⟨k,by omega,rfl⟩
  ·rcases H.names x h with h | ⟨i,h1,h2⟩
   ·exact .inl h
   ·exact .inr ⟨i,by omega,h2⟩
 ·rw [hp.nodup_iff];refine List.nodup_cons.2 ⟨fun hm=> ?_,H.once⟩;rcases H.names _ hm with ⟨i,h1,h2⟩|⟨i,h1,h2⟩
  ·have:=Kg (by omega) (by omega) h2
   omega
  ·have:=Kg (by omega) (by omega) h2
   omega
 ·rw [hp.length_eq,fU]
  have:=H.room
  omega
theorem Lv.up {nl k:Nat}{L:List Ec}(H:Lv nl k L):Lv nl (k+1) L:=⟨H.len,H.each,fun x hx=>by
 rcases H.names x hx with h | ⟨i,h1,h2⟩
 ·exact .inl h
 ·exact .inr ⟨i,by omega,h2⟩,H.once,by have:=H.room;omega⟩
theorem Tk.snoc {k:Nat}{l:List GP}(H:Tk k l):Tk (k+1) (l++ [(nm 97 k,nm 97 k,{data:=#[]},false)]):=by
 refine ⟨by simp [H.1],fun j hj=> ?_⟩;rcases Nat.lt_or_ge j k with g | g
 ·rw [dZ (by rw [H.1];exact g)];exact H.2 j g
 ·have:j=k:=by omega
  subst this;rw [dY (by rw [H.1];omega),H.1];simp
structure Sg (nt nv nl:Nat) (g:C1):Prop where
 nt1:1≤nt
 nt5:nt≤5
 nv1:1≤nv
 nv4:nv≤4
 nl5:nl≤5
 toks:Tk nt g.1
 skips:g.2.1= []
 levs:Lv nl nt g.2.2.1
 start:g.2.2.2.1=nm 83 0
 rules:∀r∈g.2.2.2.2,Ru1 nt nv nl r
 all:∀v,v<nv→ ∃r∈g.2.2.2.2,r.1=nm 83 v
 room:g.2.2.2.2.length≤24
structure SmG (s:Le):Prop where
 t0:0≤s.1∧s.1<256
 v0:0≤s.2.1∧s.2.1<256
 lefts:s.2.2.1.length≤9223372036854775807∧ ∀x∈s.2.2.1,0≤x∧x<256
 rights:s.2.2.2.1.length≤9223372036854775807∧ ∀l∈s.2.2.2.1,l.length≤9223372036854775807∧ ∀x∈l,0≤x∧x<256
 precs:s.2.2.2.2.1.length≤9223372036854775807∧ ∀x∈s.2.2.2.2.1,0≤x∧x<256
 assocs:s.2.2.2.2.2.1.length≤9223372036854775807∧ ∀x∈s.2.2.2.2.2.1,0≤x∧x<256
 levels:s.2.2.2.2.2.2.length≤9223372036854775807∧ ∀x∈s.2.2.2.2.2.2,0≤x∧x<256
structure SmF (n m:Nat) (s:Le):Prop where
 lefts:s.2.2.1.length≤n
 assocs:s.2.2.2.2.2.1.length≤5
 rights:∀l∈s.2.2.2.1,l.length≤m
theorem SmF.up {s:Le}(F:SmF 12 5 s):SmF 20 8 s:=⟨by have:=F.lefts;omega,F.assocs,fun l hl=>by have:=F.rights l hl;omega⟩
theorem Wm {s:Le}(G:SmG s) (n m:Nat):Ok (Bi s (n:Int) (m:Int)) fun b=>b=true→SmF n m s:=by
 unfold Bi;refine AN (Q:=fun c=>c=false→s.2.2.1.length≤n∧s.2.2.2.2.2.1.length≤5) (Ae (fun h=>AG (by simp)) fun h=>AG fun h'=> ?_) fun c hc=> ?_
 ·have h:=of_decide_eq_false h;have h':=of_decide_eq_false h';omega
 refine Ae (fun _=>AG (by simp)) fun h=> ?_;obtain ⟨h1,h2⟩:=hc h;refine K7 s.2.2.2.1 (fun _ l=>decide ((l.length:Int) >(m:Int))) (fun _ _=>false) (by have:=G.rights.1;omega) (fun j x hx=> ?_) (fun h=>AG fun _=>⟨h1,h2,fun l hl=> ?_⟩) fun j x hx hq _=>AG (by simp)
 ·rw [CI,hx,fS];cases decide ((x.length:Int) >(m:Int)) <;>rfl
 ·obtain ⟨j,hj⟩:=eK hl
  have:=of_decide_eq_false (h j l hj)
  omega
set_option maxHeartbeats 4000000 in
theorem Qq {s:Le}(G:SmG s) (F:SmF 20 8 s):Ok (BL s) (Sg (s.1.toNat % 5+1) (s.2.1.toNat % 4+1) s.2.2.2.2.2.1.length):=by
 obtain ⟨tk,vr,lefts,rights,precs,assocs,levels⟩:=s;obtain ⟨g1,g2,g3,g4,g5,g6,g7⟩:=G;obtain ⟨f1,f2,f3⟩:=F;dsimp only at *;unfold BL;dsimp only;have et:bR .i64 ((bR .i64 (bT tk (5:Int)))+(1:Int))=((tk.toNat % 5+1:Nat):Int):=by
  rw [tm g1.1,wr (show -1000000≤tk % 5∧tk % 5≤1000000 by omega),wr (by omega)];omega
 have ev:bR .i64 ((bR .i64 (bT vr (4:Int)))+(1:Int))=((vr.toNat % 4+1:Nat):Int):=by
  rw [tm g2.1,wr (show -1000000≤vr % 4∧vr % 4≤1000000 by omega),wr (by omega)];omega
 rw [et,ev]
 generalize hnt:tk.toNat % 5+1=nt
 generalize hnv:vr.toNat % 4+1=nv
 have s5:(bY {data:=#[112,113,114,115,116]} :Nat)=5:=rfl;have s5':(bY {data:=#[97,98,99,100,101]} :Nat)=5:=rfl;have s4:(bY {data:=#[83,84,85,86]} :Nat)=4:=rfl;rw [s5,s5',s4];refine Ba (by decide) (Ba (by decide) ?_);refine B8 (fun k (z:C1)=>z.1= [] ∧z.2.1= [] ∧Lv k 0 z.2.2.1∧z.2.2.2.1=nm 83 0∧z.2.2.2.2= []) (by omega) ⟨rfl,rfl,⟨rfl,fun j x h=>by simp at h,fun x h=>by simp [FI]at h,by simp [FI],by simp [FI]⟩,rfl,rfl⟩ (fun k z hk h=> ?_) fun z hz=> ?_
 ·obtain ⟨z1,z2,z3,z4,z5⟩:=z;obtain ⟨rfl,rfl,h,rfl,rfl⟩:=h;have hx:=cJ hk;have hb:=g6.2 _ (cZ hk);refine AW hx (Ba (by decide) (Ba ?_ ?_))
  ·rw [wr (by omega)];omega
  have hl:=h.len;dsimp only at hl ⊢;refine Bo (by simp;omega) (AG ⟨rfl,rfl,?_,rfl,rfl⟩);rw [tm hb.1,wr (show -1000000≤assocs[k] % 3∧assocs[k] % 3≤1000000 by omega),wr (show -1000000≤assocs[k] % 3+1∧assocs[k] % 3+1≤1000000 by omega),wr (show -1000000≤(k:Int)+1∧(k:Int)+1≤1000000 by omega),Tc (by omega) (by omega)];exact h.snoc (by omega) (by omega)
 obtain ⟨z1,z2,z3,z4,z5⟩:=z;obtain ⟨rfl,rfl,hz,rfl,rfl⟩:=hz;dsimp only at hz;refine B8 (fun k (z:C1)=>Tk k z.1∧z.2.1= [] ∧Lv assocs.length k z.2.2.1∧z.2.2.2.1=nm 83 0∧z.2.2.2.2= []) (by omega) ⟨⟨rfl,fun j h=>by omega⟩,rfl,hz,rfl,rfl⟩ (fun k z hk h=> ?_) fun z hz=> ?_
 ·obtain ⟨z1,z2,z3,z4,z5⟩:=z;obtain ⟨ht,rfl,hL,rfl,rfl⟩:=h;dsimp only at ht hL ⊢;have hl:=hL.len;have htl:=ht.1;refine Ba (by rw [wr (by omega)];omega) ?_;rw [wr (show -1000000≤(k:Int)+1∧(k:Int)+1≤1000000 by omega),Td (by omega) (by omega),eA];refine Bo (by simp;omega)<|AN (Q:=fun (z:C1)=>Tk (k+1) z.1∧z.2.1= [] ∧Lv assocs.length (k+1) z.2.2.1∧z.2.2.2.1=nm 83 0∧z.2.2.2.2= []) (Ae (fun hc=> ?_) fun _=>AG ⟨ht.snoc,rfl,hL.up,rfl,rfl⟩) fun _ h=>AG h;have hc:=of_decide_eq_true hc;have hx:=cJ (show k<levels.length by omega);have hb:=g7.2 _ (cZ (show k<levels.length by omega));refine AW hx (Ba (by rw [wr (by omega)];omega) ?_);have hm:0≤levels[k] % ((z3.length:Int)+1)∧levels[k] % ((z3.length:Int)+1) < (z3.length:Int)+1:=⟨dU _ (by omega),dO _ (by omega)⟩;rw [wr (show -1000000≤levels[k] ∧levels[k] ≤1000000 by omega),wr (show -1000000≤(z3.length:Int)+1∧(z3.length:Int)+1≤1000000 by omega),tm hb.1]
  generalize levels[k] % ((z3.length:Int)+1)=q at hm
  refine AN (Q:=fun (z:C1)=>Tk (k+1) z.1∧z.2.1= [] ∧Lv assocs.length (k+1) z.2.2.1∧z.2.2.2.1=nm 83 0∧z.2.2.2.2= []) (Ae (fun hq=> ?_) fun _=>AG ⟨ht.snoc,rfl,hL.up,rfl,rfl⟩) fun _ h=>AG h;have hq:=of_decide_eq_true hq;rw [wr (show -1000000≤q - 1∧q - 1≤1000000 by omega)];have hq':(q - 1).toNat<z3.length:=by omega
  have hy:=cJ hq';have hroom:z3[(q - 1).toNat].2.length≤(FI z3).length:=(List.sublist_flatten_of_mem (List.mem_map_of_mem (cZ hq'))).length_le;have hr:=hL.room;refine DC (by omega) hy (Bo (by simp only [List.length_nil];omega) (Bo (by simp only [List.length_nil,dM,fU];omega) (DC (by omega) hy (Ek (by omega) (by omega) (AG ⟨ht.snoc,rfl,?_,rfl,rfl⟩)))));exact hL.put (by omega) (by omega) hy
 obtain ⟨z1,z2,z3,z4,z5⟩:=z;obtain ⟨hT,rfl,hL,rfl,rfl⟩:=hz;dsimp only at hT hL;have hl:=hL.len;refine B8 (fun k (z:C1)=>z.1=z1∧z.2.1= [] ∧z.2.2.1=z3∧z.2.2.2.1=nm 83 0∧z.2.2.2.2.length=k∧ ∀r∈z.2.2.2.2,Ru1 nt nv assocs.length r) (by omega) ⟨rfl,rfl,rfl,rfl,rfl,by simp⟩ (fun k z hk h=> ?_) fun z hz=> ?_
 ·obtain ⟨y1,y2,y3,y4,y5⟩:=z;obtain ⟨rfl,rfl,rfl,rfl,hlen,hr⟩:=h;dsimp only at hlen hr hl ⊢;have hx:=cJ hk;have hb:=g3.2 _ (cZ hk);have hm:0≤lefts[k] % (nv:Int)∧lefts[k] % (nv:Int) < (nv:Int):=⟨dU _ (by omega),dO _ (by omega)⟩;refine AW hx (Ba (by omega) (AW hx (Ba (by omega) ?_)));rw [wr (show -1000000≤lefts[k] ∧lefts[k] ≤1000000 by omega),tm hb.1]
  generalize lefts[k] % (nv:Int)=q at hm
  rw [wr (show -1000000≤q+1∧q+1≤1000000 by omega)];refine Ba (by omega) ?_;rw [Qp (by omega) (by omega)];refine AN (Q:=fun (x:C8)=>x.2.2.1= {data:=#[]} ∧Ru1 nt nv assocs.length x) (Ae (fun hc=> ?_) fun _=>AG ⟨rfl,⟨q.toNat,by omega,rfl⟩,by simp,by simp,.inl rfl,rfl⟩) fun x hx'=> ?_
  ·have hc:=of_decide_eq_true hc;have hR:=cJ (show k<rights.length by omega);have hRm:=cZ (show k<rights.length by omega);have hR5:=f3 _ hRm;have hRb:=(g4.2 _ hRm).2
   generalize rights[k] =R at hR hR5 hRb
   refine C4 (fun (z:Int×C8)=>0≤z.1∧z.1≤(R.length:Int)∧(z.2.2.1.length:Int)=z.1∧z.2.2.2.1= {data:=#[]} ∧Ru1 nt nv assocs.length z.2) (fun z=>(R.length:Nat) - z.1.toNat) (fun x=>x.2.2.1= {data:=#[]} ∧Ru1 nt nv assocs.length x) ⟨fY _,by dsimp only;omega,rfl,rfl,⟨q.toNat,by omega,rfl⟩,by simp,by simp,.inl rfl,rfl⟩ (fun z hz=> ?_) fun x hx=>AG hx;obtain ⟨i,z⟩:=z;obtain ⟨h0,h1,h2,h3,h4⟩:=hz;dsimp only at h0 h1 h2 h3 h4 ⊢;refine AW hR (Ae (fun hc=> ?_) fun hc=>Bj ⟨h3,h4⟩);have hc:=of_decide_eq_true hc;have hi:i.toNat<R.length:=by omega
   have hy:=cJ hi;have hyb:=hRb _ (cZ hi);refine AW hR (DC h0 hy ?_)
   generalize R[i.toNat] =e at hyb
   rw [wr (show -1000000≤e∧e≤1000000 by omega),wr (show -1000000≤(nt:Int)+(nv:Int)∧(nt:Int)+(nv:Int) ≤1000000 by omega),tm hyb.1];have hm2:0≤e % ((nt:Int)+(nv:Int))∧e % ((nt:Int)+(nv:Int)) < (nt:Int)+(nv:Int):=⟨dU _ (by omega),dO _ (by omega)⟩
   generalize e % ((nt:Int)+(nv:Int))=w at hm2
   rw [tm hm2.1,wr (show -1000000≤w % 5+1∧w % 5+1≤1000000 by omega)];refine Ba (by omega) (Ba (by decide) (Ba (by decide) (Ba (by omega) ?_)));refine AN (Q:=fun x=>(∃i,i<nt∧x=nm 97 i)∨ ∃i,i<nv∧x=nm 83 i) (Ae (fun hw=> ?_) fun hw=>AG ?_) fun x hx=> ?_
   ·have hw:=of_decide_eq_true hw;rw [wr (show -1000000≤w - (nt:Int)∧w - (nt:Int) ≤1000000 by omega),wr (show -1000000≤w - (nt:Int)+1∧w - (nt:Int)+1≤1000000 by omega)];refine Ba (by omega) (AG ?_);rw [Qp (by omega) (by omega)];exact .inr ⟨_,by omega,rfl⟩
   ·have hw:=of_decide_eq_false hw;rw [Td (by omega) (by omega)];exact .inl ⟨_,by omega,rfl⟩
   ·refine Bo (by simp;omega) (CX ⟨⟨?_,?_,?_,h3,⟨h4.left,?_,?_,h4.prec,h4.act⟩⟩,?_⟩)
    ·rw [wr (by omega)];omega
    ·rw [wr (by omega)];omega
    ·rw [wr (by omega),dM];simp;omega
    ·rw [dM];simp;omega
    ·intro x' hx';rcases List.mem_append.1 hx' with h | h
     ·exact h4.right _ h
     ·have:x'=x:=by simpa using h
      subst this;exact hx
    ·rw [wr (by omega)];omega
  ·obtain ⟨hp,hr1⟩:=hx';obtain ⟨x1,x2,x3,x4⟩:=x;dsimp only at hp ⊢;subst hp;refine AN (Q:=Ru1 nt nv assocs.length) (Ae (fun hc=> ?_) fun _=>AG hr1) fun x hx=> ?_
   ·have hc:=of_decide_eq_true hc;have hP:=cJ (show k<precs.length by omega);have hPb:=g5.2 _ (cZ (show k<precs.length by omega));refine AW hP ?_
    generalize precs[k] =e at hPb
    rw [wr (show -1000000≤e∧e≤1000000 by omega),wr (show -1000000≤(y3.length:Int)+1∧(y3.length:Int)+1≤1000000 by omega),tm hPb.1];have hm2:0≤e % ((y3.length:Int)+1)∧e % ((y3.length:Int)+1) < (y3.length:Int)+1:=⟨dU _ (by omega),dO _ (by omega)⟩
    generalize e % ((y3.length:Int)+1)=w at hm2
    refine Ba (by omega)<|AN (Q:=Ru1 nt nv assocs.length) (Ae (fun hw=> ?_) fun _=>AG hr1) fun x hx=>AG hx;have hw:=of_decide_eq_true hw;rw [wr (show -1000000≤w - 1∧w - 1≤1000000 by omega)];refine Ba (by omega) (AG ⟨hr1.left,hr1.few,hr1.right,.inr ⟨(w - 1).toNat,by omega,?_⟩,hr1.act⟩)
    have:=Tc (i:=w - 1) (by omega) (by omega)
    rw [show w - 1+1=w by omega]at this;exact this
   ·refine Bo (by simp;omega) (AG ⟨rfl,rfl,rfl,rfl,by simp [hlen],fun r hr'=> ?_⟩);rcases List.mem_append.1 hr' with h | h
    ·exact hr _ h
    ·have:r=x:=by simpa using h
     subst this;exact hx
 obtain ⟨y1,y2,y3,y4,y5⟩:=z;obtain ⟨rfl,rfl,rfl,rfl,hlen,hr⟩:=hz;dsimp only at hlen hr;refine B8 (fun k (z:C1)=>z.1=y1∧z.2.1= [] ∧z.2.2.1=y3∧z.2.2.2.1=nm 83 0∧z.2.2.2.2.length≤lefts.length+k∧(∀r∈z.2.2.2.2,Ru1 nt nv assocs.length r)∧ ∀v,v<k→ ∃r∈z.2.2.2.2,r.1=nm 83 v) (by omega) ⟨rfl,rfl,rfl,rfl,by dsimp only;omega,hr,fun v hv=>by omega⟩ (fun k z hk h=> ?_) fun z hz=> ?_
 ·obtain ⟨x1,x2,x3,x4,x5⟩:=z;obtain ⟨rfl,rfl,rfl,rfl,h1,h2,h3⟩:=h;dsimp only at h1 h2 h3 ⊢;refine Ba (by rw [wr (by omega)];omega) ?_;rw [wr (show -1000000≤(k:Int)+1∧(k:Int)+1≤1000000 by omega),Qp (by omega) (by omega),eA];refine C4 (fun (z:Int×Bool)=>0≤z.1∧z.1≤(x5.length:Int)∧(z.2=true→ ∃r∈x5,r.1=nm 83 k)) (fun z=>x5.length - z.1.toNat) (fun b=>b=true→ ∃r∈x5,r.1=nm 83 k) ⟨by decide,by dsimp only;omega,by simp⟩ (fun z hz=> ?_) fun b hb=> ?_
  ·obtain ⟨i,b⟩:=z;obtain ⟨j1,j2,j3⟩:=hz;dsimp only at j1 j2 j3 ⊢;refine Ae (fun hc=> ?_) fun hc=>Bj j3;have hc:=of_decide_eq_true hc;have hi:i.toNat<x5.length:=by omega
   have hy:=cJ hi;refine AN (Q:=fun b=>b=true→ ∃r∈x5,r.1=nm 83 k) (Ae (fun hb=>AG fun _=>j3 hb) fun _=>DC j1 hy (AG fun he=> ?_)) fun b' hb'=> ?_
   ·rw [De]at he;exact ⟨_,cZ hi,of_decide_eq_true he⟩
   ·refine CX ⟨⟨?_,?_,hb'⟩,?_⟩
    ·rw [wr (by omega)];omega
    ·rw [wr (by omega)];omega
    ·rw [wr (by omega)];omega
  ·refine AN (Q:=fun (z:C1)=>z.1=x1∧z.2.1= [] ∧z.2.2.1=x3∧z.2.2.2.1=nm 83 0∧z.2.2.2.2.length≤lefts.length+(k+1)∧(∀r∈z.2.2.2.2,Ru1 nt nv assocs.length r)∧ ∀v,v<k+1→ ∃r∈z.2.2.2.2,r.1=nm 83 v) (Ae (fun hc=> ?_) fun hc=>AG ⟨rfl,rfl,rfl,rfl,by dsimp only;omega,h2,fun v hv=> ?_⟩) fun z hz=>AG hz
   ·refine Bo (by simp;omega) (AG ⟨rfl,rfl,rfl,rfl,by dsimp only;rw [dM];simp;omega,fun r hr'=> ?_,fun v hv=> ?_⟩)
    ·rcases List.mem_append.1 hr' with h | h
     ·exact h2 _ h
     ·obtain rfl:=List.mem_singleton.1 h;exact ⟨⟨k,hk,rfl⟩,by simp,by simp,.inl rfl,rfl⟩
    ·rcases Nat.lt_succ_iff_lt_or_eq.1 hv with h | rfl
     ·obtain ⟨r,a,b⟩:=h3 v h;exact ⟨r,eL _ a,b⟩
     ·exact ⟨_,List.mem_append_right _ (List.mem_singleton.2 rfl),rfl⟩
   ·rcases Nat.lt_succ_iff_lt_or_eq.1 hv with h | rfl
    ·exact h3 v h
    ·exact hb (by simpa using hc)
 obtain ⟨x1,x2,x3,x4,x5⟩:=z;obtain ⟨rfl,rfl,rfl,rfl,h1,h2,h3⟩:=hz;dsimp only at h1 h2 h3;exact AG ⟨by omega,by omega,by omega,by omega,by omega,hT,rfl,hL,rfl,h2,h3,by dsimp only;omega⟩
end Go.Proofs.YteolcjbobmpdiaaGreatDoor
namespace Go.Proofs.YteolcjbobmpdiaaGreatDoor
open Go Go.Shelf Go.Proofs
set_option maxRecDepth 100000
def Ax:Ren:=⟨fun x=>bif cD x 125 then 156 else bif cD x 128 then 178 else bif cD x 129 then 179 else bif cD x 189 then 130 else bif cD x 215 then 180 else bif cD x 216 then 187 else bif cD x 257 then 159 else bif cD x 294 then 181 else bif cD x 295 then 182 else bif cD x 296 then 183 else bif cD x 297 then 184 else bif cD x 298 then 185 else bif cD x 299 then 186 else bif cD x 300 then 188 else bif cD x 301 then 189 else bif cD x 328 then 201 else bif cD x 329 then 197 else bif cD x 330 then 198 else bif cD x 331 then 202 else bif cD x 332 then 203 else bif cD x 343 then 210 else 0,fun x=>bif cD x 0 then 0 else bif cD x 3 then 3 else bif cD x 4 then 4 else bif cD x 5 then 5 else bif cD x 9 then 9 else bif cD x 28 then 30 else bif cD x 46 then 244 else bif cD x 51 then 263 else bif cD x 53 then 237 else bif cD x 131 then 186 else bif cD x 182 then 256 else bif cD x 183 then 257 else bif cD x 218 then 275 else bif cD x 222 then 279 else bif cD x 228 then 287 else bif cD x 229 then 288 else 0,fun _=>0⟩
theorem K9:Lays.n189 bW Ax where
 mixed:=by kernel_rfl
 f125:=Tryz.func156.trans (congrArg some (show Tryz.f156=Body.n125 Ax by kernel_rfl))
 f128:=Tryz.func178.trans (congrArg some (show Tryz.f178=Body.n128 Ax by kernel_rfl))
 f129:=Tryz.func179.trans (congrArg some (show Tryz.f179=Body.n129 Ax by kernel_rfl))
 f189:=Tryz.func130.trans (congrArg some (show Tryz.f130=Body.n189 Ax by kernel_rfl))
 f215:=Tryz.func180.trans (congrArg some (show Tryz.f180=Body.n215 Ax by kernel_rfl))
 f216:=Tryz.func187.trans (congrArg some (show Tryz.f187=Body.n216 Ax by kernel_rfl))
 f257:=Tryz.func159.trans (congrArg some (show Tryz.f159=Body.n257 Ax by kernel_rfl))
 f294:=Tryz.func181.trans (congrArg some (show Tryz.f181=Body.n294 Ax by kernel_rfl))
 f295:=Tryz.func182.trans (congrArg some (show Tryz.f182=Body.n295 Ax by kernel_rfl))
 f296:=Tryz.func183.trans (congrArg some (show Tryz.f183=Body.n296 Ax by kernel_rfl))
 f297:=Tryz.func184.trans (congrArg some (show Tryz.f184=Body.n297 Ax by kernel_rfl))
 f298:=Tryz.func185.trans (congrArg some (show Tryz.f185=Body.n298 Ax by kernel_rfl))
 f299:=Tryz.func186.trans (congrArg some (show Tryz.f186=Body.n299 Ax by kernel_rfl))
 f300:=Tryz.func188.trans (congrArg some (show Tryz.f188=Body.n300 Ax by kernel_rfl))
 f301:=Tryz.func189.trans (congrArg some (show Tryz.f189=Body.n301 Ax by kernel_rfl))
 f328:=Tryz.func201.trans (congrArg some (show Tryz.f201=Body.n328 Ax by kernel_rfl))
 f329:=Tryz.func197.trans (congrArg some (show Tryz.f197=Body.n329 Ax by kernel_rfl))
 f330:=Tryz.func198.trans (congrArg some (show Tryz.f198=Body.n330 Ax by kernel_rfl))
 f331:=Tryz.func202.trans (congrArg some (show Tryz.f202=Body.n331 Ax by kernel_rfl))
 f332:=Tryz.func203.trans (congrArg some (show Tryz.f203=Body.n332 Ax by kernel_rfl))
 f343:=Tryz.func210.trans (congrArg some (show Tryz.f210=Body.n343 Ax by kernel_rfl))
 t0:=eD
 a0:=fZ
 z0:=fH
 v0:=eI
 t3:=dR
 a3:=eM
 z3:=eG
 v3:=dV
 t4:=dS
 a4:=eN
 z4:=eH
 v4:=dW
 t5:=fV
 a5:=Tryz.isAgg5
 z5:=Tryz.sizeOf5
 v5:=Tryz.zeroValue5
 t9:=fW
 a9:=Tryz.isAgg9
 z9:=Tryz.sizeOf9
 v9:=Tryz.zeroValue9
 t28:=dP
 a28:=Tryz.isAgg30
 z28:=Tryz.sizeOf30
 v28:=fX
 t46:=eT
 a46:=Tryz.isAgg244
 z46:=Tryz.sizeOf244
 v46:=fI
 t51:=eU
 a51:=Tryz.isAgg263
 z51:=Tryz.sizeOf263
 v51:=fJ
 t53:=eV
 a53:=Tryz.isAgg237
 z53:=Tryz.sizeOf237
 v53:=fK
 t131:=eW
 a131:=Tryz.isAgg186
 z131:=Tryz.sizeOf186
 v131:=fL
 t182:=eX
 a182:=Tryz.isAgg256
 z182:=Tryz.sizeOf256
 v182:=fM
 t183:=eY
 a183:=Tryz.isAgg257
 z183:=Tryz.sizeOf257
 v183:=fN
 t218:=eZ
 a218:=Tryz.isAgg275
 z218:=Tryz.sizeOf275
 v218:=fO
 t222:=fA
 a222:=Tryz.isAgg279
 z222:=Tryz.sizeOf279
 v222:=fP
 t228:=fB
 a228:=Tryz.isAgg287
 z228:=Tryz.sizeOf287
 v228:=fQ
 t229:=fC
 a229:=Tryz.isAgg288
 z229:=Tryz.sizeOf288
 v229:=fR
def DK:Ren:=⟨fun x=>bif cD x 6 then 127 else bif cD x 14 then 155 else bif cD x 15 then 156 else bif cD x 20 then 170 else bif cD x 21 then 171 else bif cD x 22 then 172 else bif cD x 23 then 173 else bif cD x 24 then 174 else bif cD x 25 then 175 else bif cD x 26 then 176 else bif cD x 27 then 177 else bif cD x 28 then 178 else bif cD x 29 then 179 else bif cD x 46 then 196 else bif cD x 47 then 197 else bif cD x 48 then 198 else bif cD x 49 then 199 else bif cD x 50 then 200 else bif cD x 57 then 209 else 0,fun x=>bif cD x 0 then 0 else bif cD x 3 then 3 else bif cD x 4 then 4 else bif cD x 5 then 5 else bif cD x 9 then 9 else bif cD x 22 then 67 else bif cD x 24 then 70 else bif cD x 25 then 216 else bif cD x 39 then 244 else bif cD x 45 then 256 else bif cD x 46 then 257 else bif cD x 50 then 186 else bif cD x 53 then 263 else bif cD x 55 then 237 else bif cD x 66 then 275 else bif cD x 70 then 279 else bif cD x 76 then 287 else bif cD x 77 then 288 else 0,fun _=>0⟩
theorem JK:SlLaysF0.n6 bW DK where
 mixed:=by kernel_rfl
 f6:=⟨ "slices.SortFunc[[]tronage/api.Item,tronage/api.Item]",by decide,Tryz.func127.trans (congrArg some (by kernel_rfl))⟩
 f14:=⟨ "slices.pdqsortCmpFunc[tronage/api.Item]",by decide,Tryz.func155.trans (congrArg some (by kernel_rfl))⟩
 f15:=Tryz.func156.trans (congrArg some (show Tryz.f156=SlBodyF.n15 DK by kernel_rfl))
 f20:=⟨ "slices.insertionSortCmpFunc[tronage/api.Item]",by decide,Tryz.func170.trans (congrArg some (by kernel_rfl))⟩
 f21:=⟨ "slices.heapSortCmpFunc[tronage/api.Item]",by decide,Tryz.func171.trans (congrArg some (by kernel_rfl))⟩
 f22:=⟨ "slices.breakPatternsCmpFunc[tronage/api.Item]",by decide,Tryz.func172.trans (congrArg some (by kernel_rfl))⟩
 f23:=⟨ "slices.choosePivotCmpFunc[tronage/api.Item]",by decide,Tryz.func173.trans (congrArg some (by kernel_rfl))⟩
 f24:=⟨ "slices.reverseRangeCmpFunc[tronage/api.Item]",by decide,Tryz.func174.trans (congrArg some (by kernel_rfl))⟩
 f25:=⟨ "slices.partialInsertionSortCmpFunc[tronage/api.Item]",by decide,Tryz.func175.trans (congrArg some (by kernel_rfl))⟩
 f26:=⟨ "slices.partitionEqualCmpFunc[tronage/api.Item]",by decide,Tryz.func176.trans (congrArg some (by kernel_rfl))⟩
 f27:=⟨ "slices.partitionCmpFunc[tronage/api.Item]",by decide,Tryz.func177.trans (congrArg some (by kernel_rfl))⟩
 f28:=Tryz.func178.trans (congrArg some (show Tryz.f178=SlBodyF.n28 DK by kernel_rfl))
 f29:=Tryz.func179.trans (congrArg some (show Tryz.f179=SlBodyF.n29 DK by kernel_rfl))
 f46:=⟨ "slices.siftDownCmpFunc[tronage/api.Item]",by decide,Tryz.func196.trans (congrArg some (by kernel_rfl))⟩
 f47:=Tryz.func197.trans (congrArg some (show Tryz.f197=SlBodyF.n47 DK by kernel_rfl))
 f48:=Tryz.func198.trans (congrArg some (show Tryz.f198=SlBodyF.n48 DK by kernel_rfl))
 f49:=⟨ "slices.medianAdjacentCmpFunc[tronage/api.Item]",by decide,Tryz.func199.trans (congrArg some (by kernel_rfl))⟩
 f50:=⟨ "slices.medianCmpFunc[tronage/api.Item]",by decide,Tryz.func200.trans (congrArg some (by kernel_rfl))⟩
 f57:=⟨ "slices.order2CmpFunc[tronage/api.Item]",by decide,Tryz.func209.trans (congrArg some (by kernel_rfl))⟩
 t0:=eD
 a0:=fZ
 z0:=fH
 v0:=eI
 t3:=dR
 a3:=eM
 z3:=eG
 v3:=dV
 t4:=dS
 a4:=eN
 z4:=eH
 v4:=dW
 t5:=fV
 a5:=Tryz.isAgg5
 z5:=Tryz.sizeOf5
 v5:=Tryz.zeroValue5
 t9:=fW
 a9:=Tryz.isAgg9
 z9:=Tryz.sizeOf9
 v9:=Tryz.zeroValue9
 t22:=Tryz.underlying67
 a22:=Tryz.isAgg67
 z22:=Tryz.sizeOf67
 v22:=Tryz.zeroValue67
 t25:=Tryz.underlying216
 a25:=Tryz.isAgg216
 z25:=Tryz.sizeOf216
 v25:=Tryz.zeroValue216
 t39:=eT
 a39:=Tryz.isAgg244
 z39:=Tryz.sizeOf244
 v39:=fI
 t45:=eX
 a45:=Tryz.isAgg256
 z45:=Tryz.sizeOf256
 v45:=fM
 t46:=eY
 a46:=Tryz.isAgg257
 z46:=Tryz.sizeOf257
 v46:=fN
 t50:=eW
 a50:=Tryz.isAgg186
 z50:=Tryz.sizeOf186
 v50:=fL
 t53:=eU
 a53:=Tryz.isAgg263
 z53:=Tryz.sizeOf263
 v53:=fJ
 t55:=eV
 a55:=Tryz.isAgg237
 z55:=Tryz.sizeOf237
 v55:=fK
 t66:=eZ
 a66:=Tryz.isAgg275
 z66:=Tryz.sizeOf275
 v66:=fO
 t70:=fA
 a70:=Tryz.isAgg279
 z70:=Tryz.sizeOf279
 v70:=fP
 t76:=fB
 a76:=Tryz.isAgg287
 z76:=Tryz.sizeOf287
 v76:=fQ
 t77:=fC
 a77:=Tryz.isAgg288
 z77:=Tryz.sizeOf288
 v77:=fR
def MJ:Ren:=⟨fun x=>bif cD x 20 then 131 else 0,fun x=>bif cD x 0 then 0 else bif cD x 3 then 3 else bif cD x 4 then 4 else bif cD x 22 then 30 else 0,fun _=>0⟩
theorem LA:Lays2.n20 bW MJ where
 mixed:=by kernel_rfl
 f20:=Tryz.func131.trans (congrArg some (show Tryz.f131=Body2.n20 MJ by kernel_rfl))
 t0:=eD
 a0:=fZ
 z0:=fH
 v0:=eI
 t3:=dR
 a3:=eM
 z3:=eG
 v3:=dV
 t4:=dS
 a4:=eN
 z4:=eH
 v4:=dW
 t22:=dP
 a22:=Tryz.isAgg30
 z22:=Tryz.sizeOf30
 v22:=fX
 i3:=by kernel_rfl
def JL:Ren:=⟨fun x=>bif cD x 122 then 158 else bif cD x 215 then 180 else 0,fun x=>bif cD x 3 then 3 else bif cD x 4 then 4 else 0,fun _=>0⟩
theorem LB:Lays.n122 bW JL where
 mixed:=by kernel_rfl
 f122:=Tryz.func158.trans (congrArg some (show Tryz.f158=Body.n122 JL by kernel_rfl))
 f215:=Tryz.func180.trans (congrArg some (show Tryz.f180=Body.n215 JL by kernel_rfl))
 t3:=dR
 a3:=eM
 z3:=eG
 v3:=dV
 t4:=dS
 a4:=eN
 z4:=eH
 v4:=dW
end Go.Proofs.YteolcjbobmpdiaaGreatDoor
