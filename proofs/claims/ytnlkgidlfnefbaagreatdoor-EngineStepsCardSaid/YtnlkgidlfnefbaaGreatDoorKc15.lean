/- The parts DenR to SimVd, put together. Conditions: each tells its own. -/
import Derived.Test.YtnlkgidlfnefbaaGreatDoorKc3
import Derived.Test.YtnlkgidlfnefbaaGreatDoorProg
import Derived.KernelRfl
import Derived.Test.YtnlkgidlfnefbaaGreatDoorKc5
import Derived.Test.YtnlkgidlfnefbaaGreatDoorKc10
import Derived.Test.YtnlkgidlfnefbaaGreatDoorKc7
import Derived.Test.YtnlkgidlfnefbaaGreatDoorKc9
import Derived.Test.YtnlkgidlfnefbaaGreatDoorKc14
import Derived.Test.YtnlkgidlfnefbaaGreatDoorKc6
import Derived.Test.YtnlkgidlfnefbaaGreatDoorKc8
set_option linter.unusedVariables false
set_option maxRecDepth 100000
set_option maxHeartbeats 4000000
open Go.IntKind renaming wrap → bD
open List renaming getElem?_eq_getElem → bO,length → kJ,getElem_mem → kX,take_of_length_le → lB,mem_of_getElem? → lG
open Go.Proofs.Tryz renaming prog → eE,underlying129 → lJ,underlying146 → lK,underlying147 → lL,underlying150 → lM
open Go.Eng.T renaming out → hA,call → kF,ret → kI,block → kK,join → kQ,loop → kT,brk → kW,sem → lC,store → lQ
open Go.Eng.St renaming cell → hC,freezeRow → kO,cells → kV,openR → lS
open Go.Builtin renaming append_ → hM
open Go.Eng.AY renaming done → kG,next → kL
open Go.Eng.Ro renaming bool → kH,int → kY,list → kZ,SliceIs → lI
open Int renaming toNat_natCast → kU,toNat_of_nonneg → lH,toNat → lN
open Go.Eng.Sub renaming trans → lA
open Nat renaming le_refl → lD,zero_le → lF
open Option renaming bind_some → lO
open Go.Instr renaming makeSlice → lP
open Go.Eng.Rep renaming ro → lR
open Go renaming Addr → lT
open Go.Proofs.Tryz
namespace Go.Proofs.YtnlkgidlfnefbaaGreatDoor
open Go Go.Eng
noncomputable def RL (p_0:Pl6) (f:Int) (shift_2:Int) (b:Option lT) (a d:Nat):T:=iP #[(sv p_0.1),(sv p_0.2.1),(sv p_0.2.2.1),(sv p_0.2.2.2.1),(sv p_0.2.2.2.2.1),(sv p_0.2.2.2.2.2.1)] 32 λM=>iP #[(.int .i64 0),(.int .i64 0)] 91 λc=>iP #[(.int .i64 0),(.int .i64 0)] 91 λe=>jB e 0 1<|jB e 1 shift_2<|kQ [aB] (cond (((a:Nat):Int)==(0:Int)) (hA [(.bool (decide (shift_2< 0)))]) (hA [(.bool false)])) λN=>cond N.1 (jB c 0 0<|jB c 1 0<|jA c 0 λq=>jA c 1 λr=>kI (.tuple #[(.agg #[(.int .i64 q),(.int .i64 r)]),(.bool false)])) (cond (((a:Nat):Int)==(0:Int)) (jA e 0 λt7=>jA e 1 λt8=>jB c 0 t7<|jB c 1 t8<|jA c 0 λs=>jA c 1 λg=>kI (.tuple #[(.agg #[(.int .i64 s),(.int .i64 g)]),(.bool false)])) (kQ [aB] (cond (((a:Nat):Int)==(1:Int)) (hA [(.bool (decide (shift_2< 0)))]) (hA [(.bool false)])) λE=>cond E.1 (deref b λF=>chk (0≤(0:Int)∧(0:Int) < (a:Nat))<|iW F 0 1 λG=>kF 154 [(.int .i64 G)] (.one (.agg [(.int .i64),(.int .i64)])) λt=>jB c 0 t.1<|jB c 1 t.2.1<|jA c 0 λh=>jA c 1 λi=>kI (.tuple #[(.agg #[(.int .i64 h),(.int .i64 i)]),(.bool false)])) (cond (((a:Nat):Int)==(1:Int)) (L6 M λu v w x y z=>jA e 0 λA=>jA e 1 λB=>deref b λH=>chk (0≤(0:Int)∧(0:Int) < (a:Nat))<|iW H 0 1 λI=>kF 154 [(.int .i64 I)] (.one (.agg [(.int .i64),(.int .i64)])) λC=>jV e 0 A<|jV e 1 B<|S6 M u v w x y z<|kF 155 [(aH u v w x y z),(.int .i64 f),(.agg #[(.int .i64 A),(.int .i64 B)]),(.agg #[(.int .i64 C.1),(.int .i64 C.2.1)])] (.tuple [(.agg [(.int .i64),(.int .i64)]),aB]) λj=>jB c 0 j.1.1<|jB c 1 j.1.2.1<|jA c 0 λk=>jA c 1 λl=>kI (.tuple #[(.agg #[(.int .i64 k),(.int .i64 l)]),(.bool j.2.1)])) (cond (decide (shift_2≥ 0)) (jA e 0 λJ=>jA e 1 λK=>jB c 0 J<|jB c 1 K<|jA c 0 λm=>jA c 1 λn=>kI (.tuple #[(.agg #[(.int .i64 m),(.int .i64 n)]),(.bool true)])) (kF 156 [(.slice b a d)] (.one aI) λL=>kF 154 [(.int .i64 L)] (.one (.agg [(.int .i64),(.int .i64)])) λD=>jB c 0 D.1<|jB c 1 D.2.1<|jA c 0 λo=>jA c 1 λp=>kI (.tuple #[(.agg #[(.int .i64 o),(.int .i64 p)]),(.bool true)]))))))
theorem PO (f:Pl6) (e:Int) (d:Int) (a:Option lT) (b c:Nat):AT eE f126 [(aG f),(.int .i64 e),(.int .i64 d),(.slice a b c)] =RL f e d a b c:=by kernel_rfl
noncomputable def Oa (g_0:Option lT) (a:Int) (b:Int):T:=iP #[(.int .i64 0),(.int .i64 0)] 91 λc=>kQ [aB] (kF 84 [(.pointer g_0),(.int .i64 a)] (.one aB) λt3=>cond (!t3) (hA [(.bool true)]) (deref g_0 λq=>M6 q λt5 t6 t7 t8 r k=>kF 85 [(aH t5 t6 t7 t8 r k),(.int .i64 b)] (.one aB) λl=>hA [(.bool (!l))])) λs=>cond s.1 (jB c 0 0<|jB c 1 0<|jA c 0 λd=>jA c 1 λe=>kI (.agg #[(.int .i64 d),(.int .i64 e)])) (deref g_0 λm=>iU m 6 λh=>deref h.1 λn=>chk (0≤a∧a< (h.2.1:Nat))<|iO n a 1 λi=>deref i.1 λj=>chk (0≤b∧b< (i.2.1:Nat))<|iW j b 2 λo=>iZ j b 2 1 λp=>jB c 0 o<|jB c 1 p<|jA c 0 λf=>jA c 1 λg=>kI (.agg #[(.int .i64 f),(.int .i64 g)]))
theorem MZ (c:Option lT) (a:Int) (b:Int):AT eE f46 [(.pointer c),(.int .i64 a),(.int .i64 b)] =Oa c a b:=by kernel_rfl
noncomputable def Ob (g_0:Option lT) (a:Int) (b:Int):T:=deref g_0 λf=>jS f λt2=>kQ [aB] (kF 84 [(.pointer g_0),(.int .i64 a)] (.one aB) λt4=>cond (!t4) (hA [(.bool true)]) (cond (decide ((bD .i64 (b - (t2.2.1:Int))) < 0)) (hA [(.bool true)]) (deref g_0 λg=>iU g 1 λt6=>hA [(.bool (decide ((bD .i64 (b - (t2.2.1:Int))) ≥ (t6.2.1:Int))))]))) λh=>cond h.1 (kI (.int .i64 (-1:Int))) (deref g_0 λi=>iU i 7 λt8=>deref t8.1 λj=>chk (0≤a∧a< (t8.2.1:Nat))<|iO j a 1 λc=>deref c.1 λd=>chk (0≤(bD .i64 (b - (t2.2.1:Int)))∧(bD .i64 (b - (t2.2.1:Int))) < (c.2.1:Nat))<|iW d (bD .i64 (b - (t2.2.1:Int))) 1 λe=>kI (.int .i64 e))
theorem Ma (c:Option lT) (a:Int) (b:Int):AT eE f83 [(.pointer c),(.int .i64 a),(.int .i64 b)] =Ob c a b:=by kernel_rfl
noncomputable def PP (a:Int):T:=iP #[(.int .i64 0),(.int .i64 0)] 91 λb=>cond (a==(0:Int)) (jB b 0 3<|jB b 1 0<|jA b 0 λc=>jA b 1 λd=>kI (.agg #[(.int .i64 c),(.int .i64 d)])) (jB b 0 2<|jB b 1 a<|jA b 0 λe=>jA b 1 λf=>kI (.agg #[(.int .i64 e),(.int .i64 f)]))
theorem NV (a:Int):AT eE f154 [(.int .i64 a)] =PP a:=by kernel_rfl
noncomputable def Tj (p_0:Pl6) (c:Int) (shift_2:Int×Int×Unit) (rule_3:Int×Int×Unit):T:=iP #[(sv p_0.1),(sv p_0.2.1),(sv p_0.2.2.1),(sv p_0.2.2.2.1),(sv p_0.2.2.2.2.1),(sv p_0.2.2.2.2.2.1)] 32 λm=>iP #[(.int .i64 shift_2.1),(.int .i64 shift_2.2.1)] 91 λw=>iP #[(.int .i64 rule_3.1),(.int .i64 rule_3.2.1)] 91 λx=>iP #[(.int .i64 0),(.int .i64 0)] 91 λb=>L6 m λt5 t6 t7 t8 N y=>L6 m λn o p q r s=>jA x 1 λt=>kF 184 [(aH t5 t6 t7 t8 N y),(.int .i64 c)] (.one aI) λa=>jV x 1 t<|S6 m n o p q r s<|kF 185 [(aH n o p q r s),(.int .i64 t)] (.one aI) λd=>kQ [aB] (cond (decide (a≤(0:Int))) (hA [(.bool true)]) (hA [(.bool (decide (d≤(0:Int))))])) λz=>cond z.1 (jA w 0 λA=>jA w 1 λB=>jB b 0 A<|jB b 1 B<|jA b 0 λe=>jA b 1 λf=>kI (.tuple #[(.agg #[(.int .i64 e),(.int .i64 f)]),(.bool true)])) (kK 0 [aB] (kK 3 [aB] (kK 2 [aB] (kK 1 [] (kQ [aB] (cond (d==a) (iN m 4 λu=>deref u.1 λC=>chk (0≤a∧a< (u.2.1:Nat))<|iW C a 1 λD=>hA [(.bool (D==(3:Int)))]) (hA [(.bool false)])) λE=>cond E.1 (kW 1 []) (kQ [aB] (cond (d==a) (iN m 4 λv=>deref v.1 λF=>chk (0≤a∧a< (v.2.1:Nat))<|iW F a 1 λG=>hA [(.bool (G==(1:Int)))]) (hA [(.bool false)])) λH=>cond H.1 (kW 2 [(.bool false)]) (cond (decide (d>a)) (kW 3 [(.bool false)]) (kW 0 [(.bool false)])))) λO=>jB b 0 0<|jB b 1 0<|jA b 0 λg=>jA b 1 λh=>kI (.tuple #[(.agg #[(.int .i64 g),(.int .i64 h)]),(.bool false)])) λI=>hA [(.bool I.1)]) λP=>jA x 0 λJ=>jA x 1 λK=>jB b 0 J<|jB b 1 K<|jA b 0 λi=>jA b 1 λj=>kI (.tuple #[(.agg #[(.int .i64 i),(.int .i64 j)]),(.bool false)])) λQ=>jA w 0 λL=>jA w 1 λM=>jB b 0 L<|jB b 1 M<|jA b 0 λk=>jA b 1 λl=>kI (.tuple #[(.agg #[(.int .i64 k),(.int .i64 l)]),(.bool false)]))
theorem RM (d:Pl6) (c:Int) (a:Int×Int×Unit) (b:Int×Int×Unit):AT eE f155 [(aG d),(.int .i64 c),(.agg #[(.int .i64 a.1),(.int .i64 a.2.1)]),(.agg #[(.int .i64 b.1),(.int .i64 b.2.1)])] =Tj d c a b:=by kernel_rfl
noncomputable def Gl (b:Option lT) (a d:Nat):T:=kQ [] (cond (decide (((a:Nat):Int) < 1)) (T.pan (.iface 9 (.string {data:=#[115,108,105,99,101,115,46,77,105,110,58,32,101,109,112,116,121,32,108,105,115,116]}))) (hA [])) λh=>deref b λe=>chk (0≤(0:Int)∧(0:Int) < (a:Nat))<|iW e 0 1 λt3=>kK 0 [aI,aI] (kT [aI,aI] [(.int .i64 1),(.int .i64 t3)] λc=>cond (decide (c.1< ((a:Nat):Int))) (deref b λf=>chk (0≤c.1∧c.1< (a:Nat))<|iW f c.1 1 λt7=>hA [(.int .i64 (wN c.1)),(.int .i64 (if t7<c.2.1 then t7 else c.2.1))]) (kW 0 [(.int .i64 c.1),(.int .i64 c.2.1)])) λg=>kI (.int .i64 g.2.1)
theorem JY (a:Option lT) (b c:Nat):AT eE f156 [(.slice a b c)] =Gl a b c:=by kernel_rfl
noncomputable def Tl (p_0:Pl6) (g:Option lT) (m:Option lT):T:=iP #[(sv p_0.1),(sv p_0.2.1),(sv p_0.2.2.1),(sv p_0.2.2.2.1),(sv p_0.2.2.2.2.1),(sv p_0.2.2.2.2.2.1)] 32 λl=>L6 l λt2 t3 t4 t5 t6 t7=>iP #[(sv t2),(sv t3),(sv t4),(sv t5),(sv t6),(sv t7),(.slice none 0 0),(.slice none 0 0),(.slice none 0 0)] 149 λb=>kF 32 [(.pointer g)] (.one aI) λF=>kK 0 [aI] (kT [aI] [(.int .i64 0)] λc=>cond (decide (c.1<F)) (iN l 0 λn=>kK 2 [aI,aS] (kT [aI,aS] [(.int .i64 0),(.slice none 0 0)] λe=>cond (decide (e.1< (n.2.1:Int))) (kF 72 [(.pointer (jX b)),(.pointer g),(.pointer m),(.int .i64 c.1),(.int .i64 e.1)] (.one (.agg [(.int .i64),(.int .i64)])) λi=>iP #[(.int .i64 i.1),(.int .i64 i.2.1)] 91 λo=>lC (hM #[150,150] 150 #[(sv e.2.1),(.slice (jX o) 1 1)]) (.one aS) λp=>hA [(.int .i64 (wN e.1)),(sv p)]) (kW 2 [(.int .i64 e.1),(sv e.2.1)])) λj=>iN l 1 λq=>kK 4 [aI,aS] (kT [aI,aS] [(.int .i64 0),(.slice none 0 0)] λf=>cond (decide (f.1< (q.2.1:Int))) (iN l 0 λr=>kF 73 [(.pointer g),(.int .i64 c.1),(.int .i64 (bD .i64 ((r.2.1:Int)+f.1)))] (.one aI) λs=>iP #[(.int .i64 s)] 3 λt=>lC (hM #[30,30] 30 #[(sv f.2.1),(.slice (jX t) 1 1)]) (.one aS) λu=>hA [(.int .i64 (wN f.1)),(sv u)]) (kW 4 [(.int .i64 f.1),(sv f.2.1)])) λh=>iN b 6 λd=>iN b 7 λa=>T.both (iP #[(sv j.2.1)] 150 λk=>jG b 7 a<|jG b 6 d<|T.both (lC (hM #[146,146] 146 #[(sv d),(.slice (jX k) 1 1)]) (.one aS) λv=>jG b 7 a<|iP #[(sv h.2.1)] 30 λw=>jG b 7 a<|lC (hM #[129,129] 129 #[(sv a),(.slice (jX w) 1 1)]) (.one aS) λx=>iR b 6 v<|iR b 7 x<|hA [(.int .i64 (wN c.1))]) (iP #[(sv h.2.1)] 30 λy=>jG b 7 a<|jG b 6 d<|lC (hM #[146,146] 146 #[(sv d),(.slice (jX k) 1 1)]) (.one aS) λz=>jG b 7 a<|lC (hM #[129,129] 129 #[(sv a),(.slice (jX y) 1 1)]) (.one aS) λA=>iR b 6 z<|iR b 7 A<|hA [(.int .i64 (wN c.1))])) (iP #[(sv h.2.1)] 30 λB=>jG b 7 a<|jG b 6 d<|iP #[(sv j.2.1)] 150 λC=>jG b 7 a<|jG b 6 d<|lC (hM #[146,146] 146 #[(sv d),(.slice (jX C) 1 1)]) (.one aS) λD=>jG b 7 a<|lC (hM #[129,129] 129 #[(sv a),(.slice (jX B) 1 1)]) (.one aS) λE=>iR b 6 D<|iR b 7 E<|hA [(.int .i64 (wN c.1))])) (kW 0 [(.int .i64 c.1)])) λG=>kI (.pointer (jX b))
theorem RN (a:Pl6) (b:Option lT) (c:Option lT):AT eE f34 [(aG a),(.pointer b),(.pointer c)] =Tl a b c:=by kernel_rfl
noncomputable def Oc (g_0:Option lT) (a:Int):T:=kQ [aB] (cond (decide (a≥ 0)) (deref g_0 λb=>iU b 6 λt3=>hA [(.bool (decide (a< (t3.2.1:Int))))]) (hA [(.bool false)])) λc=>kI (.bool c.1)
theorem Mb (b:Option lT) (a:Int):AT eE f84 [(.pointer b),(.int .i64 a)] =Oc b a:=by kernel_rfl
noncomputable def P4 (p_0:Pl6) (a:Int):T:=iP #[(sv p_0.1),(sv p_0.2.1),(sv p_0.2.2.1),(sv p_0.2.2.2.1),(sv p_0.2.2.2.2.1),(sv p_0.2.2.2.2.2.1)] 32 λb=>kQ [aB] (cond (decide (a< 0)) (hA [(.bool true)]) (iN b 3 λt3=>hA [(.bool (decide (a≥ (t3.2.1:Int))))])) λc=>cond c.1 (kI (.int .i64 0)) (iN b 3 λt4=>deref t4.1 λd=>chk (0≤a∧a< (t4.2.1:Nat))<|iW d a 1 λt6=>kI (.int .i64 t6))
theorem Od (b:Pl6) (a:Int):AT eE f184 [(aG b),(.int .i64 a)] =P4 b a:=by kernel_rfl
noncomputable def PQ (p_0:Pl6) (a:Int):T:=iP #[(sv p_0.1),(sv p_0.2.1),(sv p_0.2.2.1),(sv p_0.2.2.2.1),(sv p_0.2.2.2.2.1),(sv p_0.2.2.2.2.2.1)] 32 λb=>kQ [aB] (cond (decide (a< 0)) (hA [(.bool true)]) (iN b 2 λt3=>hA [(.bool (decide (a≥ (t3.2.1:Int))))])) λc=>cond c.1 (kI (.int .i64 0)) (iN b 2 λt4=>deref t4.1 λd=>chk (0≤a∧a< (t4.2.1:Nat))<|iZ d a 3 2 λt6=>kI (.int .i64 t6))
theorem NW (b:Pl6) (a:Int):AT eE f185 [(aG b),(.int .i64 a)] =PQ b a:=by kernel_rfl
noncomputable def Mc (g_0:Option lT) (m:Option lT) (h:Option lT) (a:Int) (b:Int):T:=iP #[(.int .i64 0),(.int .i64 0)] 91 λk=>kF 73 [(.pointer m),(.int .i64 a),(.int .i64 b)] (.one aI) λt2=>kF 123 [(.pointer h),(.int .i64 a)] (.one aS) λt3=>kK 0 [aI,aS] (kT [aI,aS] [(.int .i64 0),(.slice none 0 0)] λd=>cond (decide (d.1< (t3.2.1:Int))) (deref t3.1 λF=>chk (0≤d.1∧d.1< (t3.2.1:Nat))<|iW F d.1 1 λt7=>kF 125 [(.pointer h),(.int .i64 a),(.int .i64 t7)] (.one aS) λt8=>kF 124 [(sv t8),(.int .i64 b)] (.one aB) λG=>kQ [aS] (cond G (iP #[(.int .i64 t7)] 3 λn=>lC (hM #[30,30] 30 #[(sv d.2.1),(.slice (jX n) 1 1)]) (.one aS) λo=>hA [(sv o)]) (hA [(sv d.2.1)])) λp=>hA [(.int .i64 (wN d.1)),(sv p.1)]) (kW 0 [(.int .i64 d.1),(sv d.2.1)])) λl=>deref g_0 λq=>M6 q λr s t u v w=>kF 126 [(aH r s t u v w),(.int .i64 b),(.int .i64 t2),(sv l.2.1)] (.tuple [(.agg [(.int .i64),(.int .i64)]),aB]) λe=>iP #[(.int .i64 0),(.int .i64 0)] 91 λc=>jB c 0 e.1.1<|jB c 1 e.1.2.1<|kQ [aB] (cond (decide ((l.2.1.2.1:Int) >(1:Int))) (hA [(.bool true)]) (cond ((l.2.1.2.1:Int)==(1:Int)) (hA [(.bool (decide (t2≥ 0)))]) (hA [(.bool false)]))) λx=>kQ [] (cond x.1 (deref g_0 λi=>iU i 8 λj=>jA c 0 λy=>jA c 1 λz=>iP #[(.int .i64 a),(.int .i64 b),(.int .i64 t2),(sv l.2.1),(.int .i64 y),(.int .i64 z),(.bool e.2.1)] 210 λA=>T.still (i.add 8) (sv j)<|lC (hM #[147,147] 147 #[(sv j),(.slice (jX A) 1 1)]) (.one aS) λB=>deref g_0 λC=>lQ (C.add 8) (sv B)<|hA []) (hA [])) λH=>jA c 0 λD=>jA c 1 λE=>jB k 0 D<|jB k 1 E<|jA k 0 λf=>jA k 1 λg=>kI (.agg #[(.int .i64 f),(.int .i64 g)])
theorem KG (c:Option lT) (d:Option lT) (e:Option lT) (a:Int) (b:Int):AT eE f72 [(.pointer c),(.pointer d),(.pointer e),(.int .i64 a),(.int .i64 b)] =Mc c d e a b:=by kernel_rfl
noncomputable def Md (d:Option lT) (a f:Nat) (e:Option lT) (b g:Nat):T:=cond (((a:Nat):Int) !=((b:Nat):Int)) (kI (.bool false)) (kK 0 [aI,aB] (kT [aI,aB] [(.int .i64 0),(.bool false)] λc=>cond (decide (c.1< ((a:Nat):Int))) (deref d λh=>chk (0≤c.1∧c.1< (a:Nat))<|iW h c.1 1 λt4=>deref e λi=>chk (0≤c.1∧c.1< (b:Nat))<|iW i c.1 1 λt6=>cond (t4 !=t6) (kI (.bool false)) (hA [(.int .i64 (wN c.1)),(.bool c.2.1)])) (kW 0 [(.int .i64 c.1),(.bool c.2.1)])) λj=>kI (.bool true))
theorem KH (a:Option lT) (b c:Nat) (d:Option lT) (e f:Nat):AT eE f38 [(.slice a b c),(.slice d e f)] =Md a b c d e f:=by kernel_rfl
noncomputable def LU (p_0:Pl6):T:=iP #[(sv p_0.1),(sv p_0.2.1),(sv p_0.2.2.1),(sv p_0.2.2.2.1),(sv p_0.2.2.2.2.1),(sv p_0.2.2.2.2.2.1)] 32 λc=>L6 c λt2 t3 t4 t5 t6 t7=>kF 56 [(aH t2 t3 t4 t5 t6 t7)] (.one aS) λt8=>L6 c λE f g h i j=>kF 57 [(aH E f g h i j)] (.one aS) λd=>iN c 0 λk=>kK 0 [aI,aI,aI] (kT [aI,aI,aI] [(.int .i64 (k.2.1:Int)),(.int .i64 0),(.int .i64 0)] λa=>L6 c λl m n o p q=>kF 58 [(aH l m n o p q)] (.one aI) λr=>cond (decide (a.1< (bD .i64 (r - 1)))) (deref t8.1 λs=>chk (0≤a.1∧a.1< (t8.2.1:Nat))<|jR s a.1 1 λt=>cond (!t) (kI (.tuple #[(.int .i64 a.1),(.int .i64 18)])) (hA [(.int .i64 (wN a.1)),(.int .i64 a.2.1),(.int .i64 a.2.2.1)])) (kW 0 [(.int .i64 a.1),(.int .i64 a.2.1),(.int .i64 a.2.2.1)])) λe=>iN c 0 λu=>kK 2 [aI,aI,aI] (kT [aI,aI,aI] [(.int .i64 (u.2.1:Int)),(.int .i64 e.2.1),(.int .i64 e.2.2.1)] λb=>L6 c λv w x y z A=>kF 58 [(aH v w x y z A)] (.one aI) λB=>cond (decide (b.1< (bD .i64 (B - 1)))) (deref d.1 λC=>chk (0≤b.1∧b.1< (d.2.1:Nat))<|jR C b.1 1 λD=>cond (!D) (kI (.tuple #[(.int .i64 b.1),(.int .i64 17)])) (hA [(.int .i64 (wN b.1)),(.int .i64 b.2.1),(.int .i64 b.2.2.1)])) (kW 2 [(.int .i64 b.1),(.int .i64 b.2.1),(.int .i64 b.2.2.1)])) λF=>kI (.tuple #[(.int .i64 0),(.int .i64 0)])
theorem JZ (a:Pl6):AT eE f30 [(aG a)] =LU a:=by kernel_rfl
noncomputable def LV (p_0:Pl6):T:=iP #[(sv p_0.1),(sv p_0.2.1),(sv p_0.2.2.1),(sv p_0.2.2.2.1),(sv p_0.2.2.2.2.1),(sv p_0.2.2.2.2.2.1)] 32 λe=>L6 e λt2 t3 t4 t5 t6 t7=>kF 58 [(aH t2 t3 t4 t5 t6 t7)] (.one aI) λt8=>lC (lP 107 (.int .i64 t8) (.int .i64 t8)) (.one aS) λd=>kK 0 [aI] (kT [aI] [(.int .i64 0)] λc=>iN e 0 λo=>cond (decide (c.1< (o.2.1:Int))) (deref d.1 λp=>chk (0≤c.1∧c.1< (d.2.1:Nat))<|lQ (p.add (lN c.1 *1)) (.bool true)<|hA [(.int .i64 (wN c.1))]) (kW 0 [(.int .i64 c.1)])) λH=>kK 2 [aB] (kT [aB] [(.bool true)] λi=>cond i.1 (kK 4 [aI,aB] (kT [aI,aB] [(.int .i64 0),(.bool false)] λa=>iN e 2 λq=>cond (decide (a.1< (q.2.1:Int))) (kK 6 [aI,aB] (kT [aI,aB] [(.int .i64 0),(.bool true)] λb=>iN e 2 λj=>deref j.1 λr=>chk (0≤a.1∧a.1< (j.2.1:Nat))<|iV r a.1 3 1 λs=>cond (decide (b.1< (s.2.1:Int))) (kQ [aB] (cond b.2.1 (iN e 2 λk=>deref k.1 λt=>chk (0≤a.1∧a.1< (k.2.1:Nat))<|iV t a.1 3 1 λl=>deref l.1 λu=>chk (0≤b.1∧b.1< (l.2.1:Nat))<|iW u b.1 1 λf=>deref d.1 λv=>chk (0≤f∧f< (d.2.1:Nat))<|jR v f 1 λw=>hA [(.bool w)]) (hA [(.bool false)])) λx=>hA [(.int .i64 (wN b.1)),(.bool x.1)]) (kW 6 [(.int .i64 b.1),(.bool b.2.1)])) λy=>kQ [aB] (cond y.2.1 (iN e 2 λm=>deref m.1 λz=>chk (0≤a.1∧a.1< (m.2.1:Nat))<|iW z a.1 3 λg=>deref d.1 λA=>chk (0≤g∧g< (d.2.1:Nat))<|jR A g 1 λB=>hA [(.bool (!B))]) (hA [(.bool false)])) λC=>kQ [aB] (cond C.1 (iN e 2 λn=>deref n.1 λD=>chk (0≤a.1∧a.1< (n.2.1:Nat))<|iW D a.1 3 λh=>deref d.1 λE=>chk (0≤h∧h< (d.2.1:Nat))<|lQ (E.add (lN h *1)) (.bool true)<|hA [(.bool true)]) (hA [(.bool a.2.1)])) λF=>hA [(.int .i64 (wN a.1)),(.bool F.1)]) (kW 4 [(.int .i64 a.1),(.bool a.2.1)])) λG=>hA [(.bool G.2.1)]) (kW 2 [(.bool i.1)])) λI=>kI (sv d)
theorem Ja (a:Pl6):AT eE f56 [(aG a)] =LV a:=by kernel_rfl
noncomputable def Me (p_0:Pl6):T:=iP #[(sv p_0.1),(sv p_0.2.1),(sv p_0.2.2.1),(sv p_0.2.2.2.1),(sv p_0.2.2.2.2.1),(sv p_0.2.2.2.2.2.1)] 32 λd=>L6 d λt2 t3 t4 t5 t6 t7=>kF 58 [(aH t2 t3 t4 t5 t6 t7)] (.one aI) λt8=>lC (lP 107 (.int .i64 t8) (.int .i64 t8)) (.one aS) λc=>L6 d λp q r s t u=>kF 58 [(aH p q r s t u)] (.one aI) λe=>deref c.1 λv=>chk (0≤(bD .i64 (e - 1))∧(bD .i64 (e - 1)) < (c.2.1:Nat))<|lQ (v.add (lN (bD .i64 (e - 1)) *1)) (.bool true)<|kK 0 [aB] (kT [aB] [(.bool true)] λi=>cond i.1 (kK 2 [aI,aB] (kT [aI,aB] [(.int .i64 0),(.bool false)] λa=>iN d 2 λw=>cond (decide (a.1< (w.2.1:Int))) (kK 4 [aI,aB] (kT [aI,aB] [(.int .i64 0),(.bool a.2.1)] λb=>iN d 2 λj=>deref j.1 λx=>chk (0≤a.1∧a.1< (j.2.1:Nat))<|iV x a.1 3 1 λy=>cond (decide (b.1< (y.2.1:Int))) (kQ [aB] (iN d 2 λk=>deref k.1 λz=>chk (0≤a.1∧a.1< (k.2.1:Nat))<|iW z a.1 3 λf=>deref c.1 λA=>chk (0≤f∧f< (c.2.1:Nat))<|jR A f 1 λB=>cond B (iN d 2 λl=>deref l.1 λC=>chk (0≤a.1∧a.1< (l.2.1:Nat))<|iV C a.1 3 1 λm=>deref m.1 λD=>chk (0≤b.1∧b.1< (m.2.1:Nat))<|iW D b.1 1 λg=>deref c.1 λE=>chk (0≤g∧g< (c.2.1:Nat))<|jR E g 1 λF=>hA [(.bool (!F))]) (hA [(.bool false)])) λG=>kQ [aB] (cond G.1 (iN d 2 λn=>deref n.1 λH=>chk (0≤a.1∧a.1< (n.2.1:Nat))<|iV H a.1 3 1 λo=>deref o.1 λI=>chk (0≤b.1∧b.1< (o.2.1:Nat))<|iW I b.1 1 λh=>deref c.1 λJ=>chk (0≤h∧h< (c.2.1:Nat))<|lQ (J.add (lN h *1)) (.bool true)<|hA [(.bool true)]) (hA [(.bool b.2.1)])) λK=>hA [(.int .i64 (wN b.1)),(.bool K.1)]) (kW 4 [(.int .i64 b.1),(.bool b.2.1)])) λL=>hA [(.int .i64 (wN a.1)),(.bool L.2.1)]) (kW 2 [(.int .i64 a.1),(.bool a.2.1)])) λM=>hA [(.bool M.2.1)]) (kW 0 [(.bool i.1)])) λN=>kI (sv c)
theorem KI (a:Pl6):AT eE f57 [(aG a)] =Me a:=by kernel_rfl
noncomputable def LW (p_0:Pl6):T:=iP #[(sv p_0.1),(sv p_0.2.1),(sv p_0.2.2.1),(sv p_0.2.2.2.1),(sv p_0.2.2.2.2.1),(sv p_0.2.2.2.2.2.1)] 32 λa=>iN a 0 λt2=>iN a 1 λt3=>kI (.int .i64 (bD .i64 ((bD .i64 ((t2.2.1:Int)+(t3.2.1:Int)))+(1:Int))))
theorem Jb (a:Pl6):AT eE f58 [(aG a)] =LW a:=by kernel_rfl
section
variable {φ:AD}{h:AH}{F:List Chk}
theorem SZ:R9 eE 107 4 (.bool false):=⟨underlying107,⟨t4,by kernel_rfl,rfl,⟨_,rfl,rfl⟩,by decide⟩⟩
noncomputable def Ba (p_0:As):Option Int:=some (bD .i64 ((bD .i64 ((p_0.1.length:Int)+(p_0.2.1.length:Int)))+1))
theorem CL {i:Pl6}{g:As}(b:Gw φ i g) (j:St φ F h) {r:Int}(hd:Ba g=some r):
 CallsH eE 58 [(aG i)] h (Ae λv k=>∃ψ:AD,∃y:Int,Sub φ ψ∧v=((.one aI):Sh).val y∧y=r∧St ψ F k):=by refine AN mixed func58 (Jb ..) ?_;have c:i.1.2.1=kJ g.1:=b.k0.length;have d:i.2.1.2.1=kJ g.2.1:=b.k1.length;refine Db (t:=i) j λl f a=>AA a rfl<|AA a rfl ?_;obtain rfl:=iS hd;have e:=a.tail;exact AB ⟨φ,(bD .i64 ((bD .i64 ((i.1.2.1:Int)+(i.2.1.2.1:Int)))+(1:Int))),sb,rfl,(by rw[c,d]),e⟩
noncomputable def DO (p_0:As):Option (List Bool):=(Ba p_0).bind λt8=>(GW t8 false).bind λw=>(forS (σ:=List Bool) 0 (p_0.1.length:Int) w λd p=>(Ea p d true).bind λq=>some q).bind λr=>(loop (σ:=(Bool×List Bool)) (β:=List Bool) (true,r) λe=>cond e.1 ((forS (σ:=(Bool×List Bool)) 0 (p_0.2.2.1.length:Int) (false,e.2) λa b=>(loop (σ:=(Int×Bool)) (β:=Bool) (0,true) λc=>(idx p_0.2.2.1 a).bind λf=>cond (decide (c.1< (f.2.1.length:Int))) ((cond c.2 ((idx p_0.2.2.1 a).bind λg=>(idx g.2.1 c.1).bind λh=>(idx b.2 h).bind λi=>some i) (some false)).bind λs=>some (kL ((bD .i64 (c.1+1)),s))) (some (kG c.2))).bind λt=>(cond t ((idx p_0.2.2.1 a).bind λj=>(idx b.2 j.1).bind λk=>some (!k)) (some false)).bind λu=>(cond u ((idx p_0.2.2.1 a).bind λl=>(Ea b.2 l.1 true).bind λm=>some (true,m)) (some (b.1,b.2))).bind λn=>some (n.1,n.2)).bind λo=>some (kL (o.1,o.2))) (some (kG e.2))).bind λv=>some v
theorem Jc {A:Pl6}{B:As}(f:Gw φ A B) (X:St φ F h) {r:(List Bool)}(hd:DO B=some r):
 CallsH eE 56 [(aG A)] h (Ae λv Y=>∃ψ:AD,∃y:Slc,∃a0:List Bool,Sub φ ψ∧v=((.one aS):Sh).val y∧a0=r∧lI kH ψ y a0∧St ψ F Y):=by
 refine AN mixed func56 (Ja ..) ?_;have I:A.1.2.1=kJ B.1:=f.k0.length;have J:A.2.2.1.2.1=kJ B.2.2.1:=f.k2.length;refine Db (t:=A) X λE e2 K=>Bi (t:=A) K ?_;have⟨e3,Z,hd⟩:=bS hd;refine AE (CL f K Z) ?_;rintro _ e4 ⟨L,t8,e5,rfl,rfl,b7⟩;refine⟨t8,rfl,?_⟩;have⟨b8,b9,hd⟩:=bS hd;refine Kk (r:=kH) (x:=false) SZ b7 rfl rfl b9 ?_;intro D e6 ba;have⟨e7,bb,hd⟩:=bS hd;refine Bb bb (λbd y C g=>∃ψ:AD,∃M:List Bool,Sub L ψ∧y.1=bd∧M=g∧St ψ (cR 4 kH D M::Wq2 E A::F) C) ((0:Int),()) rfl ⟨L,b8,sb,rfl,rfl,ba.at1.at1⟩ ?_ ?_ ?_
 ·rintro _ G e8 _ _ ⟨bf,e9,ea,rfl,rfl,o⟩ p ec bg bi;refine AA o.at1 rfl<|Ai (dT I bg) ?_;have⟨bj,N,p⟩:=bS p;have⟨ed,O,bl⟩:=o.there N;refine AF _ O (Am bl (Jq o N rfl O ?_));intro ee bp;obtain rfl:=iS p;exact jZ rfl rfl ⟨bf,bj,sb,bi,rfl,bp.at1.at1⟩
 ·rintro _ G ef ⟨bs,bt,eg,rfl,rfl,P⟩ bw;refine AA P.at1 rfl<|AW (dF I bw)<|AO (kB rfl ⟨_,bs,bt,sb,rfl,rfl,P.at1.at1⟩)
 rintro g4 ek ⟨_,q,bx,el,_,rfl,bz⟩;have⟨c0,c1,hd⟩:=bS hd;refine Av (λy C g=>∃ψ:AD,∃Q:List Bool,Sub q ψ∧Q=g∧St ψ (cR 4 kH D Q::Wq2 E A::F) C) (g:=c0) ?_ ?_
 ·refine FF c1 (λy C g=>∃ψ:AD,∃R:List Bool,Sub q ψ∧(y.1,R)=g∧St ψ (cR 4 kH D R::Wq2 E A::F) C) (true,()) rfl ⟨q,bx,sb,rfl,bz.at1.at1⟩ ?_
  ·rintro g5 em _ _ ⟨s,al,en,rfl,ap⟩ i c2;refine kD i rfl (λi=>?_) (λi=>?_)
   ·have c3:=ap.at1;have⟨eo,c4,i⟩:=bS i;refine Bb c4 (λc5 y C g=>∃ψ:AD,∃S:List Bool,Sub s ψ∧y.1=c5∧(y.2.1,S)=g∧St ψ (cR 4 kH D S::Wq2 E A::F) C) ((0:Int),false,()) rfl ⟨s,al,sb,rfl,rfl,c3.at1⟩ ?_ ?_ ?_
    ·rintro _ H er _ _ ⟨u,k,es,rfl,rfl,b1⟩ j ev c6 c7;refine AA b1.at1 rfl<|Ai (dT J c6) ?_;have⟨c8,c9,j⟩:=bS j;refine Av (λy C g=>∃ψ:AD,Sub u ψ∧y.2.1=g∧St ψ (cR 4 kH D k::Wq2 E A::F) C) (g:=c8) ?_ ?_
     ·refine FF c9 (λy C g=>∃ψ:AD,Sub u ψ∧(y.1,y.2.1)=g∧St ψ (cR 4 kH D k::Wq2 E A::F) C) ((0:Int),true,()) rfl ⟨u,sb,rfl,b1.at1.at1⟩ ?_
      ·rintro g6 ew _ _ ⟨n,ex,rfl,b⟩ c ch;refine AA b.at1 rfl<|ixR Km f.k2 c b λey ez cl c=> ?_;have cm:=cl.length;refine kD c (by rw[cm] <;>rfl) (λc=>?_) (λc=>?_)
       ·have⟨cp,a,c⟩:=bS c;refine Ad (λy C g=>∃ψ:AD,Sub n ψ∧y.1=g∧St ψ (cR 4 kH D k::Wq2 E A::F) C) (g:=cp) ?_ ?_
        ·refine kD a rfl (λa=>?_) (λa=>?_)
         ·refine AA b.at1 rfl<|ixR Km f.k2 a b λf0 f1 cs a=>gx cs a b λf2 a=>gxO b a λcu a=> ?_;exact jY rfl ⟨n,sb,iS a,b.at1.at1⟩
         exact jY rfl ⟨n,sb,iS a,b.at1.at1⟩
        rintro g7 f3 ⟨cw,f4,rfl,cx⟩;obtain rfl:=iS c;exact jZ rfl rfl ⟨cw,sb,rfl,cx.at1.at1⟩
       obtain rfl:=iS c;obtain rfl:=ch _ rfl;exact AO (kB rfl ⟨n,sb,rfl,b.at1.at1⟩)
     rintro g8 f5 ⟨w,f6,rfl,l⟩;have⟨d0,d,j⟩:=bS j;refine Ad (λy C g=>∃ψ:AD,Sub w ψ∧y.1=g∧St ψ (cR 4 kH D k::Wq2 E A::F) C) (g:=d0) ?_ ?_
     ·refine kD d rfl (λd=>?_) (λd=>?_)
      ·refine AA l.at1 rfl<|Rh Vw f.k2 d l λf7 d=>gxO l d λd1 d=> ?_;exact jY rfl ⟨w,sb,iS d,l.at1.at1⟩
      exact jY rfl ⟨w,sb,iS d,l.at1.at1⟩
     rintro g9 f8 ⟨z,f9,rfl,m⟩;have⟨d2,e,j⟩:=bS j;refine Ad (λy C g=>∃ψ:AD,∃T:List Bool,Sub z ψ∧(y.1,T)=g∧St ψ (cR 4 kH D T::Wq2 E A::F) C) (g:=d2) ?_ ?_
     ·refine kD e rfl (λe=>?_) (λe=>?_)
      ·refine AA m.at1 rfl<|Rh Vw f.k2 e m λfa e=> ?_;have⟨d3,U,e⟩:=bS e;have⟨fd,V,d4⟩:=m.there U;refine AF _ V (Am d4 (Jq m U rfl V ?_));intro fl d5;exact jY rfl ⟨z,d3,sb,iS e,d5.at1.at1⟩
      exact jY rfl ⟨z,k,sb,iS e,m.at1.at1⟩
     rintro h0 fn ⟨d6,d7,fo,rfl,d8⟩;obtain rfl:=iS j;exact jZ rfl rfl ⟨d6,d7,sb,c7,rfl,d8.at1.at1⟩
    ·rintro _ H fr ⟨d9,dd,fs,rfl,rfl,W⟩ dg;refine AA W.at1 rfl<|AW (dF J dg)<|AO (kB rfl ⟨_,d9,dd,sb,rfl,rfl,W.at1.at1⟩)
    rintro h1 fv ⟨_,dk,dl,fz,_,rfl,dp⟩;obtain rfl:=iS i;exact jZ rfl rfl ⟨dk,dl,sb,rfl,dp.at1.at1⟩
   obtain rfl:=iS i;obtain rfl:=c2 _ rfl;exact AO (kB rfl ⟨s,al,sb,rfl,ap.at1.at1⟩)
 rintro h2 g0 ⟨g1,ds,g2,rfl,dx⟩;have⟨dy,g3,e0,e1⟩:=kO (t:=D) dx;exact AB ⟨dy,D,ds,sb,rfl,iS hd,e0,e1.tail⟩
noncomputable def DX (p_0:As):Option (List Bool):=(Ba p_0).bind λt8=>(GW t8 false).bind λu=>(Ba p_0).bind λo=>(Ea u (bD .i64 (o - 1)) true).bind λp=>(loop (σ:=(Bool×List Bool)) (β:=List Bool) (true,p) λc=>cond c.1 ((forS (σ:=(Bool×List Bool)) 0 (p_0.2.2.1.length:Int) (false,c.2) λb d=>(loop (σ:=(Int×Bool×List Bool)) (β:=(Bool×List Bool)) (0,d.1,d.2) λa=>(idx p_0.2.2.1 b).bind λq=>cond (decide (a.1< (q.2.1.length:Int))) (((idx p_0.2.2.1 b).bind λr=>(idx a.2.2 r.1).bind λe=>cond e ((idx p_0.2.2.1 b).bind λf=>(idx f.2.1 a.1).bind λg=>(idx a.2.2 g).bind λh=>some (!h)) (some false)).bind λs=>(cond s ((idx p_0.2.2.1 b).bind λi=>(idx i.2.1 a.1).bind λj=>(Ea a.2.2 j true).bind λk=>some (true,k)) (some (a.2.1,a.2.2))).bind λl=>some (kL ((bD .i64 (a.1+1)),l.1,l.2))) (some (kG (a.2.1,a.2.2)))).bind λm=>some (m.1,m.2)).bind λn=>some (kL (n.1,n.2))) (some (kG c.2))).bind λt=>some t
theorem KJ {A:Pl6}{B:As}(e:Gw φ A B) (T:St φ F h) {r:(List Bool)}(hd:DX B=some r):
 CallsH eE 57 [(aG A)] h (Ae λv U=>∃ψ:AD,∃y:Slc,∃q:List Bool,Sub φ ψ∧v=((.one aS):Sh).val y∧q=r∧lI kH ψ y q∧St ψ F U):=by
 refine AN mixed func57 (KI ..) ?_;have s:A.2.2.1.2.1=kJ B.2.2.1:=e.k2.length;refine Db (t:=A) T λE d5 u=>Bi (t:=A) u ?_;have⟨d6,b1,hd⟩:=bS hd;refine AE (CL e u b1) ?_;rintro _ d7 ⟨d8,t8,d9,rfl,rfl,V⟩;refine⟨t8,rfl,?_⟩;have⟨dd,W,hd⟩:=bS hd;refine Kk (r:=kH) (x:=false) SZ V rfl rfl W ?_;intro D dg w;refine Bi (t:=A) w.at1 ?_;have⟨dk,X,hd⟩:=bS hd;refine AE (CL e.up w X) ?_;rintro _ dl ⟨k,H,dp,rfl,rfl,z⟩;refine⟨H,rfl,?_⟩;have⟨Y,a0,hd⟩:=bS hd;have⟨ds,I,Z⟩:=z.there a0;refine AF _ I (Am Z (Jq z a0 rfl I ?_));intro dx b7;have⟨b8,b9,hd⟩:=bS hd;refine Av (λy C g=>∃ψ:AD,∃J:List Bool,Sub k ψ∧J=g∧St ψ (cR 4 kH D J::Wq2 E A::F) C) (g:=b8) ?_ ?_
 ·refine FF b9 (λy C g=>∃ψ:AD,∃K:List Bool,Sub k ψ∧(y.1,K)=g∧St ψ (cR 4 kH D K::Wq2 E A::F) C) (true,()) rfl ⟨k,Y,sb,rfl,b7.at1.at1⟩ ?_
  ·rintro f5 dy _ _ ⟨l,L,e0,rfl,M⟩ f ba;refine kD f rfl (λf=>?_) (λf=>?_)
   ·have bb:=M.at1;have⟨e1,bd,f⟩:=bS f;refine Bb bd (λbf y C g=>∃ψ:AD,∃N:List Bool,Sub l ψ∧y.1=bf∧(y.2.1,N)=g∧St ψ (cR 4 kH D N::Wq2 E A::F) C) ((0:Int),false,()) rfl ⟨l,L,sb,rfl,rfl,bb.at1⟩ ?_ ?_ ?_
    ·rintro _ G e2 _ _ ⟨m,bg,e3,rfl,rfl,O⟩ n e4 bi bj;refine AA O.at1 rfl<|Ai (dT s bi) ?_;have⟨bl,bp,n⟩:=bS n;refine Av (λy C g=>∃ψ:AD,∃P:List Bool,Sub m ψ∧(y.2.1,P)=g∧St ψ (cR 4 kH D P::Wq2 E A::F) C) (g:=bl) ?_ ?_
     ·refine FF bp (λy C g=>∃ψ:AD,∃Q:List Bool,Sub m ψ∧(y.1,y.2.1,Q)=g∧St ψ (cR 4 kH D Q::Wq2 E A::F) C) ((0:Int),G.2.1,()) rfl ⟨m,bg,sb,rfl,O.at1.at1⟩ ?_
      ·rintro f6 e5 _ _ ⟨j,o,e6,rfl,b⟩ c bs;refine AA b.at1 rfl<|ixR Km e.k2 c b λe7 e8 bt c=> ?_;have bw:=bt.length;refine kD c (by rw[bw] <;>rfl) (λc=>?_) (λc=>?_)
       ·have⟨bx,a,c⟩:=bS c;refine Ad (λy C g=>∃ψ:AD,Sub j ψ∧y.1=g∧St ψ (cR 4 kH D o::Wq2 E A::F) C) (g:=bx) ?_ ?_
        ·refine AA b.at1 rfl<|Rh Vw e.k2 a b λe9 a=>gxO b a λea a=>kD a rfl (λa=>?_) (λa=>?_)
         ·refine AA b.at1 rfl<|ixR Km e.k2 a b λec ed bz a=>gx bz a b λee a=>gxO b a λc0 a=> ?_;exact jY rfl ⟨j,sb,iS a,b.at1.at1⟩
         exact jY rfl ⟨j,sb,iS a,b.at1.at1⟩
        rintro f7 ef ⟨p,eg,rfl,i⟩;have⟨c1,d,c⟩:=bS c;refine Ad (λy C g=>∃ψ:AD,∃R:List Bool,Sub p ψ∧(y.1,R)=g∧St ψ (cR 4 kH D R::Wq2 E A::F) C) (g:=c1) ?_ ?_
        ·refine kD d rfl (λd=>?_) (λd=>?_)
         ·refine AA i.at1 rfl<|ixR Km e.k2 d i λek el c2 d=>gx c2 d i λem d=> ?_;have⟨c3,al,d⟩:=bS d;have⟨en,ap,c4⟩:=i.there al;refine AF _ ap (Am c4 (Jq i al rfl ap ?_));intro eo c5;exact jY rfl ⟨p,c3,sb,iS d,c5.at1.at1⟩
         exact jY rfl ⟨p,o,sb,iS d,i.at1.at1⟩
        rintro f8 er ⟨c6,c7,es,rfl,c8⟩;obtain rfl:=iS c;exact jZ rfl rfl ⟨c6,c7,sb,rfl,c8.at1.at1⟩
       obtain rfl:=iS c;obtain rfl:=bs _ rfl;exact AO (kB rfl ⟨j,o,sb,rfl,b.at1.at1⟩)
     rintro f9 ev ⟨c9,ch,ew,rfl,cl⟩;obtain rfl:=iS n;exact jZ rfl rfl ⟨c9,ch,sb,bj,rfl,cl.at1.at1⟩
    ·rintro _ G ex ⟨cm,cp,ey,rfl,rfl,S⟩ cs;refine AA S.at1 rfl<|AW (dF s cs)<|AO (kB rfl ⟨_,cm,cp,sb,rfl,rfl,S.at1.at1⟩)
    rintro g0 ez ⟨_,cu,cw,f0,_,rfl,cx⟩;obtain rfl:=iS f;exact jZ rfl rfl ⟨cu,cw,sb,rfl,cx.at1.at1⟩
   obtain rfl:=iS f;obtain rfl:=ba _ rfl;exact AO (kB rfl ⟨l,L,sb,rfl,M.at1.at1⟩)
 rintro g1 f1 ⟨f2,d0,f3,rfl,d1⟩;have⟨d2,f4,d3,d4⟩:=kO (t:=D) d1;exact AB ⟨d2,D,d0,sb,rfl,iS hd,d3,d4.tail⟩
noncomputable def DP (p_0:As):Option (Int×Int):=
 (DO p_0).bind λt8=>
 (DX p_0).bind λe=>
 (loop (σ:=Int) (β:=AY Unit (Int×Int)) (p_0.1.length:Int) λa=>
  (Ba p_0).bind λf=>
  cond (decide (a< (bD .i64 (f - 1))))
  ((idx t8 a).bind λg=>
   cond (!g)
   (some (kG (kG (a,18))))
   (some (kL (bD .i64 (a+1)))))
  (some (kG (kL ())))).bind λc=>match c with
 |.next l=>
  (loop (σ:=Int) (β:=AY Unit (Int×Int)) (p_0.1.length:Int) λb=>
   (Ba p_0).bind λh=>
   cond (decide (b< (bD .i64 (h - 1))))
   ((idx e b).bind λi=>
    cond (!i)
    (some (kG (kG (b,17))))
    (some (kL (bD .i64 (b+1)))))
   (some (kG (kL ())))).bind λd=>match d with
  |.next m=>
   some (0,0)
  |.done j=>some j
 |.done k=>some k
theorem Jd {A:Pl6}{B:As}(c:Gw φ A B) (L:St φ F h) {r:(Int×Int)}(hd:DP B=some r):
 CallsH eE 30 [(aG A)] h (Ae λv M=>∃ψ:AD,∃y:Int×Int×Unit,Sub φ ψ∧v=((.tuple [aI,aI]):Sh).val y∧(y.1,y.2.1)=r∧St ψ F M):=by
 refine AN mixed func30 (JZ ..) ?_;have l:A.1.2.1=kJ B.1:=c.k0.length;refine Db (t:=A) L λE X m=>Bi (t:=A) m ?_;have⟨al,x,hd⟩:=bS hd;refine AE (Jc c m x) ?_;rintro _ ap ⟨Y,t8,b1,Z,rfl,rfl,z,n⟩;refine⟨t8,rfl,?_⟩;refine Bi (t:=A) n ?_;have⟨b3,a0,hd⟩:=bS hd;refine AE (KJ c.up n a0) ?_;rintro _ b4 ⟨f,G,b5,b6,rfl,rfl,N,o⟩;refine⟨G,rfl,?_⟩;refine AA o rfl ?_;have⟨O,P,hd⟩:=bS hd;refine Av (λy C g=>∃ψ:AD,Sub f ψ∧kL ()=g∧St ψ (Wq2 E A::F) C) (g:=O) ?_ ?_
 ·refine FF P (λy C g=>∃ψ:AD,Sub f ψ∧y.1=g∧St ψ (Wq2 E A::F) C) ((A.1.2.1:Int),(0:Int),(0:Int),()) rfl ⟨f,sb,(by rw[l]),o⟩ ?_
  ·rintro H b7 _ _ ⟨b8,b9,rfl,p⟩ a q;refine Bi (t:=A) p ?_;have⟨ba,Q,a⟩:=bS a;refine AE (CL c.up p Q) ?_;rintro _ bb ⟨i,I,bd,rfl,rfl,d⟩;refine⟨I,rfl,?_⟩;refine kD a rfl (λa=>?_) (λa=>?_)
   ·refine gx z a d λbf a=>kD a rfl (λa=>?_) (λa=>?_)
    ·obtain rfl:=iS a;obtain rfl:=q _ rfl;obtain rfl:=iS hd;exact Ak (Al (AB ⟨i,(H.1,(18:Int),()),sb,rfl,rfl,d.tail⟩))
    obtain rfl:=iS a;exact jZ rfl rfl ⟨i,sb,rfl,d⟩
   obtain rfl:=iS a;obtain rfl:=q _ rfl;exact AO (kB rfl ⟨i,sb,rfl,d⟩)
 rintro D bg ⟨j,bi,rfl,s⟩;refine AA s rfl ?_;have⟨R,S,hd⟩:=bS hd;refine Av (λy C g=>∃ψ:AD,Sub j ψ∧kL ()=g∧St ψ (Wq2 E A::F) C) (g:=R) ?_ ?_
 ·refine FF S (λy C g=>∃ψ:AD,Sub j ψ∧y.1=g∧St ψ (Wq2 E A::F) C) ((A.1.2.1:Int),D.2.1,D.2.2.1,()) rfl ⟨j,sb,(by rw[l]),s⟩ ?_
  ·rintro J bj _ _ ⟨bl,bp,rfl,u⟩ b w;refine Bi (t:=A) u ?_;have⟨bs,T,b⟩:=bS b;refine AE (CL c.up u T) ?_;rintro _ bt ⟨k,K,bw,rfl,rfl,e⟩;refine⟨K,rfl,?_⟩;refine kD b rfl (λb=>?_) (λb=>?_)
   ·refine gx N b e λbx b=>kD b rfl (λb=>?_) (λb=>?_)
    ·obtain rfl:=iS b;obtain rfl:=w _ rfl;obtain rfl:=iS hd;exact Ak (Al (AB ⟨k,(J.1,(17:Int),()),sb,rfl,rfl,e.tail⟩))
    obtain rfl:=iS b;exact jZ rfl rfl ⟨k,sb,rfl,e⟩
   obtain rfl:=iS b;obtain rfl:=w _ rfl;exact AO (kB rfl ⟨k,sb,rfl,e⟩)
 rintro U bz ⟨V,c0,rfl,W⟩;exact AB ⟨V,((0:Int),(0:Int),()),sb,rfl,iS hd,W.tail⟩
end
end Go.Proofs.YtnlkgidlfnefbaaGreatDoor
namespace Go.Proofs.YtnlkgidlfnefbaaGreatDoor
open Go Go.Eng Dg
section
variable {p:dtP}
theorem RO (S:Sy p):Ba p=some ((p.1.length+p.2.1.length+1:Nat):Int):=by have a:=S.t1;have b:=S.v1;unfold Ba;congr 1;rw[w64 (n:=(p.1.length:Int)+(p.2.1.length:Int)) (by omega) (by omega),w64 (by omega) (by omega)];omega
def CR (l:List Bool):Nat:=l.countP λb=> !b
theorem RP {l:List Bool}{i:Nat}(h:l[i]? =some false):CR (l.set i true)+1=CR l:=Iu h
theorem XY {l:List Bool}{i j:Nat}(h:(l.set i true)[j]? =some true):j=i∨l[j]? =some true:=by
 rw[List.getElem?_set]at h;split at h
 ·rename_i e;exact .inl e.symm
 ·exact .inr h
theorem am (S:Sy p):Ok (DO p) λl=>l.length=p.1.length+p.2.1.length+1∧ ∀s:Nat,l[s]? =some true→Pro (nT p) p.2.2.1 (s:Int):=by
 have U:=S.t1;have V:=S.v1;have W:=S.few;have M:nT p=(p.1.length:Int):=rfl;unfold DO;refine AJ (x:=((p.1.length+p.2.1.length+1:Nat):Int)) (RO S) (AJ (x:=List.replicate (p.1.length+p.2.1.length+1) false) (by unfold GW;rw[if_pos ⟨by omega,by omega⟩,kU]) ?_);refine B0 (λk (l:List Bool)=>l.length=p.1.length+p.2.1.length+1∧ ∀s:Nat,l[s]? =some true→s<k) (by omega) ⟨by simp,λs h=> ?_⟩ (λk l C i=> ?_) λl i=> ?_
 ·rw[List.getElem?_replicate]at h;split at h<;>simp at h
 ·refine JN (by omega) (by omega) (AC ⟨by simp[i.1],λs h=> ?_⟩);rw[kU]at h;rcases XY h with h | h
  ·omega
  ·have:=i.2 s h;omega
 ·obtain⟨l1,N⟩:=i;refine E8 (λ(z:Bool×List Bool)=>z.2.length=p.1.length+p.2.1.length+1∧ ∀s:Nat,z.2[s]? =some true→Pro (nT p) p.2.2.1 (s:Int)) (λz=>CR z.2 *2+(if z.1 then 1 else 0)) (λl=>l.length=p.1.length+p.2.1.length+1∧ ∀s:Nat,l[s]? =some true→Pro (nT p) p.2.2.1 (s:Int)) ⟨l1,λs h=>.term (by omega) (by have:=N s h;omega)⟩ (λz d=> ?_) λl i=>AC i;obtain⟨c,m⟩:=z;obtain⟨D,E⟩:=d;dsimp only at D E ⊢;refine Af (λe=> ?_) λe=>B9 ⟨D,E⟩;subst e;refine B0 (λk (z:Bool×List Bool)=>z.2.length=p.1.length+p.2.1.length+1∧(∀s:Nat,z.2[s]? =some true→Pro (nT p) p.2.2.1 (s:Int))∧CR z.2≤CR m∧(z.1=true→CR z.2<CR m)) (by omega) ⟨D,E,lD _,by simp⟩ (λk z C d=> ?_) λz d=>Ck ⟨⟨d.1,d.2.1⟩,?_⟩
  ·obtain⟨g,w⟩:=z;obtain⟨F,t,u,n⟩:=d;dsimp only at F t u n ⊢;have o:=bO C;have a:=kX C;obtain⟨r,G⟩:∃r,p.2.2.1[k] =r:=⟨_,rfl⟩;rw[G]at o a;have X:=S.left r a;have O:=S.right r a;have Y:=S.short r a;refine E8 (λ(z:Int×Bool)=>∃j:Nat,z.1=(j:Int)∧j≤r.2.1.length∧(z.2=true→ ∀s∈r.2.1.take j,Pro (nT p) p.2.2.1 s)) (λz=>r.2.1.length - z.1.toNat) (λb=>b=true→ ∀s∈r.2.1,Pro (nT p) p.2.2.1 s) ⟨0,rfl,lF _,by simp⟩ (λz d=> ?_) λb v=> ?_
   ·obtain⟨Z,b⟩:=z;obtain⟨j,J,h2,y⟩:=d;dsimp only at J y ⊢;subst J;refine AX o (Af (λe=> ?_) λe=>B9 ?_)
    ·have f:j<r.2.1.length:=by have:=of_decide_eq_true e;omega
     have K:=bO f;have A:=O _ (kX f);refine AP (Q:=λL=>L=true→ ∀s∈r.2.1.take (j+1),Pro (nT p) p.2.2.1 s) (Af (λv=> ?_) λv=>AC (by simp)) λL H=> ?_
     ·have B:(r.2.1[j]).toNat<w.length:=by omega
      refine AX o (AX K (Ep A.1 (bO B) (AC λP s I=> ?_)));rcases(BY K).1 I with h | rfl
      ·exact y v s h
      ·have:=t _ (by rw[bO B,P])
       rwa [lH A.1]at this
     ·refine Ck ⟨⟨j+1,by rw[w64 (by omega) (by omega)];omega,f,H⟩,?_⟩;rw[w64 (by omega) (by omega)];omega
    ·have:j=r.2.1.length:=by have:=of_decide_eq_false e;omega
     subst this;rw[lB (lD _)]at y;exact y
   ·have B:r.1.toNat<w.length:=by omega
    have q:=bO B;refine AP (Q:=λc=>c=true→b=true∧w[r.1.toNat]? =some false) (Af (λh=>AX o (Ep (by omega) q (AC λR=>⟨h,by rw[q];simpa using R⟩))) λh=>AC (by simp)) λc e=>AP (Q:=λ(z:Bool×List Bool)=>z.2.length=p.1.length+p.2.1.length+1∧(∀s:Nat,z.2[s]? =some true→Pro (nT p) p.2.2.1 (s:Int))∧CR z.2≤CR m∧(z.1=true→CR z.2<CR m)) (Af (λh=> ?_) λh=>AC ⟨F,t,u,n⟩) λz d=>AC d;have⟨c1,c2⟩:=e h;have T:=RP c2;refine AX o (JN (by omega) (by omega) (AC ⟨by simp[F],λs A=> ?_,by dsimp only;omega,λ_=>by dsimp only;omega⟩));rcases XY A with rfl | h
    ·rw[lH (by omega)];exact .rule a (v c1)
    ·exact t s h
  ·obtain⟨_,_,u,n⟩:=d;obtain⟨g,w⟩:=z;dsimp only at u n ⊢;cases g with
   |true=>have:=n rfl;simp;omega
   |false=>simp;omega
theorem dU (S:Sy p):Ok (DX p) λl=>l.length=p.1.length+p.2.1.length+1:=by
 have M:=S.t1;have N:=S.v1;have O:=S.few;have D:nT p=(p.1.length:Int):=rfl;unfold DX;refine AJ (x:=((p.1.length+p.2.1.length+1:Nat):Int)) (RO S) (AJ (x:=List.replicate (p.1.length+p.2.1.length+1) false) (by unfold GW;rw[if_pos ⟨by omega,by omega⟩,kU]) (AJ (x:=((p.1.length+p.2.1.length+1:Nat):Int)) (RO S) ?_));have E:bD .i64 (((p.1.length+p.2.1.length+1:Nat):Int) - 1)=((p.1.length+p.2.1.length:Nat):Int):=by rw[w64 (by omega) (by omega)];omega
 rw[E];refine JN (by omega) (by simp;omega)<|E8 (λ(z:Bool×List Bool)=>z.2.length=p.1.length+p.2.1.length+1) (λz=>CR z.2 *2+(if z.1 then 1 else 0)) (λl=>l.length=p.1.length+p.2.1.length+1) (by simp) (λz d=> ?_) λl F=>AC F;obtain⟨c,m⟩:=z;dsimp only at d ⊢;refine Af (λe=> ?_) λe=>B9 d;subst e;refine B0 (λk (z:Bool×List Bool)=>z.2.length=p.1.length+p.2.1.length+1∧CR z.2≤CR m∧(z.1=true→CR z.2<CR m)) (by omega) ⟨d,lD _,by simp⟩ (λk z v d=> ?_) λz d=>Ck ⟨d.1,?_⟩
 ·obtain⟨g,w⟩:=z;have i:=bO v;have a:=kX v;obtain⟨r,q⟩:∃r,p.2.2.1[k] =r:=⟨_,rfl⟩;rw[q]at i a;have P:=S.left r a;have G:=S.right r a;have R:=S.short r a;refine E8 (λ(z:Int×Bool×List Bool)=>∃j:Nat,z.1=(j:Int)∧j≤r.2.1.length∧z.2.2.length=p.1.length+p.2.1.length+1∧CR z.2.2≤CR m∧(z.2.1=true→CR z.2.2<CR m)) (λz=>r.2.1.length - z.1.toNat) (λ(z:Bool×List Bool)=>z.2.length=p.1.length+p.2.1.length+1∧CR z.2≤CR m∧(z.1=true→CR z.2<CR m)) ⟨0,rfl,lF _,d⟩ (λz d=> ?_) λb H=>AC H;obtain⟨T,b,w⟩:=z;obtain⟨j,y,U,o,s,t⟩:=d;dsimp only at y o s t ⊢;subst y;refine AX i (Af (λe=> ?_) λe=>B9 ⟨o,s,t⟩);have f:j<r.2.1.length:=by have:=of_decide_eq_true e;omega
  have A:=bO f;have B:=G _ (kX f);have I:r.1.toNat<w.length:=by omega
  have u:(r.2.1[j]).toNat<w.length:=by omega
  have n:=bO u;refine AP (Q:=λc=>c=true→w[(r.2.1[j]).toNat]? =some false) (AX i (Ep (by omega) (bO I) (Af (λh=>AX i (AX A (Ep B.1 n (AC λJ=>by rw[n];simpa using J)))) λh=>AC (by simp)))) λc e=> ?_;refine AP (Q:=λ(z:Bool×List Bool)=>z.2.length=p.1.length+p.2.1.length+1∧CR z.2≤CR m∧(z.1=true→CR z.2<CR m)) (Af (λh=> ?_) λh=>AC ⟨o,s,t⟩) λz d=> ?_
  ·have K:=RP (e h);exact AX i (AX A (JN B.1 (by omega) (AC ⟨by simp[o],by dsimp only;omega,λ_=>by dsimp only;omega⟩)))
  ·refine Ck ⟨⟨j+1,by rw[w64 (by omega) (by omega)];omega,f,d⟩,?_⟩;rw[w64 (by omega) (by omega)];omega
 ·obtain⟨_,L,C⟩:=d;obtain⟨g,w⟩:=z;dsimp only at L C ⊢;cases g with
  |true=>have:=C rfl;simp;omega
  |false=>simp;omega
theorem an (S:Sy p):Ok (DP p) λr=>r.2=0→ ∀v:Nat,v<p.2.1.length→Pro (nT p) p.2.2.1 ((p.1.length+v:Nat):Int):=by
 have u:=S.t1;have w:=S.v1;unfold DP;refine AP (am S) λl q=>AP (dU S) λl' e=> ?_;obtain⟨l1,s⟩:=q;have l1:l.length=p.1.length+p.2.1.length+1:=l1;have e:l'.length=p.1.length+p.2.1.length+1:=e;have n:bD .i64 (((p.1.length+p.2.1.length+1:Nat):Int) - 1)=((p.1.length+p.2.1.length:Nat):Int):=by rw[w64 (by omega) (by omega)];omega
 refine E8 (λz=>∃k:Nat,z=((p.1.length+k:Nat):Int)∧k≤p.2.1.length∧ ∀v,v<k→l[p.1.length+v]? =some true) (λz=>p.1.length+p.2.1.length - z.toNat)
  (λb=>(∃z,b= .done (z,18))∨(b= .next ()∧ ∀v,v<p.2.1.length→l[p.1.length+v]? =some true)) ⟨0,rfl,lF _,λv a=>by omega⟩ (λz g=> ?_) λb j=> ?_
 ·obtain⟨k,rfl,t,o⟩:=g;refine AJ (x:=((p.1.length+p.2.1.length+1:Nat):Int)) (RO S) ?_;rw[n];refine Af (λd=> ?_) λd=>B9 (.inr ⟨rfl,λv a=>o v (by have:=of_decide_eq_false d;omega)⟩);have c:k<p.2.1.length:=by have:=of_decide_eq_true d;omega
  have f:=bO (l:=l) (i:=p.1.length+k) (by omega);refine AX f (Af (λh=>B9 (.inl ⟨_,rfl⟩)) λh=>Ck ⟨⟨k+1,by rw[w64 (by omega) (by omega)];omega,c,λv a=> ?_⟩,?_⟩)
  ·rcases Nat.lt_succ_iff_lt_or_eq.1 a with a | rfl
   ·exact o v a
   ·rw[f]
    have:l[p.1.length+v] =true:=by simpa using h
    rw[this]
  ·rw[w64 (by omega) (by omega)];omega
 ·rcases j with⟨z,rfl⟩|⟨rfl,j⟩
  ·exact AC λh=>by simp at h
  ·refine E8 (λz=>∃k:Nat,z=((p.1.length+k:Nat):Int)∧k≤p.2.1.length) (λz=>p.1.length+p.2.1.length - z.toNat)
    (λb=>(∃z,b= .done (z,17))∨b= .next ()) ⟨0,rfl,lF _⟩ (λz g=> ?_) λb m=> ?_
   ·obtain⟨k,rfl,t⟩:=g;refine AJ (x:=((p.1.length+p.2.1.length+1:Nat):Int)) (RO S) ?_;rw[n];refine Af (λd=> ?_) λd=>B9 (.inr rfl);have c:k<p.2.1.length:=by have:=of_decide_eq_true d;omega
    have f:=bO (l:=l') (i:=p.1.length+k) (by omega);refine AX f (Af (λh=>B9 (.inl ⟨_,rfl⟩)) λh=>Ck ⟨⟨k+1,by rw[w64 (by omega) (by omega)];omega,c⟩,?_⟩);rw[w64 (by omega) (by omega)];omega
   ·rcases m with⟨z,rfl⟩|rfl
    ·exact AC λh=>by simp at h
    ·exact AC λ_ v a=>s _ (j v a)
end
structure MkI (p:dtP) (B:List dtK) (E:List (List Edge)) (d:LkD) (tt:Int):Prop where
 all:EF p B E d.fa
 dp:d.p=p
 dA:d.A=Be p B E tt
 lk:fi p B E d.L
theorem eJ {e f:Nat}{p:dtP}(H:Pl e f p):Sy p:=by
 have j:=H.terms.len;have l:=H.nt5;have m:=H.vars;have n:=H.room;have g:nT p=(p.1.length:Int):=rfl;obtain⟨st,s1,o,i⟩:=H.first;have a:∀r∈p.2.2.1,(nT p≤r.1∧r.1≤nT p+(p.2.1.length:Int))∧(∀s∈r.2.1,0≤s∧s<nT p+(p.2.1.length:Int))∧r.2.1.length≤1000:=λr b=>by
  obtain⟨k,c⟩:=List.getElem?_of_mem b;rcases Nat.eq_zero_or_pos k with rfl | h
  ·rw[i]at c;cases c;refine⟨⟨by dsimp only;omega,by dsimp only;omega⟩,λs d=> ?_,by simp⟩
   have:s=st:=by simpa using d
   omega
  ·have:=H.rules k r h c
   have q:=this.left;refine⟨⟨by omega,by omega⟩,λs d=> ?_,by have:=this.few;omega⟩
   have:=this.right s d
   omega
 exact⟨by omega,by omega,by omega,λr b=>(a r b).1,λr b=>(a r b).2.1,λr b=>(a r b).2.2⟩
theorem ao {b c:Nat}{p:dtP}(H:Pl b c p) (d:∀v:Nat,v<p.2.1.length→Pro (nT p) p.2.2.1 ((p.1.length+v:Nat):Int)) {B:List dtK}{E:List (List Edge)}(e:Fin p B E) (f:B.length≤300) {fa:dtF}(a:aK p fa):EF p B E fa:=by have i:=H.terms.len;have j:=H.vars;have g:nT p=(p.1.length:Int):=rfl;obtain⟨st,s1,k,h⟩:=H.first;refine⟨H.vp,eJ H,e,gZ H d,f,by omega,a,st,?_⟩;rw[h];congr 2;omega
def Co (R:Rl) (l:List Item):List Int:=(l.filter λx=>match R[x.1.toNat]? with
 |some r=>x.2==(r.2.1.length:Int)
 |none=>false).map (·.1)
section
variable {p:dtP}{B:List dtK}{E:List (List Edge)}{d:LkD}{tt:Int}
theorem Sa (R:Rl) (l:List Item):(Co R l).length≤l.length:=by unfold Co;rw[List.length_map];exact List.length_filter_le _ _
theorem WY {R:Rl}{l:List Item}{x:Item}{r:BM}(h:R[x.1.toNat]? =some r):Co R (l++ [x])=if x.2=(r.2.1.length:Int) then Co R l++ [x.1] else Co R l:=by
 unfold Co;rw[List.filter_append,List.map_append];by_cases e:x.2=(r.2.1.length:Int)
 ·rw[if_pos e];simp[h,e]
 ·rw[if_neg e];simp[h,e]
theorem Ye (M:MkI p B E d tt) {n:Nat}{b:dtK}(h:B[n]? =some b):QK (some d) (n:Int)=some (Co p.2.2.1 b.2.1):=by
 obtain⟨a,u,fa,steps,L⟩:=d;obtain⟨H,i,j,m⟩:=M;dsimp only at H i j m;subst i;subst j;have⟨v,o,w,y,A⟩:=H.fin.good H.vp h;refine Ok.eq ?_;unfold QK EE;rw[lO];refine AJ (Uy H.vp H.fin h)<|B0 (λk (z:List Int)=>z=Co a.2.2.1 (b.2.1.take k)) (by omega) (by simp[Co]) (λk z q c=> ?_) λz c=>AC ?_
 ·subst c;have e:=bO q;obtain⟨x,f⟩:∃x,b.2.1[k] =x:=⟨_,rfl⟩;rw[f]at e;have⟨x0,x1,r,l,s⟩:=o.ok x (lG e);have hd:(Co a.2.2.1 (b.2.1.take k)).length≤10100:=by
   have:=Sa a.2.2.1 (b.2.1.take k)
   rw[List.length_take]at this;omega
  refine AX e (Ep x0 l ?_);have t:b.2.1.take (k+1)=b.2.1.take k++ [x]:=by rw[List.take_add_one,e];rfl
  rw[t,WY l];refine AP (Q:=λz=>z=if x.2=(r.2.1.length:Int) then Co a.2.2.1 (b.2.1.take k) ++ [x.1] else Co a.2.2.1 (b.2.1.take k)) (Af (λg=> ?_) λg=>AC ?_) λz c=>AC c
  ·rw[if_pos (eq_of_beq g)];exact BL (by simp;omega) (AC rfl)
  ·rw[if_neg (by simpa using g)]
 ·subst c;rw[lB (lD _)]
theorem VE (M:MkI p B E d tt) {n:Nat}{b:dtK}(f:B[n]? =some b) {k:Int}:k∈Co p.2.2.1 b.2.1↔∃(a:Nat) (r:BM),k=(a:Int)∧p.2.2.1[a]? =some r∧It p.2.2.1 (KB B) n a r.2.1.length:=by
 have H:=M.all;have⟨o,i,q,s,t⟩:=H.fin.good H.vp f;unfold Co;rw[List.mem_map];constructor
 ·rintro⟨x,j,rfl⟩;have⟨g,h⟩:=List.mem_filter.1 j;have⟨x0,x1,r,c,l⟩:=i.ok x g;rw[c]at h;refine⟨x.1.toNat,r,by omega,c,?_⟩;have e:x=((x.1.toNat:Int),(r.2.1.length:Int)):=Prod.ext (by simp only;omega) (eq_of_beq h);unfold It;rw[←e];exact(GK H.vp H.fin f x).1 g
 ·rintro⟨a,r,rfl,c,m⟩;refine⟨((a:Int),(r.2.1.length:Int)),List.mem_filter.2 ⟨(GK H.vp H.fin f _).2 m,?_⟩,rfl⟩;dsimp only;rw[kU,c];simp
theorem XZ (M:MkI p B E d tt) {s k:Nat}(g:k<p.2.2.1.length):Ok (SW (some d) (s:Int) (k:Int)) λt=>(∀j,j∈t↔Lk (nT p) p.2.2.1 (KB B) (TrB p B E) s k j)∧t.length≤64000:=by
 obtain⟨m,n,fa,steps,L⟩:=d;obtain⟨H,a,b,f⟩:=M;dsimp only at H a b f;subst a;subst b;unfold SW;rw[lO];dsimp only;cases hg:BX ((s:Int),(k:Int)) L with
 |none=>exact AC ⟨λj=>⟨(λh=>by cases h),λh=>absurd h (f.none_ s k j hg g)⟩,by simp⟩
 |some x=>
  obtain⟨c,o,s',i,e,_,_,l⟩:=f.some_ _ _ hg;have a:s=s':=by have:=(Prod.mk.inj e).1;omega
  have b:k=i:=by have:=(Prod.mk.inj e).2;omega
  subst a b;dsimp only;rw[LG c];refine AC ⟨λj=>by rw[FQ c,l],?_⟩;have q:=PL x;have r:=c.len;have u:=c.hi;omega
end
end Go.Proofs.YtnlkgidlfnefbaaGreatDoor

namespace Go.Proofs.YtnlkgidlfnefbaaGreatDoor
open Go Go.Eng Dg
section
variable {p:dtP}{B:List dtK}{E:List (List Edge)}{d:LkD}{tt:Int}
theorem Sb {l:List Int}{b:dtK}(M:MkI p B E d tt) {n:Nat}(a:B[n]? =some b):(Co p.2.2.1 b.2.1).length≤10100:=by
 have:=Sa p.2.2.1 b.2.1
 have:=(M.all.fin.good M.all.vp a).2.2.2.2
 omega
theorem Yf (M:MkI p B E d tt) {n:Nat}{b:dtK}(a:B[n]? =some b) {i:Nat}{k:Int}(h:(Co p.2.2.1 b.2.1)[i]? =some k):∃(k':Nat) (r:BM),k=(k':Int)∧p.2.2.1[k']? =some r∧It p.2.2.1 (KB B) n k' r.2.1.length:=(VE M a).1 (lG h)
end
end Go.Proofs.YtnlkgidlfnefbaaGreatDoor
namespace Go.Proofs.YtnlkgidlfnefbaaGreatDoor
open Go Go.Eng
noncomputable def aq (l:List Int):Option Int:=(idx l 0).bind λa=>forS (σ:=Int) 1 (l.length:Int) a λi z=>(idx l i).bind λx=>some (if x<z then x else z)
theorem dV {φ:AD}{h:AH}{F:List Chk}{b:Slc}{l:List Int}(k:lI (kY .i64) φ b l) (d:St φ F h) {r:Int}(hd:aq l=some r):
 CallsH eE 156 [.slice b.1 b.2.1 b.2.2] h (Ae λv j=>∃ψ:AD,∃y:Int,Sub φ ψ∧v=((.one aI):Sh).val y∧y=r∧St ψ F j):=by
 refine BF mixed func156 ?_;rw[JY];unfold Gl;unfold aq at hd;have⟨a,f,hd⟩:=bS hd;have n:=k.length;have⟨_,o,_⟩:=CU f;refine Ad (λ(_:Unit) w (_:Unit)=>w=h) (g:=()) ?_ ?_
 ·refine AW (decide_eq_false (by omega))<|jY rfl rfl
 ·rintro _ w rfl;refine SC k f d.sub<|Av (λ(y:Int×Int×Unit) w (g:Int)=>y.2.1=g∧St φ F w) (g:=r) ?_ ?_
  ·refine Cp hd (λi (y:Int×Int×Unit) w (g:Int)=>y.1=i∧y.2.1=g∧St φ F w) ((1:Int),a,()) rfl ⟨rfl,rfl,d⟩ ?_ ?_
   ·rintro i z w g e ⟨rfl,rfl,st⟩ c p hlt hw;refine Ai (by rw[n];exact decide_eq_true hlt) ?_;have⟨x,m,c⟩:=bS c;refine SC k m st.sub ?_;obtain rfl:=iS c;exact jZ rfl rfl ⟨hw,rfl,st⟩
   ·rintro i z w ⟨rfl,H⟩ hge;refine AW (by rw[n];exact decide_eq_false (Int.not_lt.2 hge))<|AO (kB rfl H)
  ·rintro y w ⟨rfl,st⟩;exact AB ⟨φ,y.2.1,Sub.refl _,rfl,rfl,st⟩
section
variable {φ:AD}{h:AH}{F:List Chk}
noncomputable def Ce (g_0:Bt) (a:Int):Option Bool:=(cond (decide (a≥ 0)) (some (decide (a< (g_0.2.2.2.2.2.2.1.length:Int)))) (some false)).bind λb=>some b
theorem G9 {o:Option lT}{b:Bt}{n:Int}(c:Pt GY φ o b) (p:St φ F h) {r:Bool}(hd:Ce b n=some r):
 CallsH eE 84 [(.pointer o),(.int .i64 n)] h (Ae λv q=>∃ψ:AD,∃y:Bool,Sub φ ψ∧v=((.one aB):Sh).val y∧y=r∧St ψ F q):=by
 refine AN mixed func84 (Mb ..) ?_;have⟨d,a,hd⟩:=bS hd;refine Ad (λy s g=>∃ψ:AD,Sub φ ψ∧y.1=g∧St ψ F s) (g:=d) ?_ ?_
 ·refine kD a rfl (λa=>?_) (λa=>?_)
  ·refine pfR W2 c p λe f=> ?_;have i:=f.length;obtain rfl:=iS a;exact jY rfl ⟨φ,sb,(by rw[i]),p⟩
  exact jY rfl ⟨φ,sb,iS a,p⟩
 rintro t l ⟨j,m,rfl,k⟩;exact AB ⟨j,t.1,sb,rfl,iS hd,k⟩
noncomputable def Bk (g_0:Bt) (a:Int) (b:Int):Option (Int×Int):=((Ce g_0 a).bind λt3=>cond (!t3) (some true) ((BU (g_0.1,g_0.2.1,g_0.2.2.1,g_0.2.2.2.1,g_0.2.2.2.2.1,g_0.2.2.2.2.2.1) b).bind λd=>some (!d))).bind λf=>cond f (some (0,0)) ((idx g_0.2.2.2.2.2.2.1 a).bind λe=>(idx e b).bind λc=>some (c.1,c.2))
theorem Es {C:Option lT}{b:Bt}{A:Int}{B:Int}(f:Pt GY φ C b) (E:St φ F h) {r:(Int×Int)}(hd:Bk b A B=some r):
 CallsH eE 46 [(.pointer C),(.int .i64 A),(.int .i64 B)] h (Ae λv G=>∃ψ:AD,∃y:Int×Int×Unit,Sub φ ψ∧v=((.one (.agg [(.int .i64),(.int .i64)])):Sh).val y∧(y.1,y.2.1)=r∧St ψ F G):=by
 refine AN mixed func46 (MZ ..)<|AU (vs:=[.int .i64 (0:Int),.int .i64 (0:Int)]) E λH b1 t=> ?_;have⟨u,a,hd⟩:=bS hd;refine Ad (λy I g=>∃ψ:AD,Sub φ ψ∧y.1=g∧St ψ (Wq8 H::F) I) (g:=u) ?_ ?_
 ·have⟨U,w,a⟩:=bS a;refine AE (G9 f t w) ?_;rintro _ V ⟨z,t3,W,rfl,rfl,c⟩;refine⟨t3,rfl,?_⟩;refine kD a rfl (λa=>?_) (λa=>?_)
  ·exact jY rfl ⟨z,sb,iS a,c⟩
  obtain⟨X,Y,a0,⟨_,_,rfl,⟨k,rfl,J⟩,_,_,rfl,⟨l,rfl,K⟩,_,_,rfl,⟨m,rfl,L⟩,_,_,rfl,⟨n,rfl,M⟩,_,_,rfl,⟨o,rfl,N⟩,_,_,rfl,⟨p,rfl,O⟩,_,_,rfl,⟨Z,rfl,b8⟩,_,_,rfl,⟨b9,rfl,ba⟩,⟨bb,rfl,bd⟩⟩,d⟩:=id f;refine AF _ a0<|AL (x:=k) (AM (lA sb c.sub) (d.at 0 rfl)) rfl<|AL (x:=l) (AM (lA sb c.sub) (d.at 1 rfl)) rfl<|AL (x:=m) (AM (lA sb c.sub) (d.at 2 rfl)) rfl<|AL (x:=n) (AM (lA sb c.sub) (d.at 3 rfl)) rfl<|AL (x:=o) (AM (lA sb c.sub) (d.at 4 rfl)) rfl<|AL (x:=p) (AM (lA sb c.sub) (d.at 5 rfl)) rfl ?_;have⟨bf,P,a⟩:=bS a;refine AE (Dc (n:=(k,l,m,n,o,p,())) (m:=(b.1,b.2.1,b.2.2.1,b.2.2.2.1,b.2.2.2.2.1,b.2.2.2.2.2.1)) ⟨J.up,K.up,L.up,M.up,N.up,O.up⟩ c P) ?_;rintro _ bg ⟨Q,D,bi,rfl,rfl,R⟩;refine⟨D,rfl,?_⟩;exact jY rfl ⟨Q,sb,iS a,R⟩
 rintro z2 bj ⟨q,bl,rfl,e⟩;refine kD hd rfl (λhd=>?_) (λhd=>?_)
 ·refine AG e rfl rfl λbp S=>AG S rfl rfl λbs i=>AA (x:=(0:Int)) i rfl<|AA (x:=(0:Int)) i rfl ?_;exact AB ⟨q,((0:Int),(0:Int),()),sb,rfl,iS hd,i.tail⟩
 refine pfR W2 f e λbt al=>gxS al hd e λbw bx ap hd=>YC ap hd e λs hd=>AG e rfl rfl λbz T=>AG T rfl rfl λc0 j=>AA j rfl<|AA j rfl ?_;exact AB ⟨q,(s.1,s.2,()),sb,rfl,iS hd,j.tail⟩
noncomputable def Cf (g_0:Bt) (a:Int) (b:Int):Option Int:=((Ce g_0 a).bind λt4=>cond (!t4) (some true) (cond (decide ((bD .i64 (b - (g_0.1.length:Int))) < 0)) (some true) (some (decide ((bD .i64 (b - (g_0.1.length:Int))) ≥ (g_0.2.1.length:Int)))))).bind λe=>cond e (some (-1:Int)) ((idx g_0.2.2.2.2.2.2.2.1 a).bind λc=>(idx c (bD .i64 (b - (g_0.1.length:Int)))).bind λd=>some d)
theorem HA {C:Option lT}{i:Bt}{A:Int}{B:Int}(c:Pt GY φ C i) (D:St φ F h) {r:Int}(hd:Cf i A B=some r):
 CallsH eE 83 [(.pointer C),(.int .i64 A),(.int .i64 B)] h (Ae λv E=>∃ψ:AD,∃y:Int,Sub φ ψ∧v=((.one aI):Sh).val y∧y=r∧St ψ F E):=by
 refine AN mixed func83 (Ma ..)<|iE cG c D λl m=> ?_;have e:=m.length;have⟨n,a,hd⟩:=bS hd;refine Ad (λy G g=>∃ψ:AD,Sub φ ψ∧y.1=g∧St ψ F G) (g:=n) ?_ ?_
 ·have⟨x,o,a⟩:=bS a;refine AE (G9 c D o) ?_;rintro _ z ⟨f,t4,a0,rfl,rfl,d⟩;refine⟨t4,rfl,?_⟩;refine kD a rfl (λa=>?_) (λa=>?_)
  ·exact jY rfl ⟨f,sb,iS a,d⟩
  refine kD a (by rw[e] <;>rfl) (λa=>?_) (λa=>?_)
  ·exact jY rfl ⟨f,sb,iS a,d⟩
  refine pfR cH c d λp q=> ?_;have s:=q.length;obtain rfl:=iS a;exact jY rfl ⟨f,sb,(by rw[e,s]),d⟩
 rintro H I ⟨j,J,rfl,b⟩;refine kD hd rfl (λhd=>?_) (λhd=>?_)
 ·exact AB ⟨j,(-1:Int),sb,rfl,iS hd,b⟩
 refine pfR cI c b λK t=>gxS t hd b λL M u hd=> ?_;have⟨w,k,hd⟩:=bS hd;rw[←e]at k;refine SC u k (lA sb b.sub) ?_;exact AB ⟨j,w,sb,rfl,iS hd,b⟩
end
section
variable {φ:AD}{h:AH}{F:List Chk}
theorem Je:GU eE 129 129 30 1:=⟨lJ,.inl lJ,⟨t30,by kernel_rfl,rfl,⟨_,rfl,rfl⟩,by decide,by decide⟩,by decide⟩
theorem Jf:GU eE 146 146 150 1:=⟨lK,.inl lK,⟨t150,by kernel_rfl,rfl,⟨_,rfl,rfl⟩,by decide,by decide⟩,by decide⟩
theorem Tm:GU eE 147 147 210 7:=⟨lL,.inl lL,⟨t210,by kernel_rfl,rfl,⟨_,rfl,rfl⟩,by decide,by decide⟩,by decide⟩
theorem Tn:GU eE 150 150 91 2:=⟨lM,.inl lM,⟨t91,by kernel_rfl,rfl,⟨_,rfl,rfl⟩,by decide,by decide⟩,by decide⟩
noncomputable def E9 (p_0:As) (a:Int):Option Int:=(cond (decide (a< 0)) (some true) (some (decide (a≥ (p_0.2.2.2.1.length:Int))))).bind λc=>cond c (some 0) ((idx p_0.2.2.2.1 a).bind λb=>some b)
theorem Oe {p:Pl6}{n:As}{o:Int}(d:Gw φ p n) (q:St φ F h) {r:Int}(hd:E9 n o=some r):
 CallsH eE 184 [(aG p),(.int .i64 o)] h (Ae λv s=>∃ψ:AD,∃y:Int,Sub φ ψ∧v=((.one aI):Sh).val y∧y=r∧St ψ F s):=by
 refine AN mixed func184 (Od ..) ?_;have f:p.2.2.2.1.2.1=kJ n.2.2.2.1:=d.k3.length;refine Db (t:=p) q λu k c=> ?_;have⟨i,a,hd⟩:=bS hd;refine Ad (λy w g=>∃ψ:AD,Sub φ ψ∧y.1=g∧St ψ (Wq2 u p::F) w) (g:=i) ?_ ?_
 ·refine kD a rfl (λa=>?_) (λa=>?_)
  ·exact jY rfl ⟨φ,sb,iS a,c⟩
  refine AA c rfl ?_;obtain rfl:=iS a;exact jY rfl ⟨φ,sb,(by rw[f]),c⟩
 rintro x l ⟨e,m,rfl,b⟩;refine kD hd rfl (λhd=>?_) (λhd=>?_)
 ·exact AB ⟨e,(0:Int),sb,rfl,iS hd,b.tail⟩
 refine AA b rfl<|gx d.k3 hd b λj hd=> ?_;exact AB ⟨e,j,sb,rfl,iS hd,b.tail⟩
noncomputable def Eh (p_0:As) (a:Int):Option Int:=(cond (decide (a< 0)) (some true) (some (decide (a≥ (p_0.2.2.1.length:Int))))).bind λc=>cond c (some 0) ((idx p_0.2.2.1 a).bind λb=>some b.2.2)
theorem NX {p:Pl6}{n:As}{o:Int}(d:Gw φ p n) (q:St φ F h) {r:Int}(hd:Eh n o=some r):
 CallsH eE 185 [(aG p),(.int .i64 o)] h (Ae λv s=>∃ψ:AD,∃y:Int,Sub φ ψ∧v=((.one aI):Sh).val y∧y=r∧St ψ F s):=by
 refine AN mixed func185 (NW ..) ?_;have f:p.2.2.1.2.1=kJ n.2.2.1:=d.k2.length;refine Db (t:=p) q λu k c=> ?_;have⟨i,a,hd⟩:=bS hd;refine Ad (λy w g=>∃ψ:AD,Sub φ ψ∧y.1=g∧St ψ (Wq2 u p::F) w) (g:=i) ?_ ?_
 ·refine kD a rfl (λa=>?_) (λa=>?_)
  ·exact jY rfl ⟨φ,sb,iS a,c⟩
  refine AA c rfl ?_;obtain rfl:=iS a;exact jY rfl ⟨φ,sb,(by rw[f]),c⟩
 rintro x l ⟨e,m,rfl,b⟩;refine kD hd rfl (λhd=>?_) (λhd=>?_)
 ·exact AB ⟨e,(0:Int),sb,rfl,iS hd,b.tail⟩
 refine AA b rfl<|ixS ep d.k2 hd b λj hd=> ?_;exact AB ⟨e,j.2.2,sb,rfl,iS hd,b.tail⟩
noncomputable def Cu (a:Int):Option (Int×Int):=cond (a==0) (some (3,0)) (some (2,a))
theorem FN {l:Int}(m:St φ F h) {r:(Int×Int)}(hd:Cu l=some r):
 CallsH eE 154 [(.int .i64 l)] h (Ae λv n=>∃ψ:AD,∃y:Int×Int×Unit,Sub φ ψ∧v=((.one (.agg [(.int .i64),(.int .i64)])):Sh).val y∧(y.1,y.2.1)=r∧St ψ F n):=by
 refine AN mixed func154 (NV ..)<|AU (vs:=[.int .i64 (0:Int),.int .i64 (0:Int)]) m λo f c=>kD hd rfl (λhd=>?_) (λhd=>?_)
 ·refine AG c rfl rfl λg d=>AG d rfl rfl λi a=>AA (x:=(3:Int)) a rfl<|AA (x:=(0:Int)) a rfl ?_;exact AB ⟨φ,((3:Int),(0:Int),()),sb,rfl,iS hd,a.tail⟩
 refine AG c rfl rfl λj e=>AG e rfl rfl λk b=>AA (x:=(2:Int)) b rfl<|AA b rfl ?_;exact AB ⟨φ,((2:Int),l,()),sb,rfl,iS hd,b.tail⟩
noncomputable def HL (p_0:As) (b:Int) (shift_2:FG) (rule_3:FG):Option (Int×Int×Bool):=
 (E9 p_0 b).bind λa=>
 (Eh p_0 rule_3.2).bind λc=>
 (cond (decide (a≤0))
 (some true)
 (some (decide (c≤0)))).bind λl=>
 cond l
 (some (shift_2.1,shift_2.2,true))
 ((((((((((cond (c==a)
  ((idx p_0.2.2.2.2.1 a).bind λm=>
   some (m==3))
  (some false)).bind λn=>
  cond n
  (some (kL ()))
  ((cond (c==a)
   ((idx p_0.2.2.2.2.1 a).bind λo=>
    some (o==1))
   (some false)).bind λq=>
   cond q
   (some (kG (.inl (0,0))))
   (cond (decide (c>a))
    (some (kG (.inr (.inl (0,0)))))
    (some (kG (.inr (.inr (0,0)))))))):Option (AY Unit (Sum FG (Sum FG FG)))).bind λd=>match d with
  |.next s=>
   some (kG (.inr (.inr (0,0,false))))
  |.done h=>(match h with | .inl p=>some (kL p)|.inr (.inl p)=>some (kG (.inl p))|.inr (.inr p)=>some (kG (.inr (.inl p))))):Option (AY FG (Sum FG (Sum FG (Int×Int×Bool))))).bind λe=>match e with
  |.next r=>
   some (kL r)
  |.done i=>(match i with | .inl p=>some (kL p)|.inr (.inl p)=>some (kG (.inl p))|.inr (.inr p)=>some (kG (.inr p)))):Option (AY FG (Sum FG (Int×Int×Bool)))).bind λf=>match f with
  |.next t=>
   some (kG (rule_3.1,rule_3.2,false))
  |.done j=>(match j with | .inl p=>some (kL p)|.inr p=>some (kG p))):Option (AY FG (Int×Int×Bool))).bind λg=>match g with
  |.next u=>
   some (shift_2.1,shift_2.2,false)
  |.done k=>some k)
theorem RQ {C:Pl6}{H:As}{D:Int}{A:Int×Int×Unit}{B:Int×Int×Unit}(o:Gw φ C H) (X:St φ F h) {r:(Int×Int×Bool)}(hd:HL H D (A.1,A.2.1) (B.1,B.2.1)=some r):
 CallsH eE 155 [(aG C),(.int .i64 D),(.agg #[(.int .i64 A.1),(.int .i64 A.2.1)]),(.agg #[(.int .i64 B.1),(.int .i64 B.2.1)])] h (Ae λv Y=>∃ψ:AD,∃y:(Int×Int×Unit)×Bool×Unit,Sub φ ψ∧v=((.tuple [(.agg [(.int .i64),(.int .i64)]),aB]):Sh).val y∧(y.1.1,y.1.2.1,y.2.1)=r∧St ψ F Y):=by
 refine AN mixed func155 (RM ..)<|Db (t:=C) X λE cm al=>AU (vs:=[.int .i64 A.1,.int .i64 A.2.1]) al λK cp ap=>AU (vs:=[.int .i64 B.1,.int .i64 B.2.1]) ap λJ cs Z=>AU (vs:=[.int .i64 (0:Int),.int .i64 (0:Int)]) Z λI cu p=>Bi (t:=C) p.at3<|Bi (t:=C) p.at3<|AA p.at1 rfl ?_;have⟨cw,b1,hd⟩:=bS hd;refine AE (Oe o p b1) ?_;rintro _ cx ⟨d0,L,d1,rfl,rfl,c⟩;refine⟨L,rfl,?_⟩;refine AI (hC (b:=J) (j:=1) c.at1 rfl)<|AI (hC (b:=E) (j:=0) c.at3 rfl)<|AI (hC (b:=E) (j:=1) c.at3 rfl)<|AI (hC (b:=E) (j:=2) c.at3 rfl)<|AI (hC (b:=E) (j:=3) c.at3 rfl)<|AI (hC (b:=E) (j:=4) c.at3 rfl)<|AI (hC (b:=E) (j:=5) c.at3 rfl) ?_;have⟨d2,b2,hd⟩:=bS hd;refine AE (NX o.up c b2) ?_;rintro _ d3 ⟨w,M,d4,rfl,rfl,T⟩;refine⟨M,rfl,?_⟩;have⟨b3,l,hd⟩:=bS hd;refine Ad (λy G g=>∃ψ:AD,Sub w ψ∧y.1=g∧St ψ (Wq8 I::Wq9 J B::Wq9 K A::Wq2 E C::F) G) (g:=b3) ?_ ?_
 ·refine kD l rfl (λl=>?_) (λl=>?_)
  ·have b4:=T.at3;exact jY rfl ⟨w,sb,iS l,b4.at3.at3.at3⟩
  exact jY rfl ⟨w,sb,iS l,T.at3.at3.at3.at3⟩
 rintro f0 d5 ⟨d,d6,rfl,q⟩;refine kD hd rfl (λhd=>?_) (λhd=>?_)
 ·refine AA q.at2 rfl<|AA q.at2 rfl<|AG q rfl rfl λd7 b5=>AG b5 rfl rfl λd8 z=>AA z rfl<|AA z rfl ?_;exact AB ⟨d,((A.1,A.2.1,()),true,()),sb,rfl,iS hd,z.tail.tail.tail.tail⟩
 have s:=St.shutR (r:=IL) (x:=((0:Int),(0:Int))) q ⟨[_],_,rfl,rfl,rfl⟩;have⟨b6,m,hd⟩:=bS hd;refine Av (λy G g=>∃ψ:AD,∃U:FG,Sub d ψ∧kL U=g∧St ψ (cO 91 (lR IL) (jX I) U::Wq9 J B::Wq9 K A::Wq2 E C::F) G) (g:=b6) ?_ ?_
 ·have⟨b7,i,m⟩:=bS m;refine Av (λy G g=>∃ψ:AD,∃V:FG,Sub d ψ∧kL V=g∧St ψ (cO 91 (lR IL) (jX I) V::Wq9 J B::Wq9 K A::Wq2 E C::F) G) (g:=b7) ?_ ?_
  ·have⟨b8,k,i⟩:=bS i;refine Av (λy G g=>∃ψ:AD,∃W:FG,Sub d ψ∧kL W=g∧St ψ (cO 91 (lR IL) (jX I) W::Wq9 J B::Wq9 K A::Wq2 E C::F) G) (g:=b8) ?_ ?_
   ·have⟨b9,a,k⟩:=bS k;refine Av (λy G g=>∃ψ:AD,Sub d ψ∧kL ()=g∧St ψ (cO 91 (lR IL) (jX I) ((0:Int),(0:Int))::Wq9 J B::Wq9 K A::Wq2 E C::F) G) (g:=b9) ?_ ?_
    ·have⟨ba,e,a⟩:=bS a;refine Ad (λy G g=>∃ψ:AD,Sub d ψ∧y.1=g∧St ψ (cO 91 (lR IL) (jX I) ((0:Int),(0:Int))::Wq9 J B::Wq9 K A::Wq2 E C::F) G) (g:=ba) ?_ ?_
     ·refine kD e rfl (λe=>?_) (λe=>?_)
      ·refine AA s.at3 rfl<|gx o.k4 e s λbb e=> ?_;exact jY rfl ⟨d,sb,iS e,s.at3.at3.at3.at3⟩
      exact jY rfl ⟨d,sb,iS e,s.at3.at3.at3.at3⟩
     rintro f1 d9 ⟨u,dd,rfl,n⟩;refine kD a rfl (λa=>?_) (λa=>?_)
     ·have bd:=n.at3;exact kB rfl ⟨u,sb,iS a,bd.at3.at3.at3⟩
     have⟨bf,f,a⟩:=bS a;refine Ad (λy G g=>∃ψ:AD,Sub u ψ∧y.1=g∧St ψ (cO 91 (lR IL) (jX I) ((0:Int),(0:Int))::Wq9 J B::Wq9 K A::Wq2 E C::F) G) (g:=bf) ?_ ?_
     ·refine kD f rfl (λf=>?_) (λf=>?_)
      ·refine AA n.at3 rfl<|gx o.k4 f n λbg f=> ?_;exact jY rfl ⟨u,sb,iS f,n.at3.at3.at3.at3⟩
      exact jY rfl ⟨u,sb,iS f,n.at3.at3.at3.at3⟩
     rintro f2 dg ⟨a0,dk,rfl,N⟩;refine kD a rfl (λa=>?_) (λa=>?_)
     ·have bi:=N.at3;obtain rfl:=iS a;obtain rfl:=iS k;exact FO rfl (kB rfl ⟨a0,((0:Int),(0:Int)),sb,rfl,bi.at3.at3.at3⟩)
     refine kD a rfl (λa=>?_) (λa=>?_)
     ·have bj:=N.at3;obtain rfl:=iS a;obtain rfl:=iS k;obtain rfl:=iS i;exact FO rfl (FO rfl (kB rfl ⟨a0,((0:Int),(0:Int)),sb,rfl,bj.at3.at3.at3⟩))
     obtain rfl:=iS a;obtain rfl:=iS k;obtain rfl:=iS i;obtain rfl:=iS m;exact FO rfl (FO rfl (FO rfl (kB rfl ⟨a0,((0:Int),(0:Int)),sb,rfl,N.at3.at3.at3.at3⟩)))
    rintro f3 dl ⟨bl,dp,rfl,bp⟩;obtain⟨bs,ds,bt,⟨_,_,rfl,rfl,rfl⟩,bw⟩:=lS bp;obtain rfl:I=bs:=by simpa using bt
    refine AG bw rfl rfl λdx bx=>AG bx rfl rfl λdy O=>AA (x:=(0:Int)) O rfl<|AA (x:=(0:Int)) O rfl ?_;obtain rfl:=iS k;obtain rfl:=iS i;obtain rfl:=iS m;obtain rfl:=iS hd;exact Al (Al (Al (AB ⟨bl,(((0:Int),(0:Int),()),false,()),sb,rfl,rfl,O.tail.tail.tail.tail⟩)))
   rintro f4 e0 ⟨bz,c0,e1,rfl,c1⟩;exact kC rfl ⟨bz,c0,sb,iS i,c1.at3.at3.at3.at3⟩
  rintro f5 e2 ⟨c2,e3,e4,rfl,P⟩;refine AA P.at1 rfl<|AA P.at1 rfl ?_;obtain⟨c3,e5,c4,⟨_,_,rfl,rfl,rfl⟩,c5⟩:=lS P;obtain rfl:I=c3:=by simpa using c4
  refine AG c5 rfl rfl λe6 c6=>AG c6 rfl rfl λe7 Q=>AA Q rfl<|AA Q rfl ?_;obtain rfl:=iS m;obtain rfl:=iS hd;exact Al (AB ⟨c2,((B.1,B.2.1,()),false,()),sb,rfl,rfl,Q.tail.tail.tail.tail⟩)
 rintro f6 e8 ⟨c7,e9,ea,rfl,R⟩;refine AA R.at2 rfl<|AA R.at2 rfl ?_;obtain⟨c8,ec,c9,⟨_,_,rfl,rfl,rfl⟩,ch⟩:=lS R;obtain rfl:I=c8:=by simpa using c9
 refine AG ch rfl rfl λed cl=>AG cl rfl rfl λee S=>AA S rfl<|AA S rfl ?_;exact AB ⟨c7,((A.1,A.2.1,()),false,()),sb,rfl,iS hd,S.tail.tail.tail.tail⟩
noncomputable def Dd (p_0:As) (b:Int) (shift_2:Int) (a:List Int):Option (Int×Int×Bool):=(cond ((a.length:Int)==0) (some (decide (shift_2< 0))) (some false)).bind λk=>cond k (some (0,0,false)) (cond ((a.length:Int)==0) (some (1,shift_2,false)) ((cond ((a.length:Int)==1) (some (decide (shift_2< 0))) (some false)).bind λg=>cond g ((idx a 0).bind λh=>(Cu h).bind λd=>some (d.1,d.2,false)) (cond ((a.length:Int)==1) ((idx a 0).bind λi=>(Cu i).bind λe=>(HL p_0 b (1,shift_2) (e.1,e.2)).bind λc=>some (c.1,c.2.1,c.2.2)) (cond (decide (shift_2≥ 0)) (some (1,shift_2,true)) ((aq a).bind λj=>(Cu j).bind λf=>some (f.1,f.2,true))))))
theorem PR {D:Pl6}{E:As}{C:Int}{A:Int}{B:Slc}{m:List Int}(z:Gw φ D E) (k:lI (kY .i64) φ B m) (P:St φ F h) {r:(Int×Int×Bool)}(hd:Dd E C A m=some r):
 CallsH eE 126 [(aG D),(.int .i64 C),(.int .i64 A),(sv B)] h (Ae λv Q=>∃ψ:AD,∃y:(Int×Int×Unit)×Bool×Unit,Sub φ ψ∧v=((.tuple [(.agg [(.int .i64),(.int .i64)]),aB]):Sh).val y∧(y.1.1,y.1.2.1,y.2.1)=r∧St ψ F Q):=by
 refine AN mixed func126 (PO ..) ?_;have l:B.2.1=kJ m:=k.length;refine Db (t:=D) P λH bg a0=>AU (vs:=[.int .i64 (0:Int),.int .i64 (0:Int)]) a0 λO bi R=>AU (vs:=[.int .i64 (0:Int),.int .i64 (0:Int)]) R λL bj S=>AG S rfl rfl λbl T=>AG T rfl rfl λbp w=> ?_;have⟨U,e,hd⟩:=bS hd;refine Ad (λy M g=>∃ψ:AD,Sub φ ψ∧y.1=g∧St ψ (cW 91 L [.int .i64 (1:Int),.int .i64 A]::Wq8 O::Wq2 H D::F) M) (g:=U) ?_ ?_
 ·refine kD e (by rw[l] <;>rfl) (λe=>?_) (λe=>?_)
  ·have V:=w.at2;exact jY rfl ⟨φ,sb,iS e,V.at2.at2⟩
  exact jY rfl ⟨φ,sb,iS e,w.at2.at2.at2⟩
 rintro z4 bs ⟨f,bt,rfl,d⟩;refine kD hd rfl (λhd=>?_) (λhd=>?_)
 ·refine AG d.at1 rfl rfl λbw W=>AG W rfl rfl λbx n=>AA (x:=(0:Int)) n rfl<|AA (x:=(0:Int)) n rfl ?_;exact AB ⟨f,(((0:Int),(0:Int),()),false,()),sb,rfl,iS hd,n.tail.tail.tail⟩
 refine kD hd (by rw[l] <;>rfl) (λhd=>?_) (λhd=>?_)
 ·refine AA (x:=(1:Int)) d rfl<|AA d rfl<|AG d.at1 rfl rfl λbz X=>AG X rfl rfl λc0 o=>AA (x:=(1:Int)) o rfl<|AA o rfl ?_;exact AB ⟨f,(((1:Int),A,()),false,()),sb,rfl,iS hd,o.tail.tail.tail⟩
 have⟨Y,i,hd⟩:=bS hd;refine Ad (λy M g=>∃ψ:AD,Sub f ψ∧y.1=g∧St ψ (cW 91 L [.int .i64 (1:Int),.int .i64 A]::Wq8 O::Wq2 H D::F) M) (g:=Y) ?_ ?_
 ·refine kD i (by rw[l] <;>rfl) (λi=>?_) (λi=>?_)
  ·have Z:=d.at2;exact jY rfl ⟨f,sb,iS i,Z.at2.at2⟩
  exact jY rfl ⟨f,sb,iS i,d.at2.at2.at2⟩
 rintro e0 c1 ⟨ad,c2,rfl,a⟩;refine kD hd rfl (λhd=>?_) (λhd=>?_)
 ·refine gx k hd a λc3 hd=> ?_;have⟨c4,al,hd⟩:=bS hd;refine AE (FN a al) ?_;rintro _ c5 ⟨ap,I,c6,rfl,rfl,b0⟩;refine⟨I,rfl,?_⟩;refine AG b0.at1 rfl rfl λc7 b1=>AG b1 rfl rfl λc8 p=>AA p rfl<|AA p rfl ?_;exact AB ⟨ap,((I.1,I.2.1,()),false,()),sb,rfl,iS hd,p.tail.tail.tail⟩
 refine kD hd (by rw[l] <;>rfl) (λhd=>?_) (λhd=>?_)
 ·refine Bi (t:=D) a.at2<|AA (x:=(1:Int)) a rfl<|AA a rfl<|gx k hd a λc9 hd=> ?_;have⟨ch,b2,hd⟩:=bS hd;refine AE (FN a b2) ?_;rintro _ cl ⟨cm,J,cp,rfl,rfl,c⟩;refine⟨J,rfl,?_⟩;refine AI (hC (b:=L) (j:=0) c rfl)<|AI (hC (b:=L) (j:=1) c rfl)<|AI (hC (b:=H) (j:=0) c.at2 rfl)<|AI (hC (b:=H) (j:=1) c.at2 rfl)<|AI (hC (b:=H) (j:=2) c.at2 rfl)<|AI (hC (b:=H) (j:=3) c.at2 rfl)<|AI (hC (b:=H) (j:=4) c.at2 rfl)<|AI (hC (b:=H) (j:=5) c.at2 rfl) ?_;have⟨cs,b3,hd⟩:=bS hd;refine AE (RQ (A:=((1:Int),A,())) (B:=(J.1,J.2.1,())) z.up c b3) ?_;rintro _ cu ⟨b4,G,cw,rfl,rfl,b5⟩;refine⟨G,rfl,?_⟩;refine AG b5.at1 rfl rfl λcx b6=>AG b6 rfl rfl λd0 q=>AA q rfl<|AA q rfl ?_;exact AB ⟨b4,((G.1.1,G.1.2.1,()),G.2.1,()),sb,rfl,iS hd,q.tail.tail.tail⟩
 refine kD hd rfl (λhd=>?_) (λhd=>?_)
 ·refine AA (x:=(1:Int)) a rfl<|AA a rfl<|AG a.at1 rfl rfl λd1 b7=>AG b7 rfl rfl λd2 s=>AA (x:=(1:Int)) s rfl<|AA s rfl ?_;exact AB ⟨ad,(((1:Int),A,()),true,()),sb,rfl,iS hd,s.tail.tail.tail⟩
 have⟨d3,b8,hd⟩:=bS hd;refine AE (dV k.up a b8) ?_;rintro _ d4 ⟨d5,N,d6,rfl,rfl,b9⟩;refine⟨N,rfl,?_⟩;have⟨d7,ba,hd⟩:=bS hd;refine AE (FN b9 ba) ?_;rintro _ d8 ⟨bb,K,d9,rfl,rfl,bd⟩;refine⟨K,rfl,?_⟩;refine AG bd.at1 rfl rfl λdd bf=>AG bf rfl rfl λdg u=>AA u rfl<|AA u rfl ?_;exact AB ⟨bb,((K.1,K.2.1,()),true,()),sb,rfl,iS hd,u.tail.tail.tail⟩
noncomputable def resolve_Grid_cell_D (g_0:Bt) (h:D5) (d:(Option LkD)) (a:Int) (b:Int):Option (Int×Int×Bt):=(Ay h a b).bind λt2=>(QK d a).bind λt3=>(forS (σ:=List Int) 0 (t3.length:Int) ([]:List Int) λe n=>(idx t3 e).bind λf=>(SW d a f).bind λt8=>(Au t8 b).bind λo=>(cond o ((app n ([f]:List Int)).bind λi=>some i) (some n)).bind λj=>some j).bind λg=>(Dd (g_0.1,g_0.2.1,g_0.2.2.1,g_0.2.2.2.1,g_0.2.2.2.2.1,g_0.2.2.2.2.2.1) b t2 g).bind λc=>(cond (decide ((g.length:Int) >1)) (some true) (cond ((g.length:Int)==1) (some (decide (t2≥ 0))) (some false))).bind λk=>(cond k ((app (g_0.1,g_0.2.1,g_0.2.2.1,g_0.2.2.2.1,g_0.2.2.2.2.1,g_0.2.2.2.2.2.1,g_0.2.2.2.2.2.2.1,g_0.2.2.2.2.2.2.2.1,g_0.2.2.2.2.2.2.2.2).2.2.2.2.2.2.2.2 ([(a,b,t2,g,c.1,c.2.1,c.2.2)]:List Kn)).bind λl=>some ((g_0.1,g_0.2.1,g_0.2.2.1,g_0.2.2.2.1,g_0.2.2.2.2.1,g_0.2.2.2.2.2.1,g_0.2.2.2.2.2.2.1,g_0.2.2.2.2.2.2.2.1,g_0.2.2.2.2.2.2.2.2).1,(g_0.1,g_0.2.1,g_0.2.2.1,g_0.2.2.2.1,g_0.2.2.2.2.1,g_0.2.2.2.2.2.1,g_0.2.2.2.2.2.2.1,g_0.2.2.2.2.2.2.2.1,g_0.2.2.2.2.2.2.2.2).2.1,(g_0.1,g_0.2.1,g_0.2.2.1,g_0.2.2.2.1,g_0.2.2.2.2.1,g_0.2.2.2.2.2.1,g_0.2.2.2.2.2.2.1,g_0.2.2.2.2.2.2.2.1,g_0.2.2.2.2.2.2.2.2).2.2.1,(g_0.1,g_0.2.1,g_0.2.2.1,g_0.2.2.2.1,g_0.2.2.2.2.1,g_0.2.2.2.2.2.1,g_0.2.2.2.2.2.2.1,g_0.2.2.2.2.2.2.2.1,g_0.2.2.2.2.2.2.2.2).2.2.2.1,(g_0.1,g_0.2.1,g_0.2.2.1,g_0.2.2.2.1,g_0.2.2.2.2.1,g_0.2.2.2.2.2.1,g_0.2.2.2.2.2.2.1,g_0.2.2.2.2.2.2.2.1,g_0.2.2.2.2.2.2.2.2).2.2.2.2.1,(g_0.1,g_0.2.1,g_0.2.2.1,g_0.2.2.2.1,g_0.2.2.2.2.1,g_0.2.2.2.2.2.1,g_0.2.2.2.2.2.2.1,g_0.2.2.2.2.2.2.2.1,g_0.2.2.2.2.2.2.2.2).2.2.2.2.2.1,(g_0.1,g_0.2.1,g_0.2.2.1,g_0.2.2.2.1,g_0.2.2.2.2.1,g_0.2.2.2.2.2.1,g_0.2.2.2.2.2.2.1,g_0.2.2.2.2.2.2.2.1,g_0.2.2.2.2.2.2.2.2).2.2.2.2.2.2.1,(g_0.1,g_0.2.1,g_0.2.2.1,g_0.2.2.2.1,g_0.2.2.2.2.1,g_0.2.2.2.2.2.1,g_0.2.2.2.2.2.2.1,g_0.2.2.2.2.2.2.2.1,g_0.2.2.2.2.2.2.2.2).2.2.2.2.2.2.2.1,l)) (some (g_0.1,g_0.2.1,g_0.2.2.1,g_0.2.2.2.1,g_0.2.2.2.2.1,g_0.2.2.2.2.2.1,g_0.2.2.2.2.2.2.1,g_0.2.2.2.2.2.2.2.1,g_0.2.2.2.2.2.2.2.2))).bind λm=>some (c.1,c.2.1,m)
theorem KK {E:Option lT}{c:Bt}{H:Option lT}{z:D5}{D:Option lT}{f:(Option LkD)}{A:Int}{C:Int}(gk:Dg.Glob φ) (bp:Pt F4 φ H z) (s0:St φ (cO 149 Mv E c::⟨GA,[.pointer D],f⟩::F) h) {r:(Int×Int×Bt)}(hd:resolve_Grid_cell_D c z f A C=some r):
 CallsH eE 72 [(.pointer E),(.pointer H),(.pointer D),(.int .i64 A),(.int .i64 C)] h (Ae λv h'=>∃ψ:AD,∃y:Int×Int×Unit,∃a0:Bt,Sub φ ψ∧v=((.one (.agg [(.int .i64),(.int .i64)])):Sh).val y∧(y.1,y.2.1,a0)=r∧St ψ (⟨GA,[.pointer D],f⟩::cO 149 Mv E a0::F) h'):=by
 refine AN mixed func72 (KG ..)<|AU (vs:=[.int .i64 (0:Int),.int .i64 (0:Int)]) s0 λJ ec bs=> ?_;have⟨ed,bt,hd⟩:=bS hd;refine AE (Dr bp bs bt) ?_;rintro _ ee ⟨ef,t2,eg,rfl,rfl,bw⟩;refine⟨t2,rfl,?_⟩;have⟨ek,bx,hd⟩:=bS hd;refine AE (WW bw.at2 bx) ?_;rintro _ el ⟨K,t3,em,en,rfl,rfl,L,bz⟩;refine⟨t3,rfl,?_⟩;have M:=L.length;have⟨eo,c0,hd⟩:=bS hd;refine Bb c0 (λc1 y G g=>∃ψ:AD,∃N:List Int,Sub K ψ∧y.1=c1∧N=g∧St ψ (cR 3 (kY .i64) y.2.1 N::⟨GA,[.pointer D],f⟩::Wq8 J::cO 149 Mv E c::F) G) ((0:Int),((none,0,0):Slc),()) rfl ⟨K,[],sb,rfl,rfl,(((((bz.nil 3 (kY .i64)).at3).at3).at3).at3)⟩ ?_ ?_ ?_
 ·rintro _ z5 er _ _ ⟨es,c2,ev,rfl,rfl,O⟩ d ew c3 c4;refine Ai (dT M c3)<|gx L d O λP d=> ?_;have⟨ex,c5,d⟩:=bS d;refine AE (aZ (gk.mono sb) O.at1 c5) ?_;rintro _ ey ⟨ez,t8,f0,f1,rfl,rfl,c6,c7⟩;refine⟨t8,rfl,?_⟩;have⟨f2,c8,d⟩:=bS d;refine AE (HI c6 c7 c8) ?_;rintro _ f3 ⟨p,t9,f4,rfl,rfl,Q⟩;refine⟨t9,rfl,?_⟩;have⟨c9,i,d⟩:=bS d;refine Ad (λy G g=>∃ψ:AD,∃R:List Int,Sub p ψ∧R=g∧St ψ (cR 3 (kY .i64) y.1 R::⟨GA,[.pointer D],f⟩::Wq8 J::cO 149 Mv E c::F) G) (g:=c9) ?_ ?_
  ·refine kD i rfl (λi=>?_) (λi=>?_)
   ·refine AU (vs:=[.int .i64 P]) Q λd3 f5 S=> ?_;have⟨ch,cl,i⟩:=bS i;refine AZ (r:=(kY .i64)) (ms:=([P]:List Int)) Ci S.tail.at1 rfl (kV S) (.cons (a:=[_]) rfl .nil) rfl cl ?_;intro h0 f6 cm;exact jY rfl ⟨p,ch,sb,iS i,cm.at3.at3.at3.at3⟩
   exact jY rfl ⟨p,c2,sb,iS i,Q.at1.at3.at3.at3.at3⟩
  rintro h1 f7 ⟨cp,cs,f8,rfl,cu⟩;obtain rfl:=iS d;exact jZ rfl rfl ⟨cp,cs,sb,c4,rfl,cu.at3.at3.at3.at3⟩
 ·rintro _ z5 f9 ⟨cw,cx,fa,rfl,rfl,d0⟩ d1;refine AW (dF M d1)<|AO (kB rfl ⟨_,cw,cx,sb,rfl,rfl,d0.at3.at3.at3.at3⟩)
 rintro T fd ⟨_,fl,d2,fn,_,rfl,U⟩;have al:=U.rowLen;obtain⟨m,ap,V,b1,W,X,Y,Z,b6,b7,rfl,b8,b9,ba,bb,bd,bf,k⟩:=TA U.at3;refine AF _ rfl<|AA k.at3 rfl<|AA k.at3 rfl<|AA k.at3 rfl<|AA k.at3 rfl<|AA k.at3 rfl<|AA k.at3 rfl ?_;have⟨fo,fr,bg,d4⟩:=kO (t:=T.2.1) k.at4;have⟨fs,d5,hd⟩:=bS hd;refine AE (PR (D:=(ap,V,b1,W,X,Y,())) (E:=(c.1,c.2.1,c.2.2.1,c.2.2.2.1,c.2.2.2.2.1,c.2.2.2.2.2.1)) ⟨b8.up,b9.up,ba.up,bb.up,bd.up,bf.up⟩ bg d4 d5) ?_;rintro _ fv ⟨n,B,fz,rfl,rfl,d6⟩;refine⟨B,rfl,?_⟩;refine AU (vs:=[.int .i64 (0:Int),.int .i64 (0:Int)]) d6 λI g0 d7=>AG d7 rfl rfl λg1 d8=>AG d8 rfl rfl λg2 q=> ?_;have⟨d9,e,hd⟩:=bS hd;refine Ad (λy G g=>∃ψ:AD,Sub n ψ∧y.1=g∧St ψ (cW 91 I [.int .i64 B.1.1,.int .i64 B.1.2.1]::cR 210 Qd b7 c.2.2.2.2.2.2.2.2::cR 30 (kZ (kY .i64)) b6 c.2.2.2.2.2.2.2.1::cR 150 (kZ IL) Z c.2.2.2.2.2.2.1::cW 149 m [sv ap,sv V,sv b1,sv W,sv X,sv Y,sv Z,sv b6,sv b7]::⟨GA,[.pointer D],f⟩::Wq8 J::F) G) (g:=d9) ?_ ?_
 ·refine kD e (by rw[al] <;>rfl) (λe=>?_) (λe=>?_)
  ·have dd:=q.at6;exact jY rfl ⟨n,sb,iS e,dd.at6.at6.at6.at6.at6.at6⟩
  refine kD e (by rw[al] <;>rfl) (λe=>?_) (λe=>?_)
  ·have dg:=q.at6;exact jY rfl ⟨n,sb,iS e,dg.at6.at6.at6.at6.at6.at6⟩
  exact jY rfl ⟨n,sb,iS e,q.at6.at6.at6.at6.at6.at6.at6⟩
 rintro h2 g3 ⟨s,g4,rfl,dk⟩;have bi:=Lp (x0:=c.1) (x1:=c.2.1) (x2:=c.2.2.1) (x3:=c.2.2.2.1) (x4:=c.2.2.2.2.1) (x5:=c.2.2.2.2.2.1) dk.at3.at3.at3.at4.at3.at3.at3 b8.up b9.up ba.up bb.up bd.up bf.up;have⟨dl,l,hd⟩:=bS hd;refine Ad (λy G g=>∃ψ:AD,∃bj:Bt,Sub s ψ∧bj=g∧St ψ (cO 149 Mv (jX m) bj::cW 91 I [.int .i64 B.1.1,.int .i64 B.1.2.1]::⟨GA,[.pointer D],f⟩::Wq8 J::F) G) (g:=dl) ?_ ?_
 ·refine kD l rfl (λl=>?_) (λl=>?_)
  ·have⟨dp,g5,g6,g7,g8,g9,gc,gd,gf,gg,bl,ds,dx,dy,e0,e1,e2,o⟩:=TA bi;obtain rfl:m=dp:=by simpa using bl
   clear bl;refine AF _ rfl<|AA o.at3 rfl<|AA o.at4 rfl<|AA o.at4 rfl<|Kl o λh3 gj gl u=>AI (hC (b:=m) (j:=8) u.at4 rfl) ?_;have⟨e3,e4,l⟩:=bS l;refine AZ (r:=Qd) (ms:=([(A,C,t2,d2,B.1.1,B.1.2.1,B.2.1)]:List Kn)) Tm u.tail rfl (kV u) (.cons (a:=[_,_,_,_,_,_,_]) ⟨[_],_,rfl,rfl,⟨[_],_,rfl,rfl,⟨[_],_,rfl,rfl,⟨[_],_,rfl,⟨T.2.1,rfl,bg.up⟩,⟨[_],_,rfl,rfl,⟨[_],_,rfl,rfl,rfl⟩⟩⟩⟩⟩⟩ .nil) rfl e4 ?_;intro h4 gn e5;refine AF _ rfl<|AG e5.at3 rfl rfl λgo e6=> ?_;have e7:=Lp (x0:=c.1) (x1:=c.2.1) (x2:=c.2.2.1) (x3:=c.2.2.2.1) (x4:=c.2.2.2.2.1) (x5:=c.2.2.2.2.2.1) e6.at3.at3.at3.at3.at3.at3.at3 ds dx dy e0 e1 e2;exact jY rfl ⟨s,(c.1,c.2.1,c.2.2.1,c.2.2.2.1,c.2.2.2.2.1,c.2.2.2.2.2.1,c.2.2.2.2.2.2.1,c.2.2.2.2.2.2.2.1,e3),sb,iS l,e7.at3.at3.at3.at3⟩
  exact jY rfl ⟨s,(c.1,c.2.1,c.2.2.1,c.2.2.2.1,c.2.2.2.2.1,c.2.2.2.2.2.1,c.2.2.2.2.2.2.1,c.2.2.2.2.2.2.2.1,c.2.2.2.2.2.2.2.2),sb,iS l,bi.at3.at3.at3.at3⟩
 rintro h5 gp ⟨e8,e9,gr,rfl,w⟩;refine AA w.at1 rfl<|AA w.at1 rfl<|AG w.at3 rfl rfl λgs ea=>AG ea rfl rfl λgv x=>AA x rfl<|AA x rfl ?_;exact AB ⟨e8,(B.1.1,B.1.2.1,()),e9,sb,rfl,iS hd,x.tail.at1.tail.at1⟩
noncomputable def HM (p_0:As) (c:D5) (h:(Option LkD)):Option (Option Bt):=(CI c).bind λr=>(forS (σ:=Bt) 0 r (p_0.1,p_0.2.1,p_0.2.2.1,p_0.2.2.2.1,p_0.2.2.2.2.1,p_0.2.2.2.2.2,([]:List (List FG)),([]:List (List Int)),([]:List Kn)) λb i=>(forS (σ:=(List FG×Bt)) 0 (p_0.1.length:Int) (([]:List FG),i) λd g=>(resolve_Grid_cell_D g.2 c h b d).bind λe=>(app g.1 ([(e.1,e.2.1)]:List FG)).bind λj=>some (j,e.2.2)).bind λa=>(forS (σ:=List Int) 0 (p_0.2.1.length:Int) ([]:List Int) λf k=>(Ay c b (bD .i64 ((p_0.1.length:Int)+f))).bind λl=>(app k ([l]:List Int)).bind λm=>some m).bind λn=>(app a.2.2.2.2.2.2.2.1 ([a.1]:List (List FG))).bind λo=>(app a.2.2.2.2.2.2.2.2.1 ([n]:List (List Int))).bind λp=>some (a.2.1,a.2.2.1,a.2.2.2.1,a.2.2.2.2.1,a.2.2.2.2.2.1,a.2.2.2.2.2.2.1,o,p,a.2.2.2.2.2.2.2.2.2)).bind λq=>some (some q)
theorem RR {B:Pl6}{A:As}{J:Option lT}{T:D5}{G:Option lT}{f:(Option LkD)}(gk:Dg.Glob φ) (e:Gw φ B A) (o:Pt F4 φ J T) (s0:St φ (⟨GA,[.pointer G],f⟩::F) h) {r:(Option Bt)}(hd:HM A T f=some r):
 CallsH eE 34 [(aG B),(.pointer J),(.pointer G)] h (Ae λv h'=>∃ψ:AD,∃y:Option lT,∃U:Option Bt,Sub φ ψ∧v=((.one aP):Sh).val y∧U=r∧Np GY ψ y U∧St ψ (⟨GA,[.pointer G],f⟩::F) h'):=by
 refine AN mixed func34 (RN ..) ?_;have p:B.1.2.1=kJ A.1:=e.k0.length;have V:B.2.1.2.1=kJ A.2.1:=e.k1.length;refine Db (t:=B) s0 λL fr W=>Bi (t:=B) W<|AU (vs:=[sv B.1,sv B.2.1,sv B.2.2.1,sv B.2.2.2.1,sv B.2.2.2.2.1,sv B.2.2.2.2.2.1,.slice none 0 0,.slice none 0 0,.slice none 0 0]) W λE fs bw=> ?_;have⟨fv,bx,hd⟩:=bS hd;refine AE (DW o bw bx) ?_;rintro _ fz ⟨X,t9,g0,rfl,rfl,bz⟩;refine⟨t9,rfl,?_⟩;have c0:=Lp (t6:=((none,0,0):Slc)) (t7:=((none,0,0):Slc)) (t8:=((none,0,0):Slc)) (x0:=A.1) (x1:=A.2.1) (x2:=A.2.2.1) (x3:=A.2.2.2.1) (x4:=A.2.2.2.2.1) (x5:=A.2.2.2.2.2) (((bz.nil 150 (kZ IL)).nil 30 (kZ (kY .i64))).nil 210 Qd).at3.at3.at3.at3 e.k0.up e.k1.up e.k2.up e.k3.up e.k4.up e.k5.up;have⟨g1,c1,hd⟩:=bS hd;refine Bb c1 (λc2 y K g=>∃ψ:AD,∃Y:Bt,Sub X ψ∧y.1=c2∧Y=g∧St ψ (cO 149 Mv (jX E) Y::Wq2 L B::⟨GA,[.pointer G],f⟩::F) K) ((0:Int),()) rfl ⟨X,(A.1,A.2.1,A.2.2.1,A.2.2.2.1,A.2.2.2.2.1,A.2.2.2.2.2,([]:List (List FG)),([]:List (List Int)),([]:List Kn)),sb,rfl,rfl,c0.at2.at2.at2⟩ ?_ ?_ ?_
 ·rintro _ M g2 _ _ ⟨al,c3,g3,rfl,rfl,ap⟩ d g4 Z q;refine Ai (by exact decide_eq_true Z)<|AA ap.at1 rfl ?_;have⟨g5,c4,d⟩:=bS d;refine Bb c4 (λc5 y K g=>∃ψ:AD,∃b1:List FG,∃b2:Bt,Sub al ψ∧y.1=c5∧(b1,b2)=g∧St ψ (cR 91 IL y.2.1 b1::cO 149 Mv (jX E) b2::Wq2 L B::⟨GA,[.pointer G],f⟩::F) K) ((0:Int),((none,0,0):Slc),()) rfl ⟨al,[],c3,sb,rfl,rfl,(((((ap.nil 91 IL).at3).at3).at3).at3)⟩ ?_ ?_ ?_
  ·rintro _ N g6 _ _ ⟨g7,g8,g9,gc,rfl,rfl,c6⟩ i gd c7 c8;refine Ai (dT p c7) ?_;have⟨gf,c9,i⟩:=bS i;refine AE (KK (gk.mono sb) o.up c6.at3.at2 c9) ?_;rintro _ gg ⟨ch,H,cl,gj,rfl,rfl,cm⟩;refine⟨H,rfl,?_⟩;refine AU (vs:=[.int .i64 H.1,.int .i64 H.2.1]) cm λj0 gl b3=> ?_;have⟨cp,cs,i⟩:=bS i;refine AZ (r:=IL) (ms:=([(H.1,H.2.1)]:List FG)) Tn b3.tail.at2 rfl (kV b3) (.cons (a:=[_,_]) ⟨[_],_,rfl,rfl,rfl⟩ .nil) rfl cs ?_;intro j1 gn cu;obtain rfl:=iS i;exact jZ rfl rfl ⟨ch,cp,cl,sb,c8,rfl,cu.at1.at3.at3.at3⟩
  ·rintro _ N go ⟨cw,cx,d0,gp,rfl,rfl,d1⟩ d2;refine AW (dF p d2)<|AO (kB rfl ⟨_,cw,cx,d0,sb,rfl,rfl,d1.at3.at3.at3.at3⟩)
  rintro C gr ⟨_,b4,l,c,gs,_,rfl,b5⟩;refine AA b5.at2 rfl ?_;have⟨gv,d3,d⟩:=bS d;refine Bb d3 (λd4 y K g=>∃ψ:AD,∃b6:List Int,Sub b4 ψ∧y.1=d4∧b6=g∧St ψ (cR 3 (kY .i64) y.2.1 b6::cR 91 IL C.2.1 l::cO 149 Mv (jX E) c::Wq2 L B::⟨GA,[.pointer G],f⟩::F) K) ((0:Int),((none,0,0):Slc),()) rfl ⟨b4,[],sb,rfl,rfl,((((((b5.nil 3 (kY .i64)).at4).at4).at4).at4).at4)⟩ ?_ ?_ ?_
  ·rintro _ O gx _ _ ⟨h0,h1,h2,rfl,rfl,b7⟩ k h3 d5 d6;refine Ai (dT V d5)<|AA b7.at3 rfl ?_;have⟨h4,b8,k⟩:=bS k;rw[←p]at b8;refine AE (Dr o.up b7 b8) ?_;rintro _ h5 ⟨d7,I,h6,rfl,rfl,d8⟩;refine⟨I,rfl,?_⟩;refine AU (vs:=[.int .i64 I]) d8 λj2 h7 b9=> ?_;have⟨d9,dd,k⟩:=bS k;refine AZ (r:=(kY .i64)) (ms:=([I]:List Int)) Ci b9.tail rfl (kV b9) (.cons (a:=[_]) rfl .nil) rfl dd ?_;intro j3 h8 dg;obtain rfl:=iS k;exact jZ rfl rfl ⟨d7,d9,sb,d6,rfl,dg.at4.at4.at4.at4.at4⟩
  ·rintro _ O h9 ⟨dk,dl,hb,rfl,rfl,dp⟩ ds;refine AW (dF V ds)<|AO (kB rfl ⟨_,dk,dl,sb,rfl,rfl,dp.at4.at4.at4.at4.at4⟩)
  rintro D hc ⟨_,he,s,hf,_,rfl,dx⟩;have⟨dy,hg,hh,hi,hj,hk,hl,hm,hn,ho,ba,u,w,x,z,a0,P,m⟩:=TA dx.at2;obtain rfl:E=dy:=by simpa using ba
  clear ba;refine AA m.at3 rfl<|AA m.at3 rfl<|Dk ?_ ?_
  ·refine AU (vs:=[sv C.2.1]) m λj4 hp n=>AI (hC (b:=E) (j:=7) n.at4 rfl)<|AI (hC (b:=E) (j:=6) n.at4 rfl)<|Dk ?_ ?_
   ·have e0:=n.at6;have⟨hq,hr,e1,bb⟩:=kO (t:=C.2.1) e0;have⟨e2,e3,d⟩:=bS d;refine AZ (r:=(kZ IL)) (ms:=([l]:List (List FG))) Jf bb.tail.at2 rfl (kV bb) (.cons (a:=[_]) ⟨C.2.1,rfl,e1⟩ .nil) rfl e3 ?_;intro j5 hs bd;refine AI (hC (b:=E) (j:=7) bd.at3 rfl)<|AU (vs:=[sv D.2.1]) bd λj6 ht bf=>AI (hC (b:=E) (j:=7) bf.at4 rfl) ?_;have⟨e4,hu,e5,bg⟩:=kO (t:=D.2.1) bf.at5;have⟨e6,e7,d⟩:=bS d;refine AZ (r:=(kZ (kY .i64))) (ms:=([s]:List (List Int))) Je bg.tail.at2 rfl (kV bg) (.cons (a:=[_]) ⟨D.2.1,rfl,e5⟩ .nil) rfl e7 ?_;intro j7 hv e8;refine AG e8.at3 rfl rfl λhw e9=>AG e9 rfl rfl λZ ea=> ?_;have ec:=Lp (x0:=c.1) (x1:=c.2.1) (x2:=c.2.2.1) (x3:=c.2.2.2.1) (x4:=c.2.2.2.2.1) (x5:=c.2.2.2.2.2.1) ea.at2.at2.at3.at3.at3.at3.at3 u.up w.up x.up z.up a0.up P.up;obtain rfl:=iS d;exact jZ rfl rfl ⟨e4,(c.1,c.2.1,c.2.2.1,c.2.2.2.1,c.2.2.2.2.1,c.2.2.2.2.2.1,e2,e6,c.2.2.2.2.2.2.2.2),sb,q,rfl,ec.at2.at2.at2⟩
   ·refine AU (vs:=[sv D.2.1]) n λj8 hx Q=>AI (hC (b:=E) (j:=7) Q.at5 rfl)<|AI (hC (b:=E) (j:=6) Q.at5 rfl) ?_;have⟨hy,hz,ed,bi⟩:=kO (t:=C.2.1) Q.at7;have⟨ee,ef,d⟩:=bS d;refine AZ (r:=(kZ IL)) (ms:=([l]:List (List FG))) Jf bi.at1.tail.at3 rfl (kV bi.at1) (.cons (a:=[_]) ⟨C.2.1,rfl,ed⟩ .nil) rfl ef ?_;intro j9 i0 bj;refine AI (hC (b:=E) (j:=7) bj.at4 rfl) ?_;have⟨eg,i1,ek,bl⟩:=kO (t:=D.2.1) bj.at5;have⟨el,em,d⟩:=bS d;refine AZ (r:=(kZ (kY .i64))) (ms:=([s]:List (List Int))) Je bl.at1.tail.at2 rfl (kV bl.at1) (.cons (a:=[_]) ⟨D.2.1,rfl,ek⟩ .nil) rfl em ?_;intro k6 i2 en;refine AG en.at3 rfl rfl λi3 eo=>AG eo rfl rfl λi4 er=> ?_;have es:=Lp (x0:=c.1) (x1:=c.2.1) (x2:=c.2.2.1) (x3:=c.2.2.2.1) (x4:=c.2.2.2.2.1) (x5:=c.2.2.2.2.2.1) er.at2.at2.at3.at3.at3.at3.at3 u.up w.up x.up z.up a0.up P.up;obtain rfl:=iS d;exact jZ rfl rfl ⟨eg,(c.1,c.2.1,c.2.2.1,c.2.2.2.1,c.2.2.2.2.1,c.2.2.2.2.2.1,ee,el,c.2.2.2.2.2.2.2.2),sb,q,rfl,es.at2.at2.at2⟩
  ·refine AU (vs:=[sv D.2.1]) m λk7 i5 R=>AI (hC (b:=E) (j:=7) R.at4 rfl)<|AI (hC (b:=E) (j:=6) R.at4 rfl)<|AU (vs:=[sv C.2.1]) R λk8 i6 S=>AI (hC (b:=E) (j:=7) S.at5 rfl)<|AI (hC (b:=E) (j:=6) S.at5 rfl) ?_;have⟨i7,i8,ev,bp⟩:=kO (t:=C.2.1) S.at7;have⟨ew,ex,d⟩:=bS d;refine AZ (r:=(kZ IL)) (ms:=([l]:List (List FG))) Jf bp.tail.at3 rfl (kV bp) (.cons (a:=[_]) ⟨C.2.1,rfl,ev⟩ .nil) rfl ex ?_;intro k9 i9 bs;refine AI (hC (b:=E) (j:=7) bs.at4 rfl) ?_;have⟨ey,ia,ez,bt⟩:=kO (t:=D.2.1) bs.at5;have⟨f0,f1,d⟩:=bS d;refine AZ (r:=(kZ (kY .i64))) (ms:=([s]:List (List Int))) Je bt.at1.tail.at2 rfl (kV bt.at1) (.cons (a:=[_]) ⟨D.2.1,rfl,ez⟩ .nil) rfl f1 ?_;intro l0 ib f2;refine AG f2.at3 rfl rfl λic f3=>AG f3 rfl rfl λie f4=> ?_;have f5:=Lp (x0:=c.1) (x1:=c.2.1) (x2:=c.2.2.1) (x3:=c.2.2.2.1) (x4:=c.2.2.2.2.1) (x5:=c.2.2.2.2.2.1) f4.at2.at2.at3.at3.at3.at3.at3 u.up w.up x.up z.up a0.up P.up;obtain rfl:=iS d;exact jZ rfl rfl ⟨ey,(c.1,c.2.1,c.2.2.1,c.2.2.2.1,c.2.2.2.2.1,c.2.2.2.2.2.1,ew,f0,c.2.2.2.2.2.2.2.2),sb,q,rfl,f5.at2.at2.at2⟩
 ·rintro _ M ig ⟨f6,f7,ih,rfl,rfl,f8⟩ f9;refine AW (by exact decide_eq_false (Int.not_lt.2 f9))<|AO (kB rfl ⟨_,f6,f7,sb,rfl,rfl,f8.at2.at2.at2⟩)
 rintro l1 ii ⟨_,ij,fa,ik,_,rfl,fd⟩;have⟨fl,il,fn,fo⟩:=St.freezeR (r:=GY) (GV (NB _) (GV (NB _) (GV (NB _) (GV (NB _) (GV (NB _) (GV (NB _) (GV (QE _ _) (GV (QE _ _) (QE _ _))))))))) fd;exact AB ⟨fl,(jX E),(some fa),sb,rfl,iS hd,fn,fo.tail⟩
end
end Go.Proofs.YtnlkgidlfnefbaaGreatDoor


