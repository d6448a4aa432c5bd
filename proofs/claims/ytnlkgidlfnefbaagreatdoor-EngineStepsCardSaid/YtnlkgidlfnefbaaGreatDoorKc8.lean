/- The parts DgVisitD to DgUnion, put together. Conditions: each tells its own. -/
import Derived.Test.YtnlkgidlfnefbaaGreatDoorKc5
import Derived.KernelRfl
import Derived.Test.YtnlkgidlfnefbaaGreatDoorKc7
import Derived.Lib.TrailingZeros
import Derived.Test.YtnlkgidlfnefbaaGreatDoorKc2
import Derived.WalkKit
import Derived.ProofKit
import Derived.OpenShut
import Derived.ShutString
import Derived.ChangeOld
import Derived.Below
import Derived.Test.YtnlkgidlfnefbaaGreatDoorKc3
import Derived.RangeFuncNested
import Derived.RangeFuncBound
import Derived.RangeFuncCalls
import Derived.RangeFuncLeaves
import Derived.Shelf.Abstract
import Derived.Shelf.RegionOpen
import Derived.OwnWalkIn
import Derived.TacticsInMore
import Derived.LoopNIn
import Derived.LoopIn
import Derived.RangeFuncBox
import Derived.Maps.AppendAt
set_option linter.unusedVariables false
set_option maxRecDepth 100000
set_option maxHeartbeats 4000000
open Go.Proofs.Tryz renaming prog → bD,underlying227 → lQ,underlying30 → lX,func179 → mD
open Go.IntKind renaming wrap → bO,bits → eE,signed → lR
open List renaming getElem?_eq_getElem → hA,nil_append → kK,append_toArray → kQ,length_cons → kT,size_toArray → kU,push_toArray → kV,cons_append → kZ,length_nil → lB,range → lC,filter_eq_nil_iff → lF,getElem?_eq_none → lH,range' → lK,eq_nil_of_length_eq_zero → lL,map_append → lM,length_map → lN,foldl_cons → lO,mem_range → lT,length_append → lV,getElem?_append_left → lW,append_assoc → lY,getElem_mem → mA,perm_append_comm → mE,replicate → mF,range_eq_range' → mJ,mem_cons → mL,filter_append → mP,take_add_one → mR,getElem?_map → mT,filter_cons → mU,not_mem_nil → mW
open Array renaming getElem?_eq_getElem → hC,replicate_succ → kL,replicate_zero → kO,getElem?_eq_none → mC
open Go.Eng.Ro renaming int → hM,SliceIs → lI
open BitVec renaming ofInt → kF,toNat → lD
open Option renaming bind_some → kG,isNone_some → mM
open Int renaming toNat_natCast → kH,toNat → kI,fdiv_eq_ediv_of_nonneg → lS,tdiv_eq_ediv_of_nonneg → lU,tdiv → mH,tmod → mQ,fdiv → mX
open Go.Eng.Rep renaming row → kJ,raw → kW
open Nat renaming le_refl → kX,lt_or_ge → kY,testBit_two_pow → lP,pow_lt_pow_right → mI,lt_of_le_of_lt → mN,pow_succ → mS
open Bool renaming or_false → lA,true_and → lJ,false_ne_true → mO
open List.Perm renaming cons → lG
open Go.Eng.BP renaming int → lZ
open Go.Value renaming int → mB
open Go.Eng.Sub renaming refl → mG
open Go.World renaming cell? → mK
open Go renaming Value → mY,TypeId → mZ,Program → nA,World → nB,Addr → nC
open Go.Proofs.Tryz
namespace Go.Proofs.YtnlkgidlfnefbaaGreatDoor.Dg
open Go Go.Eng
def LD (n x:Int):Bool:=decide (x<0) || decide (n≤x)
def DA (ll:List (List Int)) (x n:Int):List Int:=if x≥ (ll.length:Int) then[] else(ll[x.toNat]?.getD []).filter λy=> !LD n y
section
variable {A:Type}(ll:List (List Int)) (n:Int) (ledA:A→Int→Int→Option A) (partA:A→List Int→Option A)
abbrev Dx (A:Type):=List Int×List Int×A
noncomputable def toD (rec:Dx A→Int→Option (Dx A)) (x to:Int) (st:Dx A):Option (Dx A):=(idx st.1 to).bind λe=>(cond (e==0) (rec st to) (some st)).bind λst=>(idx st.1 x).bind λp=>(idx st.1 to).bind λq=>(Ea st.1 x (if q<p then q else p)).bind λlow=>(ledA st.2.2 x to).bind λa=>some (low,st.2.1,a)
noncomputable def ZO (x:Int) (b:Nat) (st:Dx A):Option (Dx A):=(idx st.1 x).bind λe=>cond (e !=(b:Int)) (some st)<|need (1≤b∧b - 1≤st.2.1.length∧st.2.1.length≤1073741824)<|(forS 0 ((st.2.1.drop (b - 1)).length:Int) st.1 λi low=>(idx (st.2.1.drop (b - 1)) i).bind λy=>Ea low y 9223372036854775807).bind λlow=>(partA st.2.2 (st.2.1.drop (b - 1))).bind λa=>some (low,st.2.1.take (b - 1),a)
noncomputable def Qn (rec:Dx A→Int→Option (Dx A)) (st:Dx A) (x:Int):Option (Dx A):=(app st.2.1 [x]).bind λstk=>(Ea st.1 x (stk.length:Int)).bind λlow=>need (∀l∈ll,l.length≤1073741824)<|(forS 0 ((DA ll x n).length:Int) ((low,stk,st.2.2):Dx A) λi st=>(idx (DA ll x n) i).bind λto=>toD ledA rec x to st).bind λst=>ZO partA x stk.length st
noncomputable def LE:Nat→Dx A→Int→Option (Dx A)|0=>λ_ _=>none | k+1=>Qn ll n ledA partA (LE k)
end
noncomputable def SF {A:Type}(ll:List (List Int)) (n:Int) (ledA:A→Int→Int→Option A) (partA:A→List Int→Option A) (fuel:Nat) (a:A):Option (Dx A):=need (0≤n∧n≤1073741824)<|forS 0 n ((mF n.toNat 0,[],a):Dx A) λi st=>(idx st.1 i).bind λe=>cond (e==0) (LE ll n ledA partA fuel st i) (some st)
def cloneD (l:List Int):Option (List Int):=if l.length≤1073741824 then some l else none
theorem cloneD_some {l r:List Int}(h:cloneD l=some r):l.length≤1073741824∧r=l:=by
 unfold cloneD at h;split at h
 ·rename_i g;exact⟨g,(Option.some.inj h).symm⟩
 ·cases h
theorem app28:GU bD 30 30 3 1:=⟨lX,.inl lX,⟨t3,by kernel_rfl,rfl,⟨_,rfl,rfl⟩,by decide,by decide⟩,by decide⟩
theorem gP:GU bD 227 227 226 1:=⟨lQ,.inl lQ,⟨t226,by kernel_rfl,rfl,⟨_,rfl,rfl⟩,by decide,by decide⟩,by decide⟩
theorem Fm {k:IntKind}{φ:AD}(l:List Int):(hM k).All φ (l.map (lZ k).val) l:=by
 induction l with
 |nil=>exact .nil
 |cons x l b=>exact Ro.All.cons (a:=[(lZ k).val x]) rfl b
section
variable {φ:AD}{h:AH}{F:List Chk}
theorem clone46_core {t:Slc}{l:List Int}(c:St φ F h) (d:l.length=t.2.1) (e:∀b,St φ F b→BH b t.1 (l.map (lZ .i64).val)) (f:t.1=none→l= []) (g:l.length≤1073741824):
 CallsH bD 35 [.slice t.1 t.2.1 t.2.2] h (Ae λv b=>∃y:Slc,v=((.one aS):Sh).val y∧St φ (⟨kJ 3 (hM .i64),[.slice y.1 y.2.1 y.2.2],l⟩::F) b):=by
 refine BF mixed func35 ?_;rw[IQ];unfold Fi;cases hp:t.1 with
 |none=>
  rw[f hp];exact AB ⟨(none,0,0),rfl,c.nil _ _⟩
 |some a=>
  rw[mM];refine AU (vs:=[]) c λr i s1=> ?_;have j:=St.lit (r:=hM .i64) (l:=[]) (n:=0) s1 .nil rfl (by decide);refine AZ (r:=hM .i64) (ms:=l) (l':=l) app28 j rfl (by rw[←hp];exact e i s1.tail) (Fm l) d (by unfold app;rw[if_pos (by have:=g;simp;omega)];rfl) λy m k=>AB ⟨y,rfl,k⟩
theorem TJ {t:Slc}{l:List Int}(c:St φ F h) (d:l.length=t.2.1) (e:∀b,St φ F b→BH b t.1 (l.map (lZ .u64).val)) (f:t.1=none→l= []) (g:l.length≤1073741824):
 CallsH bD 152 [.slice t.1 t.2.1 t.2.2] h (Ae λv b=>∃y:Slc,v=((.one aS):Sh).val y∧St φ (⟨kJ 226 (hM .u64),[.slice y.1 y.2.1 y.2.2],l⟩::F) b):=by
 refine BF mixed func152 ?_;rw[GF];unfold Dv;cases hp:t.1 with
 |none=>
  rw[f hp];exact AB ⟨(none,0,0),rfl,c.nil _ _⟩
 |some a=>
  rw[mM];refine AU (vs:=[]) c λr i s1=> ?_;have j:=St.lit (r:=hM .u64) (l:=[]) (n:=0) s1 .nil rfl (by decide);refine AZ (r:=hM .u64) (ms:=l) (l':=l) gP j rfl (by rw[←hp];exact e i s1.tail) (Fm l) d (by unfold app;rw[if_pos (by have:=g;simp;omega)];rfl) λy m k=>AB ⟨y,rfl,k⟩
theorem fD {k:IntKind}{t:Slc}{l:List Int}(H:lI (hM k) φ t l):t.1=none→l= []:=H.2.2.2.1
theorem ZP {k:IntKind}{t:Slc}{l:List Int}(H:lI (hM k) φ t l) {a:AH}(s:St φ F a):BH a t.1 (l.map (lZ k).val):=by have⟨vs,c,b⟩:=H.heap s.sub;rw[DH c]at b;exact b
theorem W7 {k:IntKind}{ty:mZ}{t:Slc}{l:List Int}(H:St φ (⟨kJ ty (hM k),[.slice t.1 t.2.1 t.2.2],l⟩::F) h):t.1=none→l= []:=by
 intro c;obtain⟨vs,d,f⟩:=H.all;cases l with
 |nil=>rfl
 |cons x l=>
  have e:=DH d;obtain⟨a,b,_⟩:=f 0 ((lZ k).val x) (by rw[e];rfl);rw[c]at b;cases b
theorem row_cells {k:IntKind}{ty:mZ}{t:Slc}{l:List Int}{a:AH}(s:St φ (⟨kJ ty (hM k),[.slice t.1 t.2.1 t.2.2],l⟩::F) a):BH a t.1 (l.map (lZ k).val):=by obtain⟨vs,c,b⟩:=s.all;rw[DH c]at b;exact b
theorem clone46_ro {t:Slc}{l:List Int}(k:lI (hM .i64) φ t l) (b:St φ F h) {r:List Int}(hd:cloneD l=some r):CallsH bD 35 [.slice t.1 t.2.1 t.2.2] h
 (Ae λv a=>∃ψ:AD,∃y:Slc,∃l1:List Int,Sub φ ψ∧v=((.one aS):Sh).val y∧l1=r∧St ψ (⟨kJ 3 (hM .i64),[.slice y.1 y.2.1 y.2.2],l1⟩::F) a):=by obtain⟨c,rfl⟩:=cloneD_some hd;refine(clone46_core b k.length.symm (λa s=>ZP k s) (fD k) c).mono λe a ⟨v,d,y,f,g⟩=>⟨v,d,φ,y,_,mG _,f,rfl,g⟩
theorem clone46_own {t:Slc}{l:List Int}(a:St φ (⟨kJ 3 (hM .i64),[.slice t.1 t.2.1 t.2.2],l⟩::F) h) {r:List Int}(hd:cloneD l=some r):CallsH bD 35 [.slice t.1 t.2.1 t.2.2] h
 (Ae λv b=>∃ψ:AD,∃y:Slc,∃l1:List Int,Sub φ ψ∧v=((.one aS):Sh).val y∧l1=r∧St ψ (⟨kJ 3 (hM .i64),[.slice y.1 y.2.1 y.2.2],l1⟩::⟨kJ 3 (hM .i64),[.slice t.1 t.2.1 t.2.2],l⟩::F) b):=by obtain⟨c,rfl⟩:=cloneD_some hd;refine(clone46_core a a.rowLen.symm (λb s=>row_cells s) (W7 a) c).mono λe b ⟨v,d,y,f,g⟩=>⟨v,d,φ,y,_,mG _,f,rfl,g⟩
theorem clone53_own {t:Slc}{l:List Int}(a:St φ (⟨kJ 226 (hM .u64),[.slice t.1 t.2.1 t.2.2],l⟩::F) h) {r:List Int}(hd:cloneD l=some r):CallsH bD 152 [.slice t.1 t.2.1 t.2.2] h
 (Ae λv b=>∃ψ:AD,∃y:Slc,∃l1:List Int,Sub φ ψ∧v=((.one aS):Sh).val y∧l1=r∧St ψ (⟨kJ 226 (hM .u64),[.slice y.1 y.2.1 y.2.2],l1⟩::⟨kJ 226 (hM .u64),[.slice t.1 t.2.1 t.2.2],l⟩::F) b):=by obtain⟨c,rfl⟩:=cloneD_some hd;refine(TJ a a.rowLen.symm (λb s=>row_cells s) (W7 a) c).mono λe b ⟨v,d,y,f,g⟩=>⟨v,d,φ,y,_,mG _,f,rfl,g⟩
end
end Go.Proofs.YtnlkgidlfnefbaaGreatDoor.Dg
namespace Go.Proofs.YtnlkgidlfnefbaaGreatDoor
open Go Go.Eng
section
variable {φ:AD}{h:AH}{F:List Chk}
theorem YF:R9 bD 227 226 (.int .u64 (0:Int)):=⟨lQ,⟨t226,by kernel_rfl,rfl,⟨_,rfl,rfl⟩,by decide⟩⟩
noncomputable def CG (s_0:List Int) (v_1:Int):Option Int:=
 (DF (σ:=Unit) (β:=Int) 0 (s_0.length:Int) () λa e=>
  (idx s_0 a).bind λc=>
  cond (v_1==c)
  (some (AY.done a))
  (some (AY.next ()))).bind λb=>match b with
 |.next f=>
  some (-1:Int)
 |.done d=>some d
theorem IS {A:Slc}{b:List Int}{B:Int}(d:lI (hM .i64) φ A b) (D:St φ F h) {r:Int}(hd:CG b B=some r):
 CallsH bD 153 [(sv A),(.int .i64 B)] h (Ae λv E=>∃ψ:AD,∃y:Int,Sub φ ψ∧v=((.one aI):Sh).val y∧y=r∧St ψ F E):=by
 refine AN mixed func153 (Ex ..) ?_;have e:A.2.1=List.length b:=d.length;have⟨u,i,hd⟩:=bS hd;refine BR i (λj y G g=>∃ψ:AD,Sub φ ψ∧y.1=j∧()=g∧St ψ F G) ((0:Int),(0:Int),()) rfl ⟨φ,sb,rfl,rfl,D⟩ ?_ ?_ ?_
 ·rintro _ C w _ _ ⟨f,x,rfl,rfl,c⟩ a z k l m;refine Ai (dT e k)<|gx d a c λa0 a=>kD a rfl (λa=>?_) (λa=>?_)
  ·obtain rfl:=iS a;obtain rfl:=m _ rfl;obtain rfl:=iS hd;exact Ak (Al (AB ⟨f,C.1,sb,rfl,rfl,c⟩))
  obtain rfl:=iS a;exact jZ rfl rfl ⟨f,sb,l,rfl,c⟩
 ·rintro _ C H _ ⟨n,I,rfl,rfl,o⟩ p q;subst q;refine AW (dF e p)<|AO (kB rfl ⟨_,rfl,_,n,sb,rfl,rfl,o⟩)
 rintro J K ⟨_,rfl,_,s,L,_,rfl,t⟩;exact AB ⟨s,(-1:Int),sb,rfl,iS hd,t⟩
noncomputable def Au (s_0:List Int) (v_1:Int):Option Bool:=(CG s_0 v_1).bind λt1=>some (decide (t1≥ 0))
theorem HI {j:Slc}{a:List Int}{k:Int}(b:lI (hM .i64) φ j a) (l:St φ F h) {r:Bool}(hd:Au a k=some r):
 CallsH bD 124 [(sv j),(.int .i64 k)] h (Ae λv m=>∃ψ:AD,∃y:Bool,Sub φ ψ∧v=((.one aB):Sh).val y∧y=r∧St ψ F m):=by refine AN mixed func124 (D6 ..) ?_;have⟨f,c,hd⟩:=bS hd;refine AE (IS b l c) ?_;rintro _ g ⟨d,t1,i,rfl,rfl,e⟩;refine⟨t1,rfl,?_⟩;exact AB ⟨d,(decide (t1≥ (0:Int))),sb,rfl,iS hd,e⟩
noncomputable def Dy (s_0:C9) (a:Int):Option Bool:=(cond (decide (a≥ 0)) (some (decide (a< s_0.1))) (some false)).bind λb=>some b
theorem IB {e:Option nC}{a:C9}{n:Int}(o:St φ (cO 229 Em e a::F) h) {r:Bool}(hd:Dy a n=some r):
 CallsH bD 144 [(.pointer e),(.int .i64 n)] h (Ae λv p=>∃ψ:AD,∃y:Bool,Sub φ ψ∧v=((.one aB):Sh).val y∧y=r∧St ψ (cO 229 Em e a::F) p):=by
 refine AN mixed func144 (N8 ..) ?_;have⟨d,b,hd⟩:=bS hd;refine Ad (λy q g=>∃ψ:AD,Sub φ ψ∧y.1=g∧St ψ (cO 229 Em e a::F) q) (g:=d) ?_ ?_
 ·refine kD b rfl (λb=>?_) (λb=>?_)
  ·obtain⟨j,k,rfl,c⟩:=N3 o;refine AF _ rfl<|AA (x:=(a.1)) c.at1 rfl ?_;exact jY rfl ⟨φ,sb,iS b,(JD (x0:=(a.1)) c.at1.at1)⟩
  exact jY rfl ⟨φ,sb,iS b,o⟩
 rintro s l ⟨f,m,rfl,i⟩;exact AB ⟨f,s.1,sb,rfl,iS hd,i⟩
noncomputable def Ed (s_0:C9) (a:Int):Option Bool:=((Dy s_0 a).bind λt2=>cond t2 (need ((64:Int)≠0)<|(idx s_0.2 (bO .i64 (mH a 64))).bind λb=>need ((64:Int)≠0)<|need (0≤(mQ a 64))<|some ((bO .u64 (lD (kF (eE .u64) (mX b (2 ^ (min (kI (mQ a 64)) (eE .u64)))) &&& (kF (eE .u64) 1)):Nat))==1)) (some false)).bind λc=>some c
theorem NR {j:Option nC}{b:C9}{A:Int}(B:St φ (cO 229 Em j b::F) h) {r:Bool}(hd:Ed b A=some r):
 CallsH bD 145 [(.pointer j),(.int .i64 A)] h (Ae λv C=>∃ψ:AD,∃y:Bool,Sub φ ψ∧v=((.one aB):Sh).val y∧y=r∧St ψ (cO 229 Em j b::F) C):=by
 refine AN mixed func145 (NN ..) ?_;have⟨f,a,hd⟩:=bS hd;refine Ad (λy D g=>∃ψ:AD,Sub φ ψ∧y.1=g∧St ψ (cO 229 Em j b::F) D) (g:=f) ?_ ?_
 ·have⟨n,i,a⟩:=bS a;refine AE (IB B i) ?_;rintro _ o ⟨d,t2,p,rfl,rfl,e⟩;refine⟨t2,rfl,?_⟩;refine kD a rfl (λa=>?_) (λa=>?_)
  ·obtain⟨q,s,rfl,c⟩:=N3 e;refine AF _ rfl<|AA c.at1 rfl<|Cv a id λt a=>gxO c a λk a=>Cv a id λu a=>Cv a id λw a=> ?_;exact jY rfl ⟨d,sb,iS a,(JD (x0:=(b.1)) c.at1.at1)⟩
  exact jY rfl ⟨d,sb,iS a,e⟩
 rintro E x ⟨l,z,rfl,m⟩;exact AB ⟨l,E.1,sb,rfl,iS hd,m⟩
noncomputable def Aw (s_0:C9) (a:Int):Option (Bool×C9):=((Dy s_0 a).bind λt2=>cond (!t2) (some true) ((Ed s_0 a).bind λt3=>some t3)).bind λd=>cond d (some (false,s_0)) (need ((64:Int)≠0)<|(idx s_0.2 (bO .i64 (mH a 64))).bind λb=>need ((64:Int)≠0)<|need (0≤(mQ a 64))<|(Ea s_0.2 (bO .i64 (mH a 64)) (bO .u64 (lD (kF (eE .u64) b ||| (kF (eE .u64) (bO .u64 (1 *2 ^ (min (kI (mQ a 64)) (eE .u64)))))):Nat))).bind λc=>some (true,(s_0.1,c)))
theorem CX {s:Option nC}{b:C9}{A:Int}(B:St φ (cO 229 Em s b::F) h) {r:(Bool×C9)}(hd:Aw b A=some r):
 CallsH bD 106 [(.pointer s),(.int .i64 A)] h (Ae λv C=>∃ψ:AD,∃y:Bool,∃d:C9,Sub φ ψ∧v=((.one aB):Sh).val y∧(y,d)=r∧St ψ (cO 229 Em s d::F) C):=by
 refine AN mixed func106 (NL ..) ?_;have⟨l,a,hd⟩:=bS hd;refine Ad (λy D g=>∃ψ:AD,Sub φ ψ∧y.1=g∧St ψ (cO 229 Em s b::F) D) (g:=l) ?_ ?_
 ·have⟨x,m,a⟩:=bS a;refine AE (IB B m) ?_;rintro _ z ⟨n,t2,a0,rfl,rfl,e⟩;refine⟨t2,rfl,?_⟩;refine kD a rfl (λa=>?_) (λa=>?_)
  ·exact jY rfl ⟨n,sb,iS a,e⟩
  have⟨E,o,a⟩:=bS a;refine AE (NR e o) ?_;rintro _ G ⟨p,t3,H,rfl,rfl,q⟩;refine⟨t3,rfl,?_⟩;exact jY rfl ⟨p,sb,iS a,q⟩
 rintro I J ⟨f,K,rfl,i⟩;refine kD hd rfl (λhd=>?_) (λhd=>?_)
 ·exact AB ⟨f,false,b,sb,rfl,iS hd,i⟩
 obtain⟨L,M,rfl,c⟩:=N3 i;refine AF _ rfl<|AA c.at1 rfl<|Cv hd id λN hd=>gxO c hd λO hd=>Cv hd id λP hd=>Cv hd id λal hd=> ?_;have⟨t,j,hd⟩:=bS hd;have⟨ap,k,u⟩:=c.there j;refine AF _ k (Am u (Jq c j rfl k ?_));intro Q w;exact AB ⟨f,true,(b.1,t),sb,rfl,iS hd,(JD (x0:=(b.1)) w.at1.at1)⟩
noncomputable def CH (a:Int):Option C9:=need ((64:Int)≠0)<|(GW (bO .i64 (mH (bO .i64 ((bO .i64 ((if(if 1000 <a then 1000 else a) >0 then(if 1000 <a then 1000 else a) else 0)+64)) - 1)) 64)) 0).bind λt1=>some ((if(if 1000 <a then 1000 else a) >0 then(if 1000 <a then 1000 else a) else 0),t1)
theorem ER {k:Int}(l:St φ F h) {r:C9}(hd:CH k=some r):
 CallsH bD 111 [(.int .i64 k)] h (Ae λv m=>∃ψ:AD,∃y:Option nC,∃a:C9,Sub φ ψ∧v=((.one aP):Sh).val y∧a=r∧St ψ (cO 229 Em y a::F) m):=by refine AN mixed func111 (Qi ..)<|Cv hd id λg hd=> ?_;have⟨b,c,hd⟩:=bS hd;refine Kk (r:=(hM .u64)) (x:=(0:Int)) YF l rfl rfl c ?_;intro t1 i d;refine AU (vs:=[.int .i64 (if(if(1000:Int) <k then(1000:Int) else k) >(0:Int) then(if(1000:Int) <k then(1000:Int) else k) else(0:Int)),sv t1]) d λn j e=> ?_;have f:=JD (x0:=(if(if(1000:Int) <k then(1000:Int) else k) >(0:Int) then(if(1000:Int) <k then(1000:Int) else k) else(0:Int))) e.at1.at1.at1;exact AB ⟨φ,(jX n),((if(if(1000:Int) <k then(1000:Int) else k) >(0:Int) then(if(1000:Int) <k then(1000:Int) else k) else(0:Int)),b),sb,rfl,iS hd,f⟩
noncomputable def DM (c:Int) (a:List Int):Option C9:=(CH c).bind λt1=>(forS (σ:=C9) 0 (a.length:Int) t1 λb e=>(idx a b).bind λd=>(Aw e d).bind λt6=>some t6.2).bind λf=>some f
theorem Ez {B:Int}{A:Slc}{b:List Int}(c:lI (hM .i64) φ A b) (C:St φ F h) {r:C9}(hd:DM B b=some r):
 CallsH bD 115 [(.int .i64 B),(sv A)] h (Ae λv D=>∃ψ:AD,∃y:Option nC,∃d:C9,Sub φ ψ∧v=((.one aP):Sh).val y∧d=r∧St ψ (cO 229 Em y d::F) D):=by
 refine AN mixed func115 (Rk ..) ?_;have e:A.2.1=List.length b:=c.length;have⟨L,k,hd⟩:=bS hd;refine AE (ER C k) ?_;rintro _ M ⟨f,t1,l,N,rfl,rfl,m⟩;refine⟨t1,rfl,?_⟩;have⟨O,n,hd⟩:=bS hd;refine Bb n (λo y E g=>∃ψ:AD,∃i:C9,Sub f ψ∧y.1=o∧i=g∧St ψ (cO 229 Em t1 i::F) E) ((0:Int),()) rfl ⟨f,l,sb,rfl,rfl,m⟩ ?_ ?_ ?_
 ·rintro _ G P _ _ ⟨Q,al,ap,rfl,rfl,j⟩ a R p q;refine Ai (dT e p)<|gx c a j λb1 a=> ?_;have⟨S,s,a⟩:=bS a;refine AE (CX j s) ?_;rintro _ T ⟨t,t6,u,U,rfl,rfl,w⟩;refine⟨t6,rfl,?_⟩;obtain rfl:=iS a;exact jZ rfl rfl ⟨t,u,sb,q,rfl,w⟩
 ·rintro _ G V ⟨x,z,W,rfl,rfl,a0⟩ H;refine AW (dF e H)<|AO (kB rfl ⟨_,x,z,sb,rfl,rfl,a0⟩)
 rintro X Y ⟨_,I,J,Z,_,rfl,K⟩;exact AB ⟨I,t1,J,sb,rfl,iS hd,K⟩
noncomputable def DN (s_0:C9):Option C9:=(Dg.cloneD s_0.2).bind λt5=>some (s_0.1,t5)
theorem MQ {g:Option nC}{a:C9}(t:St φ (cO 229 Em g a::F) h) {r:C9}(hd:DN a=some r):
 CallsH bD 121 [(.pointer g)] h (Ae λv u=>∃ψ:AD,∃y:Option nC,∃d:C9,Sub φ ψ∧v=((.one aP):Sh).val y∧d=r∧St ψ (cO 229 Em y d::cO 229 Em g a::F) u):=by refine AN mixed func121 (ML ..) ?_;obtain⟨f,n,rfl,c⟩:=N3 t;refine AF _ rfl<|AA (x:=(a.1)) c.at1 rfl<|AF _ rfl<|AA c.at1 rfl ?_;have⟨o,i,hd⟩:=bS hd;refine AE (Dg.clone53_own c i) ?_;rintro _ p ⟨k,t5,l,q,rfl,rfl,e⟩;refine⟨t5,rfl,?_⟩;refine AI (St.cell (b:=f) (j:=0) e.at2 rfl)<|AU (vs:=[.int .i64 a.1,sv t5]) e λw s m=> ?_;exact AB ⟨k,(jX w),(a.1,l),sb,rfl,iS hd,((JD (x0:=(a.1)) ((JD (x0:=(a.1)) m.at1.at1.at1).at1).at2.at1).at1)⟩
end
end Go.Proofs.YtnlkgidlfnefbaaGreatDoor
namespace Go.Proofs.YtnlkgidlfnefbaaGreatDoor.Dg
open Go Go.Eng
theorem fE {n:Nat}(h:n<18446744073709551616):bO .u64 (n:Int)=(n:Int):=by
 unfold bO;simp only[eE,lR]
 have:(n:Int) % 18446744073709551616=(n:Int):=by omega
 simp;omega
theorem YG {n:Int}(a: -9223372036854775808≤n) (b:n≤9223372036854775807):bO .i64 n=n:=by unfold bO;simp only[eE,lR];simp;omega
theorem Lq {w:Nat}(a:w<18446744073709551616):(kF (eE .u64) (w:Int)).toNat=w:=by
 rw[BitVec.toNat_ofInt];have e:((2 ^ eE .u64:Nat):Int)=18446744073709551616:=by decide
 rw[e];omega
theorem ZQ {k:Nat}(a:k<64):bO .u64 ((1:Int) *2 ^ (min k (eE .u64)))=((2 ^ k:Nat):Int):=by
 have b:min k (eE .u64)=k:=by simp only[eE];omega
 have c:(1:Int) *2 ^ k=((2 ^ k:Nat):Int):=by simp
 rw[b,c];exact fE (by
  have:2 ^ k<2 ^ 64:=mI (by decide) a
  simpa using this)
theorem Ub {k:Nat}(a:k<64):(2:Nat) ^ k<18446744073709551616:=by
 have:2 ^ k<2 ^ 64:=mI (by decide) a
 simpa using this
theorem eB {a b:Nat}(c:a<18446744073709551616) (d:b<18446744073709551616):a ||| b<18446744073709551616:=by
 have:=Nat.or_lt_two_pow (n:=64) (x:=a) (y:=b) (by simpa using c) (by simpa using d)
 simpa using this
theorem fF {a b:Nat}(c:a<18446744073709551616):a &&& b<18446744073709551616:=mN Nat.and_le_left c
theorem cS {w v:Nat}(a:w<18446744073709551616) (b:v<18446744073709551616):
 bO .u64 (lD (kF (eE .u64) (w:Int) ||| (kF (eE .u64) (v:Int))):Nat)=((w ||| v:Nat):Int):=by rw[BitVec.toNat_or,Lq a,Lq b];exact fE (eB a b)
theorem Qo {w v:Nat}(a:w<18446744073709551616) (b:v<18446744073709551616):
 bO .u64 (lD (kF (eE .u64) (w:Int) &&& (kF (eE .u64) (v:Int))):Nat)=((w &&& v:Nat):Int):=by rw[BitVec.toNat_and,Lq a,Lq b];exact fE (fF a)
theorem Uc {w j:Nat}(a:w<18446744073709551616) (b:64≤j):w.testBit j=false:=Nat.testBit_lt_two_pow (Nat.lt_of_lt_of_le a (by
 have:2 ^ 64≤2 ^ j:=Nat.pow_le_pow_right (by decide) b
 simpa using this))
theorem ZR {w k:Nat}(a:w<18446744073709551616) (f:k<64):
 ((bO .u64 (lD (kF (eE .u64) (mX (w:Int) (2 ^ (min k (eE .u64)))) &&& (kF (eE .u64) (1:Int))):Nat))==(1:Int))=w.testBit k:=by
 have b:min k (eE .u64)=k:=by simp only[eE];omega
 have c:mX (w:Int) (2 ^ k)=((w / 2 ^ k:Nat):Int):=by
  rw[lS _ (Int.pow_nonneg (by decide))];simp
 have d:(1:Int)=((1:Nat):Int):=rfl;rw[b,c,d,Qo (mN (Nat.div_le_self _ _) a) (by decide)];have e:w / 2 ^ k &&& 1=(w / 2 ^ k) % 2:=Nat.and_one_is_mod _;rw[e,Nat.testBit_eq_decide_div_mod_eq];by_cases h:w / 2 ^ k % 2=1
 ·rw[h];rfl
 ·have:w / 2 ^ k % 2=0:=by omega
  rw[this];rfl
abbrev Aa:=Int×List Int
def KD (a:List Int) (i:Nat):Bool:=((a[i / 64]?).getD 0).toNat.testBit (i % 64)
def mem (s:Aa) (i:Int):Bool:=decide (0≤i) && KD s.2 i.toNat
structure OkS (s:Aa):Prop where
 lo:0≤s.1
 hi:s.1≤1000
 len:s.2.length=(s.1.toNat+63) / 64
 word:∀x∈s.2,0≤x∧x<18446744073709551616
 top:∀i:Nat,s.1≤(i:Int)→KD s.2 i=false
def okB (s:Aa):Bool:=decide (0≤s.1) && decide (s.1≤1000) && decide (s.2.length=(s.1.toNat+63) / 64) && s.2.all (λx=>decide (0≤x) && decide (x<18446744073709551616)) && (lC (64 *s.2.length - s.1.toNat)).all λk=> !KD s.2 (s.1.toNat+k)
theorem cT (s:Aa):okB s=true↔OkS s:=by
 unfold okB;simp only[Bool.and_eq_true,decide_eq_true_eq,List.all_eq_true,Bool.not_eq_true',lT];constructor
 ·rintro⟨⟨⟨⟨a,b⟩,c⟩,d⟩,e⟩;refine⟨a,b,c,d,λi f=> ?_⟩;by_cases g:i<64 *s.2.length
  ·have:=e (i - s.1.toNat) (by omega)
   rwa [show s.1.toNat+(i - s.1.toNat)=i by omega]at this
  ·unfold KD;rw[lH (by omega)];simp
 ·rintro⟨a,b,c,d,e⟩;exact⟨⟨⟨⟨a,b⟩,c⟩,d⟩,λk _=>e _ (by omega)⟩
instance (s:Aa):Decidable (OkS s):=decidable_of_iff _ (cT s)
theorem OkS.at {s:Aa}(H:OkS s) {k:Nat}(a:(k:Int) <s.1):∃w:Nat,∃h:k / 64<s.2.length,s.2[k / 64] =(w:Int)∧w<18446744073709551616∧KD s.2 k=w.testBit (k % 64):=by
 have b:=H.len;have h:k / 64<s.2.length:=by omega
 have c:=H.word _ (mA h);refine⟨s.2[k / 64].toNat,h,by omega,by omega,?_⟩;unfold KD;rw[hA h];rfl
theorem W8 {s:Aa}(H:OkS s) {i:Int}(h:i<0∨s.1≤i):mem s i=false:=by
 unfold mem;rcases h with h | h
 ·rw[decide_eq_false (by omega)];rfl
 ·rw[H.top i.toNat (by omega),Bool.and_false]
theorem O8 {s:Aa}(H:OkS s) {i:Int}(h:mem s i=true):0≤i∧i<s.1:=by
 by_cases a:i<0∨s.1≤i
 ·rw[W8 H a]at h;cases h
 ·omega
theorem OG (s:Aa) (k:Nat):mem s (k:Int)=KD s.2 k:=by unfold mem;rw[decide_eq_true (by omega),kH,lJ]
theorem ZS (k:Nat) (a:k<1000):bO .i64 (mH (k:Int) 64)=((k / 64:Nat):Int):=by rw[lU (by omega),YG (by omega) (by omega)];omega
theorem ZT (k:Nat):mQ (k:Int) 64=((k % 64:Nat):Int):=by rw[Int.tmod_eq_emod_of_nonneg (by omega)];omega
theorem eC (s:Aa) (i:Int):Dy s i=some (decide (0≤i∧i<s.1)):=by
 unfold Dy;by_cases h:0≤i
 ·rw[decide_eq_true (show i≥0 from h),cond_true,kG];by_cases a:i<s.1
  ·rw[decide_eq_true a,decide_eq_true ⟨h,a⟩]
  ·rw[decide_eq_false a,decide_eq_false λg=>a g.2]
 ·rw[decide_eq_false (show ¬i≥0 from h),cond_false,kG,decide_eq_false λg=>h g.1]
theorem fG {s:Aa}(H:OkS s) (i:Int):Ed s i=some (mem s i):=by
 unfold Ed;rw[eC,kG];by_cases h:0≤i∧i<s.1
 ·obtain⟨k,rfl⟩:∃k:Nat,i=(k:Int):=⟨i.toNat,by omega⟩;have⟨w,a,b,c,d⟩:=H.at h.2
  have:=H.hi
  rw[decide_eq_true h,cond_true,ZS k (by omega),ZT,GI a,Fl (by decide)];simp only[kG];rw[Fl (by decide),Fl (by omega),b,kH,ZR c (Nat.mod_lt _ (by decide)),OG,d];rfl
 ·rw[decide_eq_false h,W8 H (by omega)];rfl
theorem W9 {a:List Int}{k:Nat}(b:k / 64<a.length) (v:Nat) (j:Nat):KD (a.set (k / 64) (v:Int)) j=if j / 64=k / 64 then v.testBit (j % 64) else KD a j:=by
 unfold KD;rw[List.getElem?_set];by_cases h:j / 64=k / 64
 ·rw[if_pos h.symm,if_pos b,if_pos h];rfl
 ·rw[if_neg λe=>h e.symm,if_neg h]
theorem Ud {j k:Nat}(h:j / 64=k / 64):(decide (k % 64=j % 64))=decide (j=k):=by
 by_cases e:j=k
 ·subst e;simp
 ·rw[decide_eq_false e,decide_eq_false (by omega)]
theorem OkS.set {s:Aa}(H:OkS s) {k v:Nat}(c:(k:Int) <s.1) (f:v<18446744073709551616) (d:∀j:Nat,s.1≤(j:Int)→j / 64=k / 64→v.testBit (j % 64)=false):OkS (s.1,s.2.set (k / 64) (v:Int)):=by
 have⟨w,h,_⟩:=H.at c;refine⟨H.lo,H.hi,?_,?_,?_⟩
 ·show(s.2.set _ _).length=_;rw[List.length_set];exact H.len
 ·intro x a;rcases List.mem_or_eq_of_mem_set a with a | a
  ·exact H.word x a
  ·subst a;omega
 ·intro j b;show KD (s.2.set _ _) j=false;rw[W9 h];by_cases e:j / 64=k / 64
  ·rw[if_pos e];exact d j b e
  ·rw[if_neg e];exact H.top j b
theorem add_ok {s:Aa}(H:OkS s) (i:Int):∃s',Aw s i=some (decide (0≤i∧i<s.1) && !mem s i,s')∧OkS s'∧s'.1=s.1∧ ∀j,mem s' j=(mem s j || decide (j=i∧0≤i∧i<s.1)):=by
 unfold Aw;rw[eC,fG H];simp only[kG];by_cases h:0≤i∧i<s.1
 ·rw[decide_eq_true h];simp only[Bool.not_true,cond_false,kG,lJ];cases hm:mem s i with
  |true=>
   refine⟨s,rfl,H,rfl,λj=> ?_⟩;by_cases b:j=i
   ·subst b;rw[hm];rfl
   ·rw[decide_eq_false λg=>b g.1,lA]
  |false=>
   obtain⟨k,rfl⟩:∃k:Nat,i=(k:Int):=⟨i.toNat,by omega⟩;have⟨w,c,d,l,o⟩:=H.at h.2
   have:=H.hi
   have a:k % 64<64:=Nat.mod_lt _ (by decide);have f:=eB l (Ub a);refine⟨(s.1,s.2.set (k / 64) ((w ||| 2 ^ (k % 64):Nat):Int)),?_,H.set h.2 f ?_,rfl,λj=> ?_⟩
   ·rw[cond_false,ZS k (by omega),ZT,GI c,Fl (by decide)];simp only[kG];rw[Fl (by decide),Fl (by omega),d,kH,ZQ a,cS l (Ub a),IA (by omega) (by omega),kH];rfl
   ·intro j b e;have m:=H.top j b
    have:KD s.2 j=w.testBit (j % 64):=by
     unfold KD;rw[e,hA c,d];rfl
    rw[this]at m;rw[Nat.testBit_or,m,lP,Ud e,decide_eq_false (by omega)];rfl
   ·by_cases b:0≤j
    ·obtain⟨j,rfl⟩:∃q:Nat,j=(q:Int):=⟨j.toNat,by omega⟩;rw[OG,OG];show KD (s.2.set _ _) j=_;rw[W9 c];have n:decide (((j:Nat):Int)=(k:Int)∧(0:Int) ≤(k:Int)∧(k:Int) <s.1)=decide (j=k):=by
      by_cases e:j=k
      ·rw[decide_eq_true e,decide_eq_true ⟨by omega,h.1,h.2⟩]
      ·rw[decide_eq_false e,decide_eq_false (by omega)]
     rw[n];by_cases e:j / 64=k / 64
     ·rw[if_pos e,Nat.testBit_or,lP,Ud e];unfold KD;rw[e,hA c,d];rfl
     ·rw[if_neg e,decide_eq_false (by intro g;subst g;exact e rfl),lA]
    ·unfold mem;rw[decide_eq_false b,decide_eq_false (by omega)];rfl
 ·rw[decide_eq_false h];refine⟨s,rfl,H,rfl,λj=> ?_⟩;rw[decide_eq_false λg=>h g.2,lA]
theorem Ue (n j:Nat):KD (mF n 0) j=false:=by
 unfold KD;rw[List.getElem?_replicate]
 split<;>simp
def MR (n:Int):Int:=if n<0 then 0 else if 1000<n then 1000 else n
theorem new_ok (n:Int):∃s,CH n=some s∧OkS s∧s.1=MR n∧ ∀j,mem s j=false:=by
 have b:(if(if(1000:Int) <n then(1000:Int) else n) >(0:Int) then(if(1000:Int) <n then(1000:Int) else n) else(0:Int))=MR n:=by
  unfold MR
  split<;>split<;>(try split) <;>omega
 have a:0≤MR n∧MR n≤1000:=by
  unfold MR;split
  ·omega
  ·split<;>omega
 unfold CH;rw[b];obtain⟨k,c⟩:∃k:Nat,MR n=(k:Int):=⟨(MR n).toNat,by omega⟩;rw[c]at a ⊢;have d:bO .i64 ((k:Int)+64)=((k+64:Nat):Int):=by rw[YG (by omega) (by omega)];omega
 have e:bO .i64 (((k+64:Nat):Int) - 1)=((k+63:Nat):Int):=by rw[YG (by omega) (by omega)];omega
 have f:bO .i64 (mH ((k+63:Nat):Int) 64)=(((k+63) / 64:Nat):Int):=by
  rw[lU (by omega),YG (by omega) (by omega)];omega
 rw[d,e,f,Fl (by decide)];have g:GW (((k+63) / 64:Nat):Int) (0:Int)=some (mF ((k+63) / 64) 0):=by
  unfold GW;rw[if_pos ⟨by omega,by omega⟩,kH]
 rw[g];refine⟨_,rfl,⟨a.1,a.2,?_,?_,?_⟩,rfl,?_⟩
 ·simp
 ·intro x h
  have:=List.eq_of_mem_replicate h
  subst this;decide
 ·intro i _;exact Ue _ _
 ·intro j;unfold mem;rw[Ue,Bool.and_false]
theorem of_ok (n:Int) (l:List Int) (q:l.length≤9223372036854775807):∃s,DM n l=some s∧OkS s∧s.1=MR n∧ ∀j,mem s j=(decide (0≤j∧j<MR n) && l.contains j):=by
 have⟨r,t,u,v,w⟩:=new_ok n;unfold DM;rw[t];simp only[kG];have⟨s,d,e,x,m⟩:=CF (σ:=Aa) (n:=l.length) (λk s=>OkS s∧s.1=MR n∧ ∀j,mem s j=(decide (0≤j∧j<MR n) && (l.take k).contains j)) q (s:=r) (f:=λc y=>
  (idx l c).bind λh=>
  (Aw y h).bind λt8=>
  some t8.2) ⟨u,v,λj=>by rw[w];simp⟩ (λk s o ⟨z,p,A⟩=>by
   obtain⟨s',B,C,D,E⟩:=add_ok z l[k];refine⟨s',?_,C,D.trans p,λj=> ?_⟩
   ·rw[GI o,kG,B];rfl
   ·rw[E,A,p,mR,hA o];simp only[Option.toList_some,List.contains_append,List.contains_cons,List.contains_nil,lA];by_cases i:j=l[k]
    ·rw[←i];simp;intro a b _;exact⟨a,b⟩
    ·have d:(j==l[k])=false:=by simpa using i
     have e:decide (j=l[k] ∧0≤l[k] ∧l[k] <MR n)=false:=decide_eq_false λg=>i g.1;rw[d,e,lA,lA])
 rw[List.take_length]at m;refine⟨s,?_,e,x,m⟩;rw[d];rfl
theorem ZU:∀w:Nat,w≠0→ ∃k m,w=2 ^ k *(2 *m+1):=by
 intro w
 induction w using Nat.strongRecOn with
 |ind w a=>
  intro b;by_cases h:w % 2=1
  ·exact⟨0,w / 2,by rw[Nat.pow_zero,Nat.one_mul];omega⟩
  ·obtain⟨k,m,e⟩:=a (w / 2) (by omega) (by omega);refine⟨k+1,m,?_⟩;rw[mS,Nat.mul_comm (2 ^ k) 2,Nat.mul_assoc,←e];omega
def Gc (w:Nat):List Nat:=(lC 64).filter w.testBit
theorem Qp:Gc 0= []:=by unfold Gc;rw[lF];intro a _;simp
theorem O9 {w j:Nat}:j∈Gc w↔j<64∧w.testBit j=true:=by unfold Gc;rw[List.mem_filter,lT]
theorem XA {w:Nat}(q:w≠0) (i:w<18446744073709551616):∃k,k<64∧w.testBit k=true∧(∀j,j<k→w.testBit j=false)∧(∀j,(w &&& (w - 1)).testBit j=(w.testBit j && !decide (j=k)))∧w &&& (18446744073709551616 - w)=2 ^ k:=by
 have⟨k,m,e⟩:=ZU w q;have b:∀j,w.testBit j=(decide (k≤j) && (2 *m+1).testBit (j - k)):=λj=>by rw[e,Nat.testBit_two_pow_mul]
 have n:w.testBit k=true:=by
  rw[b,Nat.sub_self,decide_eq_true (kX k),lJ,Nat.testBit_zero];simp
 have l:k<64:=by
  rcases kY k 64 with h | h
  ·exact h
  ·rw[Uc i h]at n;cases n
 have c:∀j,j<k→w.testBit j=false:=λj o=>by rw[b,decide_eq_false (by omega),Bool.false_and]
 have p:0<2 ^ k:=Nat.two_pow_pos k;have g:w - 1=2 ^ (k+1) *m+(2 ^ k - 1):=by
  rw[e,Nat.mul_add,Nat.mul_one,mS,←Nat.mul_assoc];omega
 have d:∀j,(w - 1).testBit j=if j<k then true else if j=k then false else w.testBit j:=λj=>by
  rw[g,Nat.testBit_two_pow_mul_add _ (by rw[mS];omega),Nat.testBit_two_pow_sub_one];by_cases a:j<k
  ·rw[if_pos (by omega),if_pos a,decide_eq_true a]
  ·by_cases f:j=k
   ·rw[if_pos (by omega),if_neg a,if_pos f,decide_eq_false a]
   ·rw[if_neg (by omega),if_neg a,if_neg f,b,decide_eq_true (by omega),lJ,show j - k=(j - (k+1))+1 by omega,Nat.testBit_succ];rw[show(2 *m+1) / 2=m by omega]
 refine⟨k,l,n,c,λj=> ?_,?_⟩
 ·rw[Nat.testBit_and,d];by_cases a:j<k
  ·rw[if_pos a,c j a];rfl
  ·rw[if_neg a];by_cases f:j=k
   ·subst f;simp
   ·rw[if_neg f,decide_eq_false f,Bool.and_self,Bool.not_false,Bool.and_true]
 ·apply Nat.eq_of_testBit_eq;intro j;rw[Nat.testBit_and,lP];have r:18446744073709551616 - w=2 ^ 64 - ((w - 1)+1):=by omega
  rw[r,Nat.testBit_two_pow_sub_succ (by omega),d];by_cases o:j<64
  ·rw[decide_eq_true o,lJ];by_cases a:j<k
   ·rw[if_pos a,c j a,decide_eq_false (by omega)];rfl
   ·rw[if_neg a];by_cases f:j=k
    ·rw[if_pos f,f,n];simp
    ·rw[if_neg f,decide_eq_false (λh=>f h.symm)];cases w.testBit j<;>rfl
  ·rw[Uc i (by omega),Bool.false_and];exact(decide_eq_false (by omega)).symm
theorem NS {w k:Nat}(m:k<64) (c:w.testBit k=true) (d:∀j,j<k→w.testBit j=false) {v:Nat}(b:∀j,v.testBit j=(w.testBit j && !decide (j=k))):Gc w=k::Gc v:=by
 unfold Gc;have e:lC 64=lC k++k::lK (k+1) (63 - k):=by
  rw[mJ,mJ];have h:lK 0 64=lK 0 k++lK (0+1 *k) (64 - k):=by
   rw[List.range'_append,show k+(64 - k)=64 by omega]
  rw[h,show 64 - k=(63 - k)+1 by omega,List.range'_succ];simp
 have f:(lC k).filter w.testBit= []:=by
  rw[lF];intro j a;rw[d j (lT.1 a)];exact mO
 have g:(lC k).filter v.testBit= []:=by
  rw[lF];intro j a;rw[b,d j (lT.1 a)];exact mO
 have i:(lK (k+1) (63 - k)).filter w.testBit=(lK (k+1) (63 - k)).filter v.testBit:=by
  refine List.filter_congr λj a=> ?_;rw[List.mem_range'_1]at a;rw[b,decide_eq_false (by omega),Bool.not_false,Bool.and_true]
 have l:v.testBit k=false:=by rw[b,c];simp
 rw[e,mP,mP,f,g,kK,kK,mU,mU,c,l,i];rfl
def Glob (φ:AD):Prop:= ∃t f,φ 0=some (.cells (Lib.deBruijn64tab.map λ(z:Nat)=>mB .u8 (z:Int)).toArray t f)
theorem Glob.mono {φ ψ:AD}(H:Glob φ) (a:Sub φ ψ):Glob ψ:=by obtain⟨t,f,h⟩:=H;exact⟨t,f,a _ _ h⟩
def tzN (w:Nat):Nat:=(Gc w).headD 64
def tzD (x:Int):Option Int:=if 0≤x∧x<18446744073709551616 then some (tzN x.toNat:Nat) else none
theorem ZV {w:Nat}(a:w≠0) (h:w<18446744073709551616):bO .u64 (0 - (w:Int))=((18446744073709551616 - w:Nat):Int):=by
 unfold bO;simp only[eE,lR]
 have:(0 - (w:Int)) % 18446744073709551616=((18446744073709551616 - w:Nat):Int):=by omega
 simp;omega
theorem ZW (n:Nat):bO .u64 (n:Int)=((n % 18446744073709551616:Nat):Int):=by unfold bO;simp only[eE,lR];simp
theorem ZX {w k:Nat}(a:w≠0) (h:w<18446744073709551616) (b:w &&& (18446744073709551616 - w)=2 ^ k):
 mX (bO .u64 ((bO .u64 (lD (kF (eE .u64) (w:Int) &&& (kF (eE .u64) (bO .u64 (0 - (w:Int))))):Nat)) *(285870213051353865:Int))) (2 ^ (min (kI (58:Int)) (eE .u64)))=((2 ^ k *285870213051353865 % 18446744073709551616 / 288230376151711744:Nat):Int):=by
 rw[ZV a h,Qo h (by omega),b];have c:((2 ^ k:Nat):Int) *(285870213051353865:Int)=((2 ^ k *285870213051353865:Nat):Int):=by
  rw[Int.natCast_mul]
  have:((285870213051353865:Nat):Int)=285870213051353865:=rfl
  rw[this]
 rw[c,ZW];have d:(2:Int) ^ (min (kI (58:Int)) (eE .u64))=((288230376151711744:Nat):Int):=by decide
 rw[d,lS _ (by omega)]
 generalize 2 ^ k *285870213051353865 % 18446744073709551616=q
 omega
theorem ZY {l:List Nat}{i k:Nat}(h:i<l.length) (a:l.getD i 0=k):l[i]? =some k:=by rw[List.getD_eq_getElem?_getD,hA h]at a;rw[hA h];exact congrArg some a
theorem V3:Lib.deBruijn64tab.length=64:=by decide
theorem ZZ {l:List Nat}{φ:AD}{t:mZ}{f:Nat×Nat}(a:φ 0=some (.cells (l.map λ(z:Nat)=>mB .u8 (z:Int)).toArray t f)) {i k:Nat}(h:l[i]? =some k):EN φ (Addr.add ⟨0,0,none⟩ (kI (i:Int) *1))=some (.int .u8 (k:Int)):=by rw[DB,kH,Nat.mul_one,Nat.zero_add];unfold EN;rw[a];simp[h]
theorem fH {φ:AD}{h:AH}{F:List Chk}{x:Int}(m:Glob φ) (c:St φ F h) {r:Int}(hd:tzD x=some r):CallsH bD 180 [.int .u64 x] h
 (Ae λv n=>∃ψ:AD,∃y:Int,Sub φ ψ∧v=((.one aI):Sh).val y∧y=r∧St ψ F n):=by
 unfold tzD at hd;split at hd
 ·rename_i B
  cases hd;obtain⟨w,rfl⟩:∃w:Nat,x=(w:Int):=⟨x.toNat,by omega⟩;rw[kH];refine BF mixed func180 ?_;rw[GZ];unfold D7;refine ZB (λd=> ?_) (λd=> ?_)
  ·have b:w=0:=by
    have:(w:Int)=0:=by simpa using d
    omega
   subst b;unfold tzN;rw[Qp];exact AB ⟨φ,64,mG _,rfl,rfl,c⟩
  ·have b:w≠0:=by
    intro e;subst e;cases d
   obtain⟨k,g,o,p,q,s⟩:=XA b (by omega);have u:tzN w=k:=by
    unfold tzN;rw[NS g o p q];rfl
   have⟨j,l⟩:=Lib.deBruijn64_at k g;rw[ZX b (by omega) s,u]
   generalize 2 ^ k *285870213051353865 % 18446744073709551616 / 288230376151711744=i at j l
   refine Am (by decide) (Am ⟨by omega,by omega⟩ ?_);obtain⟨t,f,z⟩:=m;have A:i<Lib.deBruijn64tab.length:=by rw[V3];exact j
   have a:=ZZ z (ZY A l);refine AL (x:=(k:Int)) (AM c.sub a) rfl ?_;rw[YG (by omega) (by omega)];exact AB ⟨φ,(k:Int),mG _,rfl,rfl,c⟩
 ·cases hd
end Go.Proofs.YtnlkgidlfnefbaaGreatDoor.Dg
namespace Go.Eng
open Go Go.RowKit
def ES (P:nA) (h:AH):Nat→mZ→List mY→Prop
 | 0,_,_=>False
 |n+1,t,cs=>match P.underlying t with
  |some .bool=>∃b,cs= [.bool b]
  |some (.int k)=>∃x,cs= [.int k x] ∧(Lit.int k x).wf=true
  |some .string=>∃s,cs= [.string s] ∧s.size≤maxLen
  |some (.slice e)=>∃p len cap,cs= [.slice p len cap] ∧len≤cap∧cap≤maxLen∧(p=none→len=0∧cap=0)∧
   ∀i,i<len→ ∃c,c.length=P.cellsOf e∧(∀j v,c[j]? =some v→ ∃a,p=some a∧BJ h (a.add (i *P.cellsOf e+j))=some v)∧ES P h n e c
  |some (.struct fs)=>cs.length=P.cellsOf t∧ ∀f∈fs.toList,ES P h n f.type ((cs.drop f.offset).take (P.cellsOf f.type))
  |_=>True
theorem Rn {α β:Type}{f:α→Option β}:∀ {l:List α}{r:List β},l.mapM f=some r→ ∀a∈l,∃b,f a=some b:=by
 intro l
 induction l with
 |nil=>intro r _ a c;cases c
 |cons x l d=>
  intro r h a c;rw[List.mapM_cons]at h;cases hx:f x with
  |none=>simp[hx]at h
  |some b=>
   cases hl:l.mapM f with
   |none=>simp[hx,hl]at h
   |some e=>
    rcases mL.1 c with rfl | c
    ·exact⟨b,hx⟩
    ·exact d hl a c
theorem Rp {H:Type}{p:mZ×mY→H}{P:nA}{w:nB}{d:Nat}{c:Nat→Bool}{held:Bool}:∀(fuel:Nat) (t:mZ) (cs:List mY) (x:DataW H×List MemPlace),
 DataW.trod p P w d c held fuel t cs=some x→ES P w.heap fuel t cs:=by
 intro fuel
 induction fuel with
 |zero=>intro t cs x h;simp[DataW.trod]at h
 |succ n s=>
  intro t cs x h;have z:=h;rw[DataW.trod_step]at h;unfold DataW.trodStep at h;unfold ES
  split<;>rename_i hd<;>try trivial
  ·rw[hd]at h;split at h<;>first | cases h | skip
   all_goals rename_i k;first | cases k | skip
   all_goals first | exact⟨_,rfl⟩|skip
  ·rw[hd]at h;split at h<;>first | cases h | skip
   all_goals rename_i k;first | cases k | skip
   split at h
   ·rename_i A;obtain⟨rfl,B⟩:=A;exact⟨_,rfl,B⟩
   ·cases h
  ·rw[hd]at h;split at h<;>first | cases h | skip
   all_goals rename_i k;first | cases k | skip
   split at h
   ·rename_i C;exact⟨_,rfl,C⟩
   ·cases h
  ·rename_i e
   rcases DataW.trod_slice hd z with⟨rfl,_⟩|⟨a,len,cap,elems,rest,m,hm,rfl,_,_,hl,hc,b,hel,_⟩
   ·exact⟨none,0,0,rfl,kX _,Nat.zero_le _,λ_=>⟨rfl,rfl⟩,λi u=>by omega⟩
   ·cases hm;refine⟨some a,len,cap,rfl,hl,hc,(λh=>by cases h),λi u=> ?_⟩;have o:=hel i u;rw[hA (by omega),Option.bind_eq_some_iff]at o;obtain⟨l,D,E⟩:=o;obtain⟨_,F,G⟩:=World.cells?_some D;refine⟨l,F,λj v q=>⟨a,rfl,?_⟩,s _ _ _ E⟩;have r:j<P.cellsOf e:=by
     rcases kY j l.length with g | g
     ·omega
     ·rw[lH g]at q;cases q
    have:=G j r
    rw[q,Ac]at this;exact this
  ·rename_i K
   rw[hd]at h;dsimp only at h;by_cases b:cs.length=P.cellsOf t
   ·rw[if_pos b,Option.map_eq_some_iff]at h;obtain⟨L,o,_⟩:=h;refine⟨b,λf I=> ?_⟩;have⟨y,J⟩:=Rn o f I;exact s _ _ _ J
   ·rw[if_neg b]at h;cases h
theorem reads_of_Trod {H:Type}{c:mZ×mY→H}{P:nA}{w:nB}{b:Nat}{a:Nat→Bool}{held:Bool}{t:mZ}{v:mY}{d:DataW H}{ps:List MemPlace}
 (h:DataW.Trod c P w b a held t v d ps):∃n,ES P w.heap n t v.cells.toList:=by obtain⟨fuel,e⟩:=h;exact⟨fuel,Rp fuel t _ _ e⟩
def Uf (h:AH) (v:mY) (a:AH):Prop:=v= .bool true∧FV [] h a
theorem law_walk {P:nA}{f:FuncId}{args:Array mY}{w:nB}(H:CallsH P f args.toList w.heap (Ae (Uf w.heap))):
 Calls P f args w λe h=>e= .returned (.bool true)∧Below w.heap.size w h:=by
 have:=H w rfl
 rw[Array.toArray_toList]at this;refine this.mono λe h a=> ?_;obtain⟨b,a⟩:=a;cases e with
 |returned v=>
  obtain⟨j,d,rfl,i⟩:=a;cases d;exact⟨rfl,b.os,b.tape,b.output,i.1,λk g=>i.2 k g (by simp)⟩
 |panicked c=>obtain⟨j,d,_⟩:=a;cases d
 |outgrown=>exact a.elim
section
variable {P:nA}{h:AH}
theorem PA {n:Nat}{t:mZ}{k:IntKind}{cs:List mY}(a:P.underlying t=some (.int k)) (H:ES P h n t cs):∃x,cs= [.int k x] ∧(Lit.int k x).wf=true:=by
 cases n with
 |zero=>exact H.elim
 |succ n=>unfold ES at H;rw[a]at H;exact H
theorem Ug {n:Nat}{t e:mZ}{cs:List mY}(c:P.underlying t=some (.slice e)) (H:ES P h n t cs):
 ∃m p len cap,cs= [.slice p len cap] ∧len≤cap∧cap≤maxLen∧(p=none→len=0∧cap=0)∧
  ∀i,i<len→ ∃b,b.length=P.cellsOf e∧(∀j v,b[j]? =some v→ ∃a,p=some a∧BJ h (a.add (i *P.cellsOf e+j))=some v)∧ES P h m e b:=by
 cases n with
 |zero=>exact H.elim
 |succ n=>
  unfold ES at H;rw[c]at H;obtain⟨p,len,cap,d,f⟩:=H;exact⟨n,p,len,cap,d,f⟩
theorem Uh {α:Type}{p:Nat→α→Prop}:∀(n:Nat),(∀i,i<n→ ∃x,p i x)→ ∃l:List α,l.length=n∧ ∀i x,l[i]? =some x→p i x:=by
 intro n
 induction n with
 |zero=>intro _;exact⟨[],rfl,λi x b=>by simp at b⟩
 |succ n d=>
  intro H;obtain⟨l,c,e⟩:=d λi f=>H i (by omega);obtain⟨x,b⟩:=H n (by omega);refine⟨l++ [x],by simp[c],λi y a=> ?_⟩;rcases Nat.lt_trichotomy i l.length with g | g | g
  ·rw[lW g]at a;exact e i y a
  ·subst g;simp at a;subst a;rw[c];exact b
  ·rw[lH (by simp;omega)]at a;cases a
end
end Go.Eng
namespace Go.Eng
open Go
def ReadsTo {α:Type}(P:nA) (h:AH) (t:mZ) (r:Ro α) (G:α→Prop):Prop:= ∀n cs,ES P h n t cs→ ∃x,r.is (BZ h) cs x∧G x
theorem LF {P:nA}{h:AH}{t:mZ}{k:IntKind}(a:P.underlying t=some (.int k)):ReadsTo P h t (hM k) λx=>(Lit.int k x).wf=true:=λn cs H=>by
 obtain⟨x,rfl,b⟩:=PA a H;exact⟨x,rfl,b⟩
theorem GP {α:Type}{P:nA}{h:AH}{t e:mZ}{r:Ro α}{G:α→Prop}(C:P.underlying t=some (.slice e)) (D:P.cellsOf e=r.sz) (E:ReadsTo P h e r G):
 ReadsTo P h t (Ro.list r) λl=>l.length≤maxLen∧ ∀x∈l,G x:=λn cs H=>by
 obtain⟨m,p,len,cap,rfl,F,I,J,K⟩:=Ug C H;obtain⟨l,L,A⟩:=Uh (p:=λi (x:List mY×α)=>r.is (BZ h) x.1 x.2∧G x.2∧ ∀j v,x.1[j]? =some v→ ∃a,p=some a∧BJ h (a.add (i *r.sz+j))=some v) len (λi q=>by
  obtain⟨d,U,M,N⟩:=K i q;have⟨x,s,O⟩:=E m d N;exact⟨(d,x),s,O,λj v b=>by have:=M j v b;rw[D]at this;exact this⟩)
 have u:∀k,k≤len→ ∃vs,r.All (BZ h) vs ((l.take k).map (·.2))∧vs.length=k *r.sz∧DC (BZ h) p vs:=λk=>by
  induction k with
  |zero=>intro _;exact⟨[],.nil,by simp,λi v b=>by simp at b⟩
  |succ k Q=>
   intro V;obtain⟨vs,o,B,w⟩:=Q (by omega);have f:k<l.length:=by omega
   have⟨b1,W,R⟩:=A k l[k] (hA f);refine⟨vs++l[k].1,?_,by rw[lV,B,r.len b1,Nat.add_mul,Nat.one_mul],λi v b=> ?_⟩
   ·rw[mR,hA f,lM];exact o.append (.one b1)
   ·rcases kY i vs.length with g | g
    ·rw[lW g]at b;exact w i v b
    ·rw[List.getElem?_append_right g]at b;have⟨a,S,c⟩:=R _ v b;refine⟨a,S,?_⟩;rw[M8,show i=k *r.sz+(i - vs.length) by omega];exact c
 have⟨vs,o,B,w⟩:=u len (kX _);rw[List.take_of_length_le (by omega)]at o;refine⟨l.map (·.2),⟨(p,len,cap),rfl,by simp[L],F,I,λz=> ?_,vs,o,w⟩,by simp;omega,λx s=> ?_⟩
 ·have:=(J z).1
  have:l= []:=lL (by omega)
  rw[this];rfl
 ·obtain⟨y,T,rfl⟩:=List.mem_map.1 s;obtain⟨i,q⟩:=List.getElem?_of_mem T;exact(A i y q).2.1
theorem Za {α:Type}{P:nA}{h:AH}{t:mZ}{r:Ro α}{G:List α→Prop}(H:ReadsTo P h t (Ro.list r) G) {n:Nat}{p:Option nC}{len cap:Nat}(a:ES P h n t [.slice p len cap]):∃l,lI r (BZ h) (p,len,cap) l∧G l:=by obtain⟨l,⟨⟨d,f,g⟩,e,b⟩,c⟩:=H n _ a;simp only[List.cons.injEq,Value.slice.injEq,and_true]at e;obtain⟨rfl,rfl,rfl⟩:=e;exact⟨l,b,c⟩
theorem St.start (h:AH):St (BZ h) [] h:=mG _
theorem Qq {P:nA}{f:FuncId}{args:List mY}{h:AH}
 (H:CallsH P f args h (Ae λv a=>∃ψ:AD,∃y:Bool,Sub (BZ h) ψ∧v=((.one (.atom .bool)):Sh).val y∧y=true∧St ψ [] a)):CallsH P f args h (Ae (Uf h)):=by
 refine H.mono λe a k=> ?_;obtain⟨v,l,ψ,y,m,c,n,s1⟩:=k;subst n;refine⟨v,l,c,?_⟩;have b:=m.trans s1.sub;refine⟨?_,λi j _=> ?_⟩
 ·rcases kY a.size h.size with g | g
  ·have d:BZ h a.size=some h[a.size]:=hC g
   have:=BC (b _ _ d)
   omega
  ·exact g
 ·have d:BZ h i=some h[i]:=hC j;have o:a[i]? =some h[i]:=b _ _ d;rw[o,hC j]
end Go.Eng
namespace Go.Proofs.YtnlkgidlfnefbaaGreatDoor.Dg
open Go Go.Eng Go.RowKit Go.Shelf
attribute [local go_sem] Oper.semAt_some
def KpL (L:List Nat) (W a:nB):Prop:= ∀b∈L,∀o,W.heap[b]? =some o→a.heap[b]? =some o
theorem KpL.refl (L:List Nat) (W:nB):KpL L W W:=λ_ _ _ h=>h
theorem KpL.trans {L:List Nat}{A B C:nB}(h:KpL L A B) (k:KpL L B C):KpL L A C:=λb a o c=>k b a o (h b a o c)
theorem KpL.cell {L:List Nat}{b off:Nat}{A B:nB}(h:KpL L A B) (c:b∈L) {v:mY}(a:A.cell? ⟨b,off,none⟩=some v):B.cell? ⟨b,off,none⟩=some v:=by
 unfold mK at a ⊢;dsimp only at a ⊢;cases ho:A.heap[b]? with
 |none=>rw[ho]at a;cases a
 |some o=>rw[h b c o ho];rw[ho]at a;exact a
theorem KpL.glob {L:List Nat}{A B:nB}(h:KpL L A B) (a:0∈L) (b:Glob (BZ A.heap)):Glob (BZ B.heap):=by obtain⟨t,f,c⟩:=b;exact⟨t,f,h 0 a _ c⟩
theorem KpL.grown {L:List Nat}{A B:nB}(h:A.grownBy B none):KpL L A B:=λb _ o a=>by
 have c:b<A.heap.size:=by
  rcases kY b A.heap.size with g | g
  ·exact g
  ·rw[mC g]at a;cases a
 obtain⟨_,_,_,_,d⟩:=h;rw[d b c (by simp)];exact a
def EA (a:List Nat) (k:Nat):List Int:=((lC k).map λ(i:Nat)=>(Gc (a[i]?.getD 0)).map λ(j:Nat)=>((i:Int) *64+(j:Int))).flatten
theorem Qr (a:List Nat):EA a 0= []:=rfl
theorem Hd (a:List Nat) (k:Nat):EA a (k+1)=EA a k++(Gc (a[k]?.getD 0)).map λ(j:Nat)=>((k:Int) *64+(j:Int)):=by unfold EA;rw[List.range_succ,lM,List.flatten_append];simp
theorem gQ (m:Nat) {W:nB}{u:Nat}(o:Glob (BZ W.heap)) (w:u<18446744073709551616):CallsIn Fence.wide m bD 180 #[.int .u64 (u:Int)] W λe a=>e= .returned (.int .i64 ((tzN u:Nat):Int))∧W.grownBy a none:=by
 refine callsIn_wide.2 ?_;have h:=fH (x:=(u:Int)) o (St.start W.heap) (r:=((tzN u:Nat):Int)) (by unfold tzD;rw[if_pos (by omega),kH]) W rfl;refine h.mono λe a ⟨b,d⟩=> ?_;cases e with
 |returned v=>
  obtain⟨p,f,ψ,y,j,q,s,l⟩:=d;cases f;refine⟨by rw[q,s];rfl,b.os,b.tape,b.output,?_,?_⟩
  ·rcases kY a.heap.size W.heap.size with g | g
   ·have i:BZ W.heap a.heap.size=some W.heap[a.heap.size]:=hC g
    have:=BC ((j.trans l.sub) _ _ i)
    omega
   ·exact g
  ·intro k n _;have i:BZ W.heap k=some W.heap[k]:=hC n;have t:a.heap[k]? =some W.heap[k]:=(j.trans l.sub) _ _ i;rw[t,hC n]
 |panicked c=>obtain⟨p,f,_⟩:=d;cases f
 |outgrown=>exact d.elim
theorem Zb {a b:Nat}(c:a<18446744073709551616) (d:b<18446744073709551616):bits BinOp.and IntKind.u64 (a:Int) (b:Int)=((a &&& b:Nat):Int):=Qo c d
theorem Zc (a:List Nat) {k m:Nat}(h:k≤m):∃r,EA a m=EA a k++r:=by
 induction h with
 |refl=>exact⟨[],by simp⟩
 |step _ b=>
  obtain⟨r,e⟩:=b;exact⟨r++_,by rw[Nat.succ_eq_add_one,Hd,e,lY]⟩
set_option maxRecDepth 100000 in
theorem Zd (n:Nat) (hn:3≤n) (l A s off cap:Nat) (a:List Nat) (H:∀w∈a,w<18446744073709551616) (T:a.length≤1000) (J U:List Int→nB→Prop) (W:nB) (gk:Glob (BZ W.heap)) (hJ:AbidesFrom W.heap.size J)
 (hY:∀c x t,J c t→c.length< (EA a a.length).length→YieldAt Fence.wide (n - 1) bD l #[.int .i64 x] t λe y=>
  (e= .returned (.bool true)∧J (c++ [x]) y∧KpL [A,s,0] t y)∨(e= .returned (.bool false)∧U (c++ [x]) y))
 (a0:W.cell? ⟨A,0,none⟩=some (.slice (some ⟨s,off,none⟩) a.length cap)) (hc:∀j,j<a.length→W.cell? ⟨s,off+j,none⟩=some (.int .u64 ((a[j]?.getD 0:Nat):Int))) (h0:J [] W):
 CallsIn Fence.wide n bD 179 #[.func (.yield l) #[] #[],.pointer (jX A)] W λe y=>(∃v,e= .returned v)∧
  ((∃V,V=EA a a.length∧J V y)∨(∃c,c<+:EA a a.length∧U c y)):=by
 refine callsIn_of_wp mD rfl trivial ?_ rfl;simp only[ntmps179,kU,kT,lB,Nat.reduceAdd,Nat.reduceSub,kL,kO,kV,kQ,kK,kZ]
 gi_wp2
 gi_loopw [7] (λi wr=>∃k:Nat,k≤a.length∧i= .int .i64 k∧J (EA a k) wr∧KpL [A,s,0] W wr)
  (λi _=>a.length - (intOf i).toNat)
 case atStart=>exact⟨0,Nat.zero_le _,rfl,h0,KpL.refl _ _⟩
 case round=>
  obtain⟨k,hk,rfl,B,f⟩:=hrel;by_cases g:k<a.length
  ·have I:wr.cell? ⟨s,off+k,none⟩=some (.int .u64 ((a[k]?.getD 0:Nat):Int)):=f.cell (by simp) (hc k g);obtain⟨x0,C⟩:∃x0,a[k]?.getD 0=x0:=⟨_,rfl⟩;have K:x0<18446744073709551616:=by
    rw[←C,hA g];exact H _ (mA g)
   have b:=Hd a k;rw[C]at I b;obtain⟨rest,d⟩:=Zc a (k:=k+1) (m:=a.length) (by omega)
   gi_wp2
   gi_loopw [4] (λx D=>∃(u:Nat) (p:List Nat),x= .int .u64 (u:Int)∧u<18446744073709551616∧Gc x0=p++Gc u∧J (EA a k++p.map λ(j:Nat)=>((k:Int) *64+(j:Int))) D∧KpL [A,s,0] wr D)
    (λx _=>(intOf x).toNat)
   case atStart=>exact⟨_,[],rfl,K,rfl,by simpa using B,KpL.refl _ _⟩
   case round=>
    obtain⟨u,p,rfl,L,G,E,h⟩:=hrel;by_cases F:u=0
    ·subst F
     gi_wp2
     exact⟨⟨k+1,by omega,rfl,by rw[b,G,Qp,List.append_nil];exact E,f.trans h⟩,by simp only[intOf];omega⟩
    ·have⟨z,X,Y,Z,z4,z5⟩:=XA F L;have hz:tzN u=z:=by
      unfold tzN;rw[NS X Y Z z4];rfl
     have o:=NS X Y Z z4;have M:=(f.trans h).glob (by simp) gk
     gi_wp2
     refine⟨trivial,λ_=>by omega,(gQ _ M L).mono ?_⟩;rintro e t ⟨rfl,hg⟩;have N:=hJ _ _ t none E hg (λr e=>by cases e);rw[hz];have q:(EA a k++p.map λ(j:Nat)=>((k:Int) *64+(j:Int))).length< (EA a a.length).length:=by
      rw[d,b,G,o];simp only[lV,lN,kT];omega
     have⟨fn,tmps,assign,body,hy,hR⟩:=hY _ ((k:Int) *64+(z:Int)) t N q
     gi_wp2
     refine⟨λ_=>by omega,hR.mono ?_⟩;rintro e W3 (⟨rfl,O,P⟩|⟨rfl,Q⟩)
     ·gi_wp2
      have R:(u:Int) - 1=((u - 1:Nat):Int):=by omega
      have a1:u &&& (u - 1) ≤u - 1:=Nat.and_le_right;have S:J (EA a k++(p++ [z]).map λ(j:Nat)=>((k:Int) *64+(j:Int))) W3:=by
       rw[lM,←lY];exact O
      rw[R,Zb L (by omega)];exact⟨⟨_,p++ [z],rfl,by omega,by rw[G,o,lY];rfl,S,(h.trans (KpL.grown hg)).trans P⟩,by simp only[intOf];omega⟩
     ·gi_wp2
      refine bodyPost_ret (results_none rfl _ _ _) rfl ?_;refine⟨⟨_,rfl⟩,.inr ⟨_,?_,Q⟩⟩;rw[d,b,G,o,lM,List.map_cons];exact⟨((Gc (u &&& (u - 1))).map λ(j:Nat)=>((k:Int) *64+(j:Int))) ++rest,by simp⟩
  ·obtain rfl:k=a.length:=by omega
   gi_wp2
   go_end0
   exact⟨⟨_,rfl⟩,.inl ⟨_,rfl,B⟩⟩
attribute [local go_sem] Oper.semAt_some
theorem KpL.of_below {L:List Nat}{n₀:Nat}(a:∀b∈L,b<n₀) {A B:nB}(h:Below n₀ A B):KpL L A B:=λb c o d=>(h.block b (a b c)).trans d
theorem KpL.putObj {L:List Nat}{n₀:Nat}(a:∀b∈L,b<n₀) (W:nB) (l:Nat) (o c:Obj) (f:n₀≤l) (h:W.heap[l]? =some o) (g:o.isCells=false) (i:o.isWalk=false):KpL L W (W.putObj l c):=λb d q e=>by
 have:=a b d
 rw[World.putObj_heap_other (by omega)];exact e
theorem cU:(prog.info? 3).map (λi=>(i.zero,i.size,i.bytes))=some (some (.int .i64 0),1,8):=by kernel_rfl
abbrev cV (x:Int):Array mY:=#[.int .i64 x]
set_option maxRecDepth 100000 in
theorem TK (n:Nat) (Z:3≤n) (g:Nat) (lb:Array mY) (M:∀args w,(callFunc g args).run bD w= .ok (.enter g args) w) (L:List Nat) (m:List Int) (N:List Int→Prop) (F:m.length≤1000000) (w:nB) (G:∀b∈L,b<w.heap.size)
 (o:SeqStopsK Fence.wide (n - 1) bD g lb cV (KpL L) (λH=>H=m) N m.length w):
 CallsIn Fence.wide n bD 181 #[.slice none 0 0,.func (.func g) #[] lb] w λe I=>∃v,e= .returned v∧I.ownsRow w.heap.size 3 1 v m.length (m.map (mB .i64))∧(v= .slice none 0 0↔m= [])∧Below w.heap.size w I:=by
 have O:1≤n:=by omega
 have⟨P,Q,y,z,A⟩:=info_parts cU;refine callsIn_of_wp_marks func181 rfl trivial ?_ rfl;simp only[ntmps181,kU,kT,lB,Nat.reduceAdd,Nat.reduceSub,kL,kO,kV,kQ,kK,kZ]
 gi_wp2
 have R:=Boxed.new w 30 (.slice none 0 0);have p:Below w.heap.size w (w.alloc (.cells #[.slice none 0 0] 30)):=(Below.refl _ w).alloc (kX _) _;refine wpIn_rangeFunc_ownG rfl O (gf:=g) (lb:=lb) rfl trivial M o (λh k=>h.trans k) (KpL.putObj (λb S=>by have:=G b S;simp;omega)) p (λ_=>rfl)
  (λa W=>(∃v,Boxed W w.heap.size 30 v∧W.ownsRow w.heap.size 3 1 v a.length (a.map (mB .i64))∧(v= .slice none 0 0↔a= []))∧Below w.heap.size w W)
  (λ_ _ _=>False)
  (OwnFrom.and (Own.from (holdsRow_own w.heap.size w.heap.size 30 3 1 (λa=>a.length) (λa=>a.map (mB .i64)) (λa v=>v= .slice none 0 0↔a= [])) _) (ownFrom_below (kX _) (by simp)))
  (λ_ _ _ _ _ T _ _=>T)
  ⟨⟨_,R,World.ownsRow_nil _ _ _ _,by simp⟩,p⟩
  (λx=>{tmps:=#[.slice none 0 0,.func (.func g) #[] lb,.pointer (some ⟨w.heap.size,0,none⟩),undef,.slice none 0 0,.int .i64 x,.func (.func g) #[] lb,.int .i64 x,undef,undef,undef,undef,undef],defers:=[]}) ?assign ?body ?done ?stop
 case assign=>
  intro l x W K q
  gi_wp2
  exact q
 case body=>
  rintro l a x W ⟨⟨v,u,d,i⟩,r⟩ hlt;have U:=u.cell
  gi_wp2_with (gi_at_builtin;refine wpListIn_append_own _ rfl _ _ 30 rfl w.heap.size 3 P (.int .i64 0) 1 8 lX Q y z A rfl (by decide) _ _ _ rfl (d.alloc _) ⟨W.heap.size,0,none⟩ 1 1 [.int .i64 x] rfl rfl (cell_one_new _ _ _) (by simp[Value.oneCell']) (by unfold maxLen;omega) (by omega) (by have:=r.size;simp;omega) ?_;intro v' w1 f j _;obtain⟨g',J,rfl⟩:=ownsRow_succ f;obtain⟨s,B,C,E,t⟩:=u.appended (by decide) d r.size (kX _) f j;have V:=s.cell;have X:=s.frozen)
  exact⟨E.from _,KpL.of_below G t,⟨_,B,by simpa using C,by simp⟩,r.trans t⟩
 case done=>
  rintro D H W Y rfl ⟨⟨v,u,d,i⟩,r⟩ q;have U:=u.cell
  gi_wp2
  refine⟨by simp,.inl ⟨_,_,rfl,run_takeDeferred q,?_⟩⟩;exact⟨_,results_tmp rfl _ _ _,v,rfl,ownsRow_putObj d _ q rfl,i,r.trans (belowK_b (w:=w) (kX _) W D _ _ (by simp at Y;omega) q rfl rfl)⟩
 case stop=>
  rintro D c a W _ _ h _;exact h.elim
theorem V4 (n:Nat) (o:4≤n) (g:Nat) (lb:Array mY) (i:∀args w,(callFunc g args).run bD w= .ok (.enter g args) w) (L:List Nat) (a:List Int) (h:List Int→Prop) (c:a.length≤1000000) (w:nB) (j:∀b∈L,b<w.heap.size)
 (d:SeqStopsK Fence.wide (n - 1 - 1) bD g lb cV (KpL L) (λys=>ys=a) h a.length w):
 CallsIn Fence.wide n bD 149 #[.func (.func g) #[] lb] w λe f=>∃v,e= .returned v∧f.ownsRow w.heap.size 3 1 v a.length (a.map (mB .i64))∧(v= .slice none 0 0↔a= [])∧Below w.heap.size w f:=by
 refine callsIn_of_wp func149 rfl trivial ?_ rfl;simp only[ntmps149,kU,kT,lB,Nat.reduceAdd,Nat.reduceSub,kL,kO,kV,kQ,kK,kZ]
 gi_wp2
 refine⟨trivial,λ_=>by omega,(TK (n - 1) (by omega) g lb i L a h c w j d).mono ?_⟩;rintro e f ⟨v,rfl,k,l,m⟩
 gi_wp2
 go_ret
 exact⟨v,rfl,k,l,m⟩
attribute [local go_sem] Oper.semAt_some
section
variable {φ:AD}{h:AH}{F:List Chk}
theorem St.ofOwns {α:Type}{φ:AD}{Γ:List Chk}{w j:nB}{e:mZ}{r:Ro α}{v:mY}{l:List α}{vs:List mY}(H:St φ Γ w.heap) (B:Below w.heap.size w j) (F:j.ownsRow w.heap.size e 1 v l.length vs) (G:r.All φ vs l) (h:r.sz=1):
 ∃t:Slc,v= .slice t.1 t.2.1 t.2.2∧St φ (⟨kJ e r,[.slice t.1 t.2.1 t.2.2],l⟩::Γ) j.heap:=by
 have C:=H.sub;have n:Sub φ (BZ j.heap):=λk o a=>by
  have D:=C k o a
  have:=BC D
  show j.heap[k]? =some o;rw[B.block k this];exact D
 have I:StX φ w.heap Γ λk=>w.heap.size≤k:=StX.more H λk a=>.inl a;have E:StX φ j.heap Γ λk=>w.heap.size≤k:=StX.heap I (λk a _=>B.block k a) n;obtain⟨M,⟨rfl,J⟩|⟨g,cap,p,rfl,K,c,x,y,z,A⟩⟩:=F
 ·have:l= []:=lL J
  subst this;exact⟨(none,0,0),rfl,St.nil _ _ (E.less λk a=>a.elim)⟩
 ·refine⟨(some ⟨g,0,none⟩,l.length,cap),rfl,λk=>k=g,⟨some ⟨g,0,none⟩,l.length,cap,vs,rfl,rfl,y,?_,.inr ⟨g,0,p,rfl,c,?_,x,?_,λi u m=> ?_⟩,G,λi=>by simp[blk]⟩,λk a=>⟨?_,λq=>q⟩,E.less λk a=> ?_⟩
  ·intro b off s q;cases q;exact⟨rfl,λL ty f d=>by rw[c]at d;cases d;rw[h];exact z⟩
  ·rw[h];omega
  ·rw[h];omega
  ·rw[←A,List.getElem?_take]at m;split at m
   ·rw[Nat.zero_add];simpa using m
   ·cases m
  ·subst a;cases hφ:φ k with
   |none=>rfl
   |some o=>have:=BC (C k o hφ);omega
  ·rcases a with a | a
   ·exact a.elim
   ·subst a;exact K
theorem TL (n:Nat) (l b:Nat) (p:Option nC) (cap:Nat) (J:List Int→nB→Prop) (W:nB) (c:W.cell? ⟨b,0,none⟩=some (.slice p 0 cap)) (d:J [] W):
 CallsIn Fence.wide n bD 179 #[.func (.yield l) #[] #[],.pointer (jX b)] W λe f=>(∃v,e= .returned v)∧J [] f:=by
 refine callsIn_of_wp mD rfl trivial ?_ rfl;simp only[ntmps179,kU,kT,lB,Nat.reduceAdd,Nat.reduceSub,kL,kO,kV,kQ,kK,kZ]
 gi_wp2
 gi_loopw [7] (λi wr=>i= .int .i64 0∧J [] wr) (λ_ _=>0)
 case atStart=>exact⟨rfl,d⟩
 case round=>
  obtain⟨rfl,a⟩:=hrel
  gi_wp2
  go_end0
  exact⟨⟨_,rfl⟩,a⟩
theorem Qs (n:Nat) (U:3≤n) {w:nB}{d:Nat}{t:Slc}{l:List Int}(V:Glob (BZ w.heap)) (m:∀x∈l,0≤x∧x<18446744073709551616) (r:l.length≤1000)
 (s:w.cell? ⟨d,0,none⟩=some (.slice t.1 t.2.1 t.2.2)) (O:l.length=t.2.1) (P:BH w.heap t.1 (l.map (lZ .u64).val)) (F:∀a,t.1=some a→a.spot=none) (g:d<w.heap.size) (G:0<w.heap.size):
 ∃L:List Nat,(∀b∈L,b<w.heap.size∧(b=d∨b=0∨ ∃a,t.1=some a∧b=a.block))∧SeqStopsK Fence.wide n bD 179 #[.pointer (jX d)] cV (KpL L) (λX=>X=EA (l.map kI) l.length) (λH=>H<+:EA (l.map kI) l.length) (EA (l.map kI) l.length).length w:=by
 cases l with
 |nil=>
  refine⟨[],(λb h=>by cases h),λq J Q W z R I S K=> ?_⟩;have D:=(z.cell (p:=⟨d,0,none⟩) g).trans s;have Y:t.2.1=0:=O.symm;rw[Y]at D;exact(TL n q d t.1 t.2.2 J W D K).mono λe W' ⟨Z,i⟩=>⟨Z,.inl ⟨[],rfl,i⟩⟩
 |cons x l=>
  obtain⟨⟨k,off,sp⟩,E,_⟩:=P 0 ((lZ .u64).val x) rfl
  have:sp=none:=F _ E
  subst this;have c:∀j v,(((x::l).map (lZ .u64).val))[j]? =some v→w.cell? ⟨k,off+j,none⟩=some v:=λj v M=>by
   obtain⟨a',A,B⟩:=P j v M;rw[E]at A;cases A;rw[DB]at B;exact B
  have C:k<w.heap.size:=by
   have:=c 0 _ rfl
   unfold mK at this;dsimp only at this;cases ho:w.heap[k]? with
   |none=>rw[ho]at this;cases this
   |some o=>exact BC ho
  refine⟨[d,k,0],λb h=> ?_,λq J Q W z R I S K=> ?_⟩
  ·simp only[mL,mW,or_false]at h;rcases h with rfl | rfl | rfl
   ·exact⟨g,.inl rfl⟩
   ·exact⟨C,.inr (.inr ⟨_,E,rfl⟩)⟩
   ·exact⟨G,.inr (.inl rfl)⟩
  ·have D:=(z.cell (p:=⟨d,0,none⟩) g).trans s;have N:((x::l).map kI).length=t.2.1:=by rw[lN];exact O
   have f:((x::l).map kI).length=(x::l).length:=lN _;have T:=Zd n U q d k off t.2.2 ((x::l).map kI) (λu hu=>by
    obtain⟨y,hy,rfl⟩:=List.mem_map.1 hu
    have:=m y hy
    omega) (by rw[f];exact r) J Q W (KpL.glob (L:=[0]) (KpL.of_below (λb h=>by simp at h;omega) z) (by simp) V) R (by rw[f];exact S) (by rw[N,←E];exact D) (λj i=>by
    rw[f]at i;have M:((x::l).map (lZ .u64).val)[j]? =some (.int .u64 (x::l)[j]):=by
     rw[mT,hA i];rfl
    have h3:=(z.cell (p:=⟨k,off+j,none⟩) C).trans (c j _ M);have h4:=m _ (mA i);have h5:((((x::l).map kI)[j]?.getD 0:Nat):Int)=(x::l)[j]:=by
     rw[mT,hA i];show(((x::l)[j].toNat:Nat):Int)=_;omega
    rw[h5];exact h3) K
   rw[f]at T;exact T
def Ju (s:Aa):Option (List Int):=if s.2.length≤1000∧ ∀x∈s.2,0≤x∧x<18446744073709551616 then some (EA (s.2.map kI) s.2.length) else none
theorem YH (w:Nat):(Gc w).length≤64:=by
 unfold Gc
 have:=List.length_filter_le w.testBit (lC 64)
 simpa using this
theorem SG (a:List Nat) (k:Nat):(EA a k).length≤64 *k:=by
 induction k with
 |zero=>exact kX _
 |succ k b=>
  rw[Hd,lV,lN]
  have:=YH (a[k]?.getD 0)
  omega
abbrev Bc (p:Option nC) (x:Aa):Chk:=⟨Rep.obj 229 (Rep.prod (Rep.ro (hM .i64)) (kJ 226 (hM .u64))),[.pointer p],x⟩
theorem Ui {p:Option nC}{s:Aa}(A:St φ (Bc p s::F) h) (B:s.2.length≤1073741824):CallsH bD 148 [.pointer p] h
 (Ae λv C=>∃ψ:AD,∃r:Nat,∃y:Slc,Sub φ ψ∧v= .func (.func 179) #[] #[.pointer (jX r)] ∧St ψ (⟨kW 227,[.pointer (jX r)],[.slice y.1 y.2.1 y.2.2]⟩::⟨kJ 226 (hM .u64),[.slice y.1 y.2.1 y.2.2],s.2⟩::Bc p s::F) C):=by
 refine BF mixed func148 ?_;rw[MJ];unfold H7;obtain⟨e,D,w,E,G⟩:=A.open;obtain rfl:p=some ⟨e,0,none⟩:=by simpa using w
 clear w;have H:=G.at1;obtain⟨J,K,rfl,z,f⟩:=H.pair;obtain⟨g,c⟩:=f.ro;subst g;obtain⟨a,i⟩:=c.rowCs;subst i;have d:St φ (⟨kJ 226 (hM .u64),[.slice a.1 a.2.1 a.2.2],s.2⟩::⟨kW 229,[.pointer (jX e)],[.int .i64 s.1,.slice a.1 a.2.1 a.2.2]⟩::F) _:=c;refine AF _ rfl<|AA (b:=e) (j:=1) (x:=a) d.at1 rfl<|AE (clone53_own d (r:=s.2) (by unfold cloneD;rw[if_pos B])) ?_;rintro _ L ⟨ψ,y,l1,k,rfl,rfl,l⟩;refine⟨y,rfl,?_⟩;refine AU (vs:=[.slice none 0 0]) l ?_;intro r M m;refine Cj (b:=r) (j:=0) (v:=.slice y.1 y.2.1 y.2.2) m rfl (by decide) ?_;intro I n;have o:=n.at 2;have q:=St.unro (r:=(hM .i64)) (cs:=[.int .i64 s.1]) (x:=s.1) o rfl;have t:=St.unpair q;have u:St ψ (Bc (jX e) (s.1,s.2)::⟨kW 227,[.pointer (jX r)],[.slice y.1 y.2.1 y.2.2]⟩::⟨kJ 226 (hM .u64),[.slice y.1 y.2.1 y.2.2],s.2⟩::F) I:=St.shut (t.at 3);exact AB ⟨ψ,r,y,k,rfl,(u.at 2).at 2⟩
theorem Uj {k:IntKind}{ty:mZ}{t:Slc}{l:List Int}(s:St φ (⟨kJ ty (hM k),[.slice t.1 t.2.1 t.2.2],l⟩::F) h):∀a,t.1=some a→a.spot=none:=by
 intro a g;obtain⟨F,⟨p,n,c,vs,e,m,o,i,j,f,q⟩,r,H⟩:=s;simp only[List.cons.injEq,Value.slice.injEq,and_true]at e;rw[g]at e;rcases j with⟨d,_⟩|⟨b,off,arr,d,_⟩
 ·rw[d]at e;cases e.1
 ·rw[d]at e;cases e.1;rfl
theorem Ze {p:Option nC}{s:Aa}(D:Glob φ) (E:St φ (Bc p s::F) h) {r:List Int}(hd:Ju s=some r):CallsH bD 117 [.pointer p] h
 (Ae λv u=>∃ψ:AD,∃y:Slc,∃l1:List Int,Sub φ ψ∧v=((.one aS):Sh).val y∧l1=r∧St ψ (⟨kJ 3 (hM .i64),[.slice y.1 y.2.1 y.2.2],l1⟩::Bc p s::F) u):=by
 unfold Ju at hd;split at hd
 ·rename_i x
  cases hd;obtain⟨d,z⟩:=x;refine BF mixed func117 ?_;rw[MI];unfold H6;refine AE (Ui E (by omega)) ?_;rintro _ g ⟨ψ,c,y,i,rfl,s1⟩;refine⟨some (.func 179,#[],#[.pointer (jX c)]),rfl,?_⟩;have j:=(D.mono i).mono s1.sub;have a:BJ g ⟨c,0,none⟩=some (.slice y.1 y.2.1 y.2.2):=s1.cell rfl;have A:c<g.size:=by
   unfold BJ D3 mK at a;dsimp only at a;cases ho:g[c]? with
   |none=>rw[ho]at a;cases a
   |some o=>exact BC ho
  have B:0<g.size:=by
   obtain⟨t,f,x⟩:=j;exact BC x
  have l:CallsH bD 149 [.func (.func 179) #[] #[.pointer (jX c)]] g (Ae λv u=>∃t:Slc,v=((.one aS):Sh).val t∧
   St ψ (⟨kJ 3 (hM .i64),[.slice t.1 t.2.1 t.2.2],EA (s.2.map kI) s.2.length⟩::⟨kW 227,[.pointer (jX c)],[.slice y.1 y.2.1 y.2.2]⟩::⟨kJ 226 (hM .u64),[.slice y.1 y.2.1 y.2.2],s.2⟩::Bc p s::F) u):=by
   intro w G;subst G;obtain⟨L,H,m⟩:=Qs 8 (by decide) j z d a (s1.at 1).rowLen.symm (row_cells (s1.at 1)) (Uj (s1.at 1)) A B;have I:=SG (s.2.map kI) s.2.length;have J:=callsIn_wide.1 (V4 10 (by decide) 179 #[.pointer (jX c)] (enters_of mD (by kernel_rfl) rfl) L (EA (s.2.map kI) s.2.length) _ (by omega) w (λb K=>(H b K).1) m);refine J.mono ?_;rintro e P ⟨v,rfl,n,_,q⟩;have⟨t,M,C⟩:=St.ofOwns s1 q n (Fm (k:=.i64) _) rfl;exact⟨⟨q.os,q.tape,q.output,q.size⟩,v,rfl,t,M,C⟩
  refine AE l ?_;rintro _ Q ⟨t,rfl,C⟩;refine⟨t,rfl,?_⟩;have N:=(C.at 1).tail;have O:=(N.at 1).tail;exact AB ⟨ψ,t,_,i,rfl,rfl,O⟩
 ·cases hd
end
end Go.Proofs.YtnlkgidlfnefbaaGreatDoor.Dg
namespace Go.Proofs.YtnlkgidlfnefbaaGreatDoor.Dg
open Go Go.Eng
def TM (c:Chk):Prop:=(∀φ a h F,c.on φ h F→c.on a h F)∧ ∀φ h F,c.on φ h F→ ∀k,F k→ ∃cs ty f,h[k]? =some (.cells cs ty f)
theorem Uk (ty:mZ) (b:Nat) (vs:List mY):TM ⟨kW ty,[.pointer (jX b)],vs⟩:=by refine⟨λφ g h F H=>H,λφ h F H k c=> ?_⟩;obtain⟨i,e,d,f⟩:=H;have a:=(f k).1 c;subst a;exact⟨_,_,_,d⟩
theorem cY {k:IntKind}{φ a:AD}{vs:List mY}{l:List Int}(h:(hM k).All φ vs l):(hM k).All a vs l:=by rw[DH h];exact Fm l
theorem YI (p:Option nC) (s:Aa):TM (Bc p s):=by
 constructor
 ·rintro φ H h F ⟨b,vs,G,e,f,⟨a,c,A,B,r,g,i,t,j⟩,u,l⟩;refine⟨b,vs,G,e,f,⟨a,c,A,B,r,g,?_,t,j⟩,u,l⟩;obtain⟨q,n,v,w,x,y,z,C,m,D,o⟩:=i;exact⟨q,n,v,w,x,y,z,C,m,cY D,o⟩
 ·rintro φ h F ⟨b,vs,G,e,f,⟨a,c,A,B,r,g,i,t,j⟩,u,l⟩ k hk;rcases(l k).1 hk with rfl | hk
  ·exact⟨_,_,_,f⟩
  ·rcases(j k).1 hk with hk | hk
   ·exact absurd hk (g.1 k)
   ·obtain⟨q,n,v,w,x,y,z,C,m,D,o⟩:=i;have⟨E,d⟩:=m.ty k ((o k).1 hk);exact⟨_,_,_,d⟩
theorem StX.frame {ψ:AD}{h:AH}:∀ {Γ Δ:List Chk}{X:FE},StX ψ h (Γ++Δ) X→ ∃Y:FE,(∀k,Y k→ψ k=none∧ ¬X k∧k<h.size)∧StX ψ h Δ (λk=>X k∨Y k)∧
 ∀Δ' (h':AH),Sub ψ (BZ h')→(∀k,Y k→h'[k]? =h[k]?)→StX ψ h' Δ' (λk=>X k∨Y k)→StX ψ h' (Γ++Δ') X:=by
 intro Γ
 induction Γ with
 |nil=>intro Δ X H;exact⟨λ_=>False,λk a=>a.elim,H.less λk a=>a.elim id False.elim,λΔ' h' _ _ H'=>H'.less λk a=>.inl a⟩
 |cons c Γ ih=>
  intro Δ X ⟨F,e,b,H⟩;obtain⟨Y,d,f,j⟩:=ih H;refine⟨λk=>F k∨Y k,λk a=> ?_,f.less λk a=> ?_,λΔ' h' hs hy H'=>⟨F,c.R.loc (λi l=>hy i (.inl l)) e,b,j Δ' h' hs (λk a=>hy k (.inr a)) (H'.less λk a=> ?_)⟩⟩
  ·rcases a with a | a
   ·exact⟨(b k a).1,(b k a).2,c.R.lt e k a⟩
   ·exact⟨(d k a).1,λg=>(d k a).2.1 (.inl g),(d k a).2.2⟩
  ·rcases a with a | a | a
   ·exact .inl (.inl a)
   ·exact .inl (.inr a)
   ·exact .inr a
  ·rcases a with(a | a)|a
   ·exact .inl a
   ·exact .inr (.inl a)
   ·exact .inr (.inr a)
theorem StX.alone {ψ:AD}{h:AH}:∀ {Δ:List Chk}{X:FE},(∀c∈Δ,TM c)→StX ψ h Δ X→ ∃Z:FE,(∀k,Z k→ψ k=none∧ ¬X k)∧(∀k,Z k→ ∃cs ty f,h[k]? =some (.cells cs ty f))∧ ∀(φ0:AD) (b:FE),(∀k,Z k→φ0 k=none∧ ¬b k)→Sub φ0 (BZ h)→StX φ0 h Δ b:=by
 intro Δ
 induction Δ with
 |nil=>intro X _ H;exact⟨λ_=>False,λk a=>a.elim,λk a=>a.elim,λφ0 b _ d=>d⟩
 |cons c Δ ih=>
  intro X e ⟨F,l,m,H⟩;obtain⟨Z,i,n,o⟩:=ih (λc p=>e c (by simp[p])) H;refine⟨λk=>F k∨Z k,λk a=> ?_,λk a=>a.elim (λg=>(e c (by simp)).2 _ _ _ l k g) (n k),λφ0 b j d=>⟨F,(e c (by simp)).1 _ _ _ _ l,λk a=>j k (.inl a),o φ0 _ (λk a=>⟨(j k (.inr a)).1,λg=> ?_⟩) d⟩⟩
  ·rcases a with a | a
   ·exact m k a
   ·exact⟨(i k a).1,λg=>(i k a).2 (.inl g)⟩
  ·rcases g with g | g
   ·exact(j k (.inr a)).2 g
   ·exact(i k a).2 (.inr g)
theorem St.apart {ψ:AD}{h:AH}{Γ Δ:List Chk}(H:St ψ (Γ++Δ) h) (t:∀c∈Δ,TM c):∃φ0:AD,(∀k,φ0 k≠none→k<h.size)∧St φ0 Δ h∧Sub ψ φ0∧(∀k o,h[k]? =some o→φ0 k=some o∨ ∃cs ty f,o= .cells cs ty f)∧
 ∀Δ' (h':AH),(∀c∈Δ',TM c)→St φ0 Δ' h'→St ψ (Γ++Δ') h':=by
 classical
 have q:Sub ψ (BZ h):=H.sub;have⟨Y,r,u,v⟩:=StX.frame H;have⟨Z,i,w,x⟩:=StX.alone t u;have s:∀k,¬Z k→(λk=>if Z k then none else h[k]? :AD) k=h[k]? :=λk b=>if_neg b;refine⟨λk=>if Z k then none else h[k]?,λk b=> ?_,x _ _ (λk b=>⟨if_pos b,λg=>g⟩) (λk o a=> ?_),λk o a=> ?_,λk o a=> ?_,λΔ' h' hf' H'=> ?_⟩
 ·rcases kY k h.size with g | g
  ·exact g
  ·exfalso;apply b
   show(if Z k then none else h[k]?)=none;split
   ·rfl
   ·exact mC g
 ·have a:(if Z k then none else h[k]?)=some o:=a;split at a
  ·cases a
  ·exact a
 ·show(if Z k then none else h[k]?)=some o;rw[if_neg]
  ·exact q k o a
  ·intro d;rw[(i k d).1]at a;cases a
 ·by_cases d:Z k
  ·have⟨cs,ty,f,e⟩:=w k d;rw[a]at e;exact .inr ⟨cs,ty,f,Option.some.inj e⟩
  ·exact .inl (by show(if Z k then none else h[k]?)=some o;rw[if_neg d];exact a)
 ·obtain⟨y,z,_,A⟩:=StX.alone hf' H';have j:=H'.sub;have l:∀k,y k→ψ k=none∧ ¬Y k:=λk b=>by
   have p:(if Z k then none else h[k]?)=none:=(z k b).1;split at p
   ·rename_i d
    exact⟨(i k d).1,λg=>(i k d).2 (.inr g)⟩
   ·constructor
    ·cases hψ:ψ k with
     |none=>rfl
     |some o=>have:=q k o hψ;rw[show BZ h k=h[k]? from rfl,p]at this;cases this
    ·intro g
     have:=(r k g).2.2
     rw[hC this]at p;cases p
  have m:Sub ψ (BZ h'):=λk o a=>j k o (by
   show(if Z k then none else h[k]?)=some o;rw[if_neg]
   ·exact q k o a
   ·intro d;rw[(i k d).1]at a;cases a)
  refine v Δ' h' m (λk b=> ?_) (A ψ _ (λk b=>⟨(l k b).1,λg=>g.elim id (l k b).2⟩) m);have n:=(r k b).2.2
  have:(if Z k then none else h[k]?)=some h[k]:=by
   rw[if_neg]
   ·exact hC n
   ·intro d;exact(i k d).2 (.inr b)
  rw[show h'[k]? =some h[k] from j k _ this,hC n]
theorem St.abide {φ0:AD}{h a:AH}:∀ {Δ:List Chk}{X:FE},(∀c∈Δ,TM c)→StX φ0 h Δ X→(∀k,k<h.size→(∃cs ty f,h[k]? =some (.cells cs ty f))→a[k]? =h[k]?)→Sub φ0 (BZ a)→StX φ0 a Δ X:=by
 intro Δ
 induction Δ with
 |nil=>intro X _ _ _ b;exact b
 |cons c Δ ih=>
  intro X e ⟨F,d,j,H⟩ hk b;exact⟨F,c.R.loc (λi g=>hk i (c.R.lt d i g) ((e c (by simp)).2 _ _ _ d i g)) d,j,ih (λc l=>e c (by simp[l])) H hk b⟩
theorem St.back {φ ψ:AD}{h:AH}{Δ:List Chk}(b:∀c∈Δ,TM c) (le:Sub φ ψ) (H:St ψ Δ h):St φ Δ h:=by
 have⟨Z,d,_,e⟩:=StX.alone b H;have f:∀k,Z k→φ k=none:=λk a=>by
  cases hφ:φ k with
  |none=>rfl
  |some o=>have:=le k o hφ;rw[(d k a).1]at this;cases this
 exact e φ _ (λk a=>⟨f k a,λg=>g⟩) λk o i=>H.sub k o (le k o i)
theorem fI {φ:AD}{h:AH}{p:Option nC}{s:Aa}{F:List Chk}(H:St φ (Bc p s::F) h):∃b,p=some ⟨b,0,none⟩∧BJ h ⟨b,0,none⟩=some (.int .i64 s.1):=by have⟨b,vs,e,g,s1⟩:=St.open H;obtain⟨c,d,rfl,i,a⟩:=St.pair (s1.at1);have⟨f,_⟩:=St.ro a;cases f;refine⟨b,by cases e;rfl,s1.cell rfl⟩
end Go.Proofs.YtnlkgidlfnefbaaGreatDoor.Dg
namespace Go.Proofs.YtnlkgidlfnefbaaGreatDoor.Dg
open Go Go.Eng Go.RowKit Go.Shelf
attribute [local go_sem] Oper.semAt_some
noncomputable def Im (a:Aa×Bool) (i:Int):Aa×Bool:=if a.2 then a else if a.1.1≤i then(a.1,true) else(((Aw a.1 i).getD (false,a.1)).2,false)
noncomputable def gR (s:Aa) (l:List Int):Aa×Bool:=l.foldl Im (s,false)
def EB (s:Aa):List Int:=EA (s.2.map kI) s.2.length
noncomputable def BN (s o:Aa):Aa:=(gR s (EB o)).1
noncomputable def stepG (a:Aa×Bool×Bool) (i:Int):Aa×Bool×Bool:=if a.2.1 then a else if a.1.1≤i then(a.1,true,a.2.2) else(((Aw a.1 i).getD (false,a.1)).2,false,((Aw a.1 i).getD (false,a.1)).1 || a.2.2)
noncomputable def KE (s:Aa) (l:List Int):Aa×Bool×Bool:=l.foldl stepG (s,false,false)
noncomputable def Fo (s o:Aa):Bool:=(KE s (EB o)).2.2
theorem SH (s:Aa) (l:List Int) (i:Int):KE s (l++ [i])=stepG (KE s l) i:=by simp[KE]
theorem cZ (l:List Int):∀(a:Aa×Bool×Bool),((l.foldl stepG a).1,(l.foldl stepG a).2.1)=l.foldl Im (a.1,a.2.1):=by
 induction l with
 |nil=>intro a;rfl
 |cons i l c=>
  intro a;rw[lO,lO,c];congr 1;unfold stepG Im;dsimp only;by_cases h:a.2.1=true
  ·rw[if_pos h,if_pos h]
  ·rw[if_neg h,if_neg h];by_cases b:a.1.1≤i
   ·rw[if_pos b,if_pos b]
   ·rw[if_neg b,if_neg b]
theorem fJ (s:Aa) (l:List Int):((KE s l).1,(KE s l).2.1)=gR s l:=cZ l (s,false,false)
theorem Zf (l:List Int) {a:Aa×Bool×Bool}(h:a.2.1=true):l.foldl stepG a=a:=by
 induction l with
 |nil=>rfl
 |cons i l b=>
  rw[lO]
  have:stepG a i=a:=if_pos h
  rw[this,b]
theorem fK {s:Aa}{l a:List Int}(b:a<+:l) (h:(KE s a).2.1=true):KE s l=KE s a:=by obtain⟨r,rfl⟩:=b;unfold KE at h ⊢;rw[List.foldl_append,Zf r h]
theorem Zg (s o:Aa):(KE s (EB o)).1=BN s o:=(Prod.mk.inj (fJ s (EB o))).1
theorem fL (l:List Int) {a:Aa×Bool}(h:a.2=true):l.foldl Im a=a:=by
 induction l with
 |nil=>rfl
 |cons i l b=>
  rw[lO]
  have:Im a i=a:=if_pos h
  rw[this,b]
abbrev IC (a b:Nat) (p:Option nC) (g:Bool) (s:Aa):List Chk:=[⟨kW 189,[.pointer (jX a)],[.pointer p]⟩,⟨kW 4,[.pointer (jX b)],[.bool g]⟩,Bc p s]
theorem Dq (b d:Nat) (p:Option nC) (g:Bool) (s:Aa):∀c∈IC b d p g s,TM c:=by
 intro c a;simp only[mL,mW,or_false]at a;rcases a with rfl | rfl | rfl
 ·exact Uk _ _ _
 ·exact Uk _ _ _
 ·exact YI _ _
theorem Lr {φ0:AD}{B:Nat}{W b:nB}{row:Option Nat}{Δ:List Chk}(j:∀k,φ0 k≠none→k<B) (l:∀c∈Δ,TM c) (H:St φ0 Δ W.heap) (m:W.grownBy b row) (g:∀r,row=some r→B≤r∧ ∃o:Obj,W.heap[r]? =some o∧o.isCells=false):St φ0 Δ b.heap:=by
 obtain⟨_,_,_,n,h⟩:=m;refine St.abide l H (λk d ⟨cs,ty,f,p⟩=>h k d λe=> ?_) λk o i=> ?_
 ·have⟨_,o,a,q⟩:=g k e.symm;rw[p]at a;cases a;cases q
 ·have a:=H.sub k o i
  have:=BC a
  show b.heap[k]? =some o;rw[h k this λe=>by have:=j k (by rw[i];simp);have:=(g k e.symm).1;omega];exact a
theorem fM {φ0:AD}{b d:Nat}{p:Option nC}{g:Bool}{s:Aa}{x:Int}{W:nB}(H:OkS s) (n:St φ0 (IC b d p g s) W.heap):
 Calls bD 106 #[.pointer p,.int .i64 x] W λe a=>B4 W a∧W.heap.size≤a.heap.size∧(∀(k:Nat) (o:Obj),W.heap[k]? =some o→o.isCells=false→a.heap[k]? =some o)∧
  ∃y:Bool,e= .returned (.bool y)∧y=((Aw s x).getD (false,s)).1∧St φ0 (IC b d p g ((Aw s x).getD (false,s)).2) a.heap∧OkS ((Aw s x).getD (false,s)).2∧((Aw s x).getD (false,s)).2.1=s.1:=by
 obtain⟨s',hd,q,r,_⟩:=add_ok H x;rw[hd];have⟨F,_,t,G,u,w⟩:=St.apart (Γ:=[]) n (Dq b d p g s);have z:=CX (t.at 2) hd W rfl;refine(show Calls bD 106 #[.pointer p,.int .i64 x] W _ from z).mono ?_;rintro e a ⟨j,h⟩;cases e with
 |returned v=>
  obtain⟨A,i,ψ,y,l,le,rfl,B,m⟩:=h;cases i;obtain⟨rfl,rfl⟩:=Prod.mk.inj B;refine⟨j,j.size,λk o C D=> ?_,_,rfl,rfl,?_,q,r⟩
  ·rcases u k o C with g | ⟨cs,ty,f,rfl⟩
   ·exact m.sub k o (le k o g)
   ·cases D
  ·have E:St ψ (IC b d p g l) a.heap:=(m.at 2).at 2;exact w _ _ (Dq _ _ _ _ _) (St.back (Dq _ _ _ _ _) le E)
 |panicked c=>obtain⟨A,i,_⟩:=h;cases i
 |outgrown=>exact h.elim
theorem ca {φ:AD}{W:nB}{F:List Chk}{q:Option nC}{o:Aa}(f:St φ (Bc q o::F) W.heap) (g:o.2.length≤1073741824):
 Calls bD 148 #[.pointer q] W λe a=>B4 W a∧ ∃(ψ:AD) (r:Nat) (y:Slc),Sub φ ψ∧e= .returned (.func (.func 179) #[] #[.pointer (jX r)])∧
  St ψ (⟨kW 227,[.pointer (jX r)],[.slice y.1 y.2.1 y.2.2]⟩::⟨kJ 226 (hM .u64),[.slice y.1 y.2.1 y.2.2],o.2⟩::Bc q o::F) a.heap:=by
 refine(show Calls bD 148 #[.pointer q] W _ from Ui f g W rfl).mono ?_;rintro e a ⟨h,b⟩;cases e with
 |returned v=>
  obtain⟨i,d,ψ,r,y,j,k,l⟩:=b;cases d;exact⟨h,ψ,r,y,j,by rw[k],l⟩
 |panicked c=>obtain⟨i,d,_⟩:=b;cases d
 |outgrown=>exact b.elim
theorem Pp {h:AH}{b:Nat}{j:Nat}{v:mY}(a:BJ h ⟨b,j,none⟩=some v):b<h.size:=by
 unfold BJ D3 mK at a;dsimp only at a;cases ho:h[b]? with
 |none=>rw[ho]at a;cases a
 |some o=>exact BC ho
theorem ready (n:Nat) (R:3≤n) {ψ:AD}{W:nB}{u c d:Nat}{y:Slc}{p q:Option nC}{s o:Aa}{G v:List Chk}(K:Glob ψ) (w:OkS o) (S:(Bc p s::G).Perm (Bc q o::v))
 (s1:St ψ (⟨kW 227,[.pointer (jX u)],[.slice y.1 y.2.1 y.2.2]⟩::⟨kJ 226 (hM .u64),[.slice y.1 y.2.1 y.2.2],o.2⟩::Bc q o::⟨kW 189,[.pointer (jX c)],[.pointer p]⟩::⟨kW 4,[.pointer (jX d)],[.bool false]⟩::v) W.heap):
 ∃(M φ0:AD) (L:List Nat),Sub ψ M∧(∀k,φ0 k≠none→k<W.heap.size)∧(∀b∈L,φ0 b≠none)∧St φ0 (IC c d p false s) W.heap∧
  SeqStopsK Fence.wide n bD 179 #[.pointer (jX u)] cV (KpL L) (λT=>T=EB o) (λx=>x<+:EB o) (EB o).length W∧
  ∀s' g (r:AH),St φ0 (IC c d p g s') r→St M (Bc p s'::G) r:=by
 have i:=K.mono s1.sub;have e:BJ W.heap ⟨u,0,none⟩=some (.slice y.1 y.2.1 y.2.2):=s1.cell rfl;have z:0<W.heap.size:=by
  obtain⟨t,f,A⟩:=i;exact BC A
 have h1:=w.len;have h2:=w.hi;obtain⟨L,N,j⟩:=Qs n R i w.word (by omega) e (s1.at 1).rowLen.symm (row_cells (s1.at 1)) (Uj (s1.at 1)) (Pp e) z;obtain⟨ψa,F1,l,⟨b1,U,B,C⟩,V,X⟩:=St.hide s1;cases U;have⟨D,F2,h,m,Y,Z⟩:=St.hide X;have E:(Bc q o::⟨kW 189,[.pointer (jX c)],[.pointer p]⟩::⟨kW 4,[.pointer (jX d)],[.bool false]⟩::v).Perm (G++IC c d p false s):=by
  refine(BK 1 _).trans<|(lG _ (BK 1 _)).trans<|(lG _ (lG _ S.symm)).trans (mE (l₁:=IC c d p false s) (l₂:=G))
 have⟨φ0,d1,d2,d3,d4,d5⟩:=St.apart (Z.perm E) (Dq c d p false s);refine⟨D,φ0,L,l.trans h,d1,λb O=> ?_,d2,j,λs' g r H=> ?_⟩
 ·have F:∃P,D b=some P:=by
   rcases(N b O).2 with rfl | rfl | ⟨a,ha,rfl⟩
   ·exact⟨_,h _ _ ((V b ((C b).2 rfl)).trans B)⟩
   ·obtain⟨t,f,A⟩:=K;exact⟨_,h _ _ (l _ _ A)⟩
   ·obtain⟨p',n',c',vs,Q,h3,h4,h5,h6,h7,h8⟩:=m;simp only[List.cons.injEq,Value.slice.injEq,and_true]at Q;have I:=(N _ O).1;refine⟨_,(Y a.block ((h8 _).2 ?_)).trans (hC I)⟩;rw[←Q.1,ha];simp[blk]
  obtain⟨P,J⟩:=F;rw[d3 _ _ J];simp
 ·have H2:=d5 _ _ (Dq c d p g s') H;have H3:St D (IC c d p g s'++G) r:=H2.perm mE;exact H3.tail.tail
theorem gS {φ0:AD}{L:List Nat}{A B:nB}(e:∀b∈L,φ0 b≠none) (f:Sub φ0 (BZ A.heap)) (g:Sub φ0 (BZ B.heap)):KpL L A B:=λb a o h=>by
 cases hφ:φ0 b with
 |none=>exact absurd hφ (e b a)
 |some c=>
  have d:=f b c hφ;have i:=g b c hφ;rw[show BZ A.heap b=A.heap[b]? from rfl,h]at d;cases d;exact i
theorem Zh {φ:AD}{w:nB}{p q:Option nC}{s o:Aa}{G G':List Chk}(gk:Glob φ) (hs:OkS s) (Q:OkS o) (hp:(Bc p s::G).Perm (Bc q o::G')) (s0:St φ (Bc p s::G) w.heap):
 Calls bD 114 #[.pointer p,.pointer q] w λe I=>B4 w I∧ ∃(ψ:AD),Sub φ ψ∧e= .returned (.bool (Fo s o))∧St ψ (Bc p (BN s o)::G) I.heap:=by
 refine(callsIn_wide (n:=12)).1<|callsIn_of_wp_marks func114 rfl trivial ?_ rfl;simp only[ntmps114,kU,kT,lB,Nat.reduceAdd,Nat.reduceSub,kL,kO,kV,kQ,kK,kZ]
 gi_wp2
 have a6:o.2.length≤1000:=by have u:=Q.len;have t:=Q.hi;omega
 have sA:St φ (Bc q o::⟨kW 189,[.pointer (some ⟨w.heap.size,0,none⟩)],[.pointer p]⟩::⟨kW 4,[.pointer (some ⟨w.heap.size+1,0,none⟩)],[.bool false]⟩::G') ((w.alloc (.cells #[.pointer p] 189)).alloc (.cells #[.bool false] 4)).heap:=by
  have u:=St.new (ty:=189) [.pointer p] s0;have t:=St.new (ty:=4) [.bool false] u;rw[Array.size_push]at t;refine t.perm<|(List.Perm.swap _ _ _).trans ((lG _ (lG _ hp)).trans ((BK 2 _)))
 refine⟨trivial,(callsIn_wide.2 (ca sA (by omega))).mono ?_⟩;rintro e W1 ⟨C,ψ,bx,y,R,rfl,s1⟩;obtain⟨ψ2,φ0,L,a4,S,hL,T,U,N⟩:=ready 11 (by decide) (gk.mono R) Q hp s1;have E:B4 w W1:=B4.trans (b:=(w.alloc (.cells #[.pointer p] 189)).alloc (.cells #[.bool false] 4)) ⟨rfl,rfl,rfl,by simp;omega⟩ C;have J:∀(g:Bool) (s':Aa) (I:nB),B4 w I→KE s (EB o)=(s',true,g)∨KE s (EB o)=(s',false,g)→St φ0 (IC w.heap.size (w.heap.size+1) p g s') I.heap→B4 w I∧ ∃(ψ:AD),Sub φ ψ∧Ending.returned (Value.bool g)= .returned (.bool (Fo s o))∧St ψ (Bc p (BN s o)::G) I.heap:=by
  rintro g s' I u V t;have e1:BN s o=s':=by rw[←Zg];rcases V with h | h<;>rw[h]
  have e2:Fo s o=g:=by unfold Fo;rcases V with h | h<;>rw[h]
  rw[e1,e2];exact⟨u,ψ2,R.trans a4,rfl,N _ _ _ t⟩
 have m:∀ {A B:nB} {row:Option Nat},B4 w A→A.grownBy B row→B4 w B:=λh ⟨g1,g2,g3,g4,_⟩=>h.trans ⟨g1,g2,g3,g4⟩
 gi_wp2
 refine wpIn_rangeFunc_ownG rfl (by decide) (gf:=179) (lb:=#[.pointer (jX bx)]) rfl trivial (enters_of mD (by kernel_rfl) rfl) U (λh k=>h.trans k)
  (λW l o o' hl h u t=>KpL.putObj (n₀:=W1.heap.size) (λb hb=>S b (hL b hb)) W l o o' hl h u t) (Below.refl _ _) (λ_=>rfl)
  (λi W=>B4 w W∧ ∃(s':Aa) (g:Bool),OkS s'∧KE s i=(s',false,g)∧St φ0 (IC w.heap.size (w.heap.size+1) p g s') W.heap)
  (λc i W=>c= .exit 0∧B4 w W∧ ∃(s':Aa) (g:Bool),KE s i=(s',true,g)∧St φ0 (IC w.heap.size (w.heap.size+1) p g s') W.heap)
  (λi A B row ⟨u,s',g,t,h3,h4⟩ O F=>⟨m u O,s',g,t,h3,Lr S (Dq _ _ _ _ _) h4 O F⟩)
  (λc i A B row ⟨h0,u,s',g,t,h4⟩ O F=>⟨h0,m u O,s',g,t,Lr S (Dq _ _ _ _ _) h4 O F⟩)
  ⟨E,s,false,hs,rfl,T⟩
  (λx=>{tmps:=#[.pointer p,.pointer q,.pointer (some ⟨w.heap.size,0,none⟩),undef,.bool false,.pointer (some ⟨w.heap.size+1,0,none⟩),.int .i64 x,.pointer q,.func (.func 179) #[] #[.pointer (jX bx)],.int .i64 x,undef,undef,undef,undef,undef,undef,undef,undef,undef,undef,undef,undef,undef],defers:=[]}) ?assign ?body ?done ?stop
 case assign=>
  intro l x W K P
  gi_wp2
  exact P
 case body=>
  rintro l i x W ⟨a,s',g,X,d,f⟩ hlt;have a7:W.cell? ⟨w.heap.size,0,none⟩=some (.pointer p):=f.cell rfl;obtain⟨bp,rfl,hn⟩:=fI (f.at 2);have a8:W.cell? ⟨bp,0,none⟩=some (.int .i64 s'.1):=hn
  gi_wp2
  ·have hx:s'.1≤x:=by assumption
   have F:KE s (i++ [x])=(s',true,g):=by
    rw[SH,d];unfold stepG;rw[if_neg (by simp),if_pos hx]
   exact⟨KeepsFrom.refl _ _,rfl,a,s',g,F,f⟩
  ·have hx:¬s'.1≤x:=by omega
   refine⟨trivial,(CallsIn.inRound l (callsIn_wide.2 (fM (x:=x) X f))).mono ?_⟩;obtain⟨Y,Z⟩:∃Y,((Aw s' x).getD (false,s')).2=Y:=⟨_,rfl⟩;rw[Z];rintro e M ⟨H,a0,a5,y,rfl,hy,z,a1,a9⟩;have F:KE s (i++ [x])=(Y,false,y || g):=by
    rw[SH,d];unfold stepG;rw[if_neg (by simp),if_neg hx];dsimp only;rw[Z,←hy]
   have b0:M.cell? ⟨w.heap.size+1,0,none⟩=some (.bool g):=(z.at 1).cell rfl;have b1:M.frozen? ⟨w.heap.size+1,0,none⟩=false:=(St.put (j:=0) (.bool true) (z.at 1) (Nat.lt_succ_self 0)).2.1;have a2:∀v:Bool,v=(y || g)→KeepsFrom W1.heap.size W (M.setCell ⟨w.heap.size+1,0,none⟩ (.bool v))∧KpL L W (M.setCell ⟨w.heap.size+1,0,none⟩ (.bool v))∧B4 w (M.setCell ⟨w.heap.size+1,0,none⟩ (.bool v))∧ ∃(s':Aa) (g:Bool),OkS s'∧KE s (i++ [x])=(s',false,g)∧St φ0 (IC w.heap.size (w.heap.size+1) (jX bp) g s') (M.setCell ⟨w.heap.size+1,0,none⟩ (.bool v)).heap:=by
    intro v hv;rw[←hv]at F;have u:=(St.put (j:=0) (.bool v) (z.at 1) (Nat.lt_succ_self 0)).2.2;have t:St φ0 (IC w.heap.size (w.heap.size+1) (jX bp) v Y) (M.setCell ⟨w.heap.size+1,0,none⟩ (.bool v)).heap:=u.at 1;have h3:KeepsFrom W1.heap.size W M:=⟨a0,λk o _ hk Q=>a5 k o hk Q⟩;exact⟨h3.trans ((KeepsOthers.setCell _ _ _).from _),gS hL f.sub t.sub,(a.trans H).trans (B4.setCell _ _ _),Y,v,a1,F,t⟩
   clear hy F;cases y
   all_goals gi_wp2
   all_goals exact a2 _ rfl
 case done=>
  rintro D xs W hD rfl ⟨a,s',g,X,d,f⟩ P;have O:W.cell? ⟨w.heap.size+1,0,none⟩=some (.bool g):=(f.at 1).cell rfl
  gi_wp2
  refine⟨by simp,.inl ⟨_,_,rfl,run_takeDeferred P,?_⟩⟩;refine⟨_,results_tmp rfl _ _ _,J g s' _ (m a (grownBy_putObj' W D _)) (.inr d) ?_⟩;exact Lr S (Dq _ _ _ _ _) f (grownBy_putObj' W D _) (λr e=>by cases e;exact⟨hD,_,P,rfl⟩)
 case stop=>
  rintro D c i W hD a3 ⟨rfl,a,s',g,d,f⟩ P;have O:W.cell? ⟨w.heap.size+1,0,none⟩=some (.bool g):=(f.at 1).cell rfl
  gi_wp2
  refine⟨by simp,.inl ⟨_,_,rfl,run_takeDeferred P,?_⟩⟩;refine⟨_,results_tmp rfl _ _ _,J g s' _ (m a (grownBy_putObj' W D _)) (.inl ((fK a3 (by rw[d])).trans d)) ?_⟩;exact Lr S (Dq _ _ _ _ _) f (grownBy_putObj' W D _) (λr e=>by cases e;exact⟨hD,_,P,rfl⟩)
theorem JP {φ:AD}{h:AH}{p q:Option nC}{s o:Aa}{G a:List Chk}(b:Glob φ) (c:OkS s) (d:OkS o) (f:(Bc p s::G).Perm (Bc q o::a)) (g:St φ (Bc p s::G) h):
 CallsH bD 114 [.pointer p,.pointer q] h (Ae λv i=>∃(ψ:AD),Sub φ ψ∧v=((.one aB):Sh).val (Fo s o)∧St ψ (Bc p (BN s o)::G) i):=by intro w j;subst j;refine(show Calls bD 114 #[.pointer p,.pointer q] w _ from Zh b c d f g).mono ?_;rintro e n ⟨k,ψ,l,rfl,m⟩;exact⟨k,_,rfl,ψ,l,rfl,m⟩
theorem YJ {φ:AD}{h:AH}{p q:Option nC}{s o:Aa}{G b:List Chk}(c:Glob φ) (d:OkS s) (f:OkS o) (i:(Bc p s::G).Perm (Bc q o::b)) (j:St φ (Bc p s::G) h):
 CallsH bD 114 [.pointer p,.pointer q] h (Ae λv a=>∃(ψ:AD) (g:Bool),Sub φ ψ∧v=((.one aB):Sh).val g∧St ψ (Bc p (BN s o)::G) a):=by refine(JP c d f i j).mono ?_;rintro e a ⟨u,rfl,ψ,le,rfl,k⟩;exact⟨_,rfl,ψ,_,le,rfl,k⟩
end Go.Proofs.YtnlkgidlfnefbaaGreatDoor.Dg
