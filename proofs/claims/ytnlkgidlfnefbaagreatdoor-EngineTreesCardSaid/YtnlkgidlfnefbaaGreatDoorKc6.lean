/- The parts Sim0 to Sim1, put together. Conditions: each tells its own. -/
import Derived.Test.YtnlkgidlfnefbaaGreatDoorKc5
import Derived.KernelRfl
set_option linter.unusedVariables false
set_option maxRecDepth 100000
set_option maxHeartbeats 4000000
open Go.IntKind renaming wrap → bD
open Int renaming tmod → bO,toNat → eE,not_lt → kY
open ByteArray renaming extract → hA,toList → hC,size → hM
open List renaming length → kF
open Go.Eng.Ro renaming str → kG,SliceIs → kH,int → kX
open Go.Proofs.Tryz renaming prog → kI,underlying100 → lB,underlying102 → lC,underlying103 → lD,underlying28 → lG
open Go.Eng.Sub renaming trans → kJ
open Go.Eng.St renaming freezeRow → kK,cell → kL,unpair → kT,cells → kW,unro → kZ,shutR → lA,openR → lH,lit → lJ,shut → lK
open Go.Eng.AY renaming done → kO,next → kQ
open Go.Eng.Rep renaming ro → kU,prod → lF
open UInt8 renaming toNat → kV
open Go.Eng.Ro.SliceIs renaming nil → lI
open Go.Proofs.Tryz
namespace Go.Proofs.YtnlkgidlfnefbaaGreatDoor
open Go Go.Eng
section
variable {φ:AD}{h:AH}{F:List Chk}
abbrev Rq0:=lF (kU kG) (lF (Rep.row 9 kG) (lF (kU kG) (kU kG)))
abbrev Rq1:=lF (kU (kX .i64)) (lF (Rep.row 3 (kX .i64)) (kU (kX .i64)))
abbrev Wq0 (r:Nat) (s:Int×Int×Slc×Slc×Slc×Slc×Slc×Unit):Chk:=cW 25 r [.int .u8 s.1,.int .u8 s.2.1,sv s.2.2.1,sv s.2.2.2.1,sv s.2.2.2.2.1,sv s.2.2.2.2.2.1,sv s.2.2.2.2.2.2.1]
abbrev Wq1 (r:Nat) (s:Slc×Slc×Slc×ByteArray×Slc×Unit):Chk:=cW 105 r [sv s.1,sv s.2.1,sv s.2.2.1,.string s.2.2.2.1,sv s.2.2.2.2.1]
abbrev Wq2 (r:Nat) (s:Pl6):Chk:=cW 32 r [sv s.1,sv s.2.1,sv s.2.2.1,sv s.2.2.2.1,sv s.2.2.2.2.1,sv s.2.2.2.2.2.1]
abbrev Wq3 (r:Nat) (s:ByteArray×ByteArray×Bool×Unit):Chk:=cW 171 r [.string s.1,.string s.2.1,.bool s.2.2.1]
abbrev Wq4 (r:Nat):Chk:=cW 105 r [.slice none 0 0,.slice none 0 0,.slice none 0 0,.string ({data:=#[]}),.slice none 0 0]
abbrev Wq5 (r:Nat):Chk:=cW 32 r [.slice none 0 0,.slice none 0 0,.slice none 0 0,.slice none 0 0,.slice none 0 0,.slice none 0 0]
abbrev Wq6 (r:Nat):Chk:=cW 120 r [.slice none 0 0,.slice none 0 0,.slice none 0 0,.int .i64 (0:Int),.int .i64 (0:Int)]
abbrev Wq7 (r:Nat) (s:Slc×Slc×Slc×Int×Unit):Chk:=cW 131 r [sv s.1,sv s.2.1,sv s.2.2.1,.int .i64 s.2.2.2.1]
abbrev Wq8 (r:Nat):Chk:=cW 91 r [.int .i64 (0:Int),.int .i64 (0:Int)]
abbrev Wq9 (r:Nat) (s:Int×Int×Unit):Chk:=cW 91 r [.int .i64 s.1,.int .i64 s.2.1]
abbrev gO (r:Nat) (s:Int×Int×Int×Slc×Unit):Chk:=cW 44 r [.int .i64 s.1,.int .i64 s.2.1,.int .i64 s.2.2.1,sv s.2.2.2.1]
noncomputable def Bd (s_0:J1) (a:Int) (b:Int):Option Bool:=
 (cond (decide ((s_0.2.2.1.length:Int) >a))
 (some true)
 (some (decide ((s_0.2.2.2.2.2.1.length:Int) >5)))).bind λg=>
 cond g
 (some false)
 ((DF (σ:=Unit) (β:=Bool) 0 (s_0.2.2.2.1.length:Int) () λc h=>
  (idx s_0.2.2.2.1 c).bind λe=>
  cond (decide ((e.length:Int) >b))
  (some (kO false))
  (some (kQ ()))).bind λd=>match d with
  |.next i=>
   some true
  |.done f=>some f)
theorem Cy {A:Int×Int×Slc×Slc×Slc×Slc×Slc×Unit}{e:List Int}{f:List (List Int)}{k:List Int}{i:List Int}{l:List Int}{B:Int}{C:Int}(s:kH (kX .u8) φ A.2.2.1 e) (m:kH (Ro.list (kX .u8)) φ A.2.2.2.1 f) (al:kH (kX .u8) φ A.2.2.2.2.1 k) (t:kH (kX .u8) φ A.2.2.2.2.2.1 i) (ap:kH (kX .u8) φ A.2.2.2.2.2.2.1 l) (G:St φ F h) {r:Bool}(hd:Bd (A.1,A.2.1,e,f,k,i,l) B C=some r):
 CallsH kI 7 [(.agg #[(.int .u8 A.1),(.int .u8 A.2.1),(sv A.2.2.1),(sv A.2.2.2.1),(sv A.2.2.2.2.1),(sv A.2.2.2.2.2.1),(sv A.2.2.2.2.2.2.1)]),(.int .i64 B),(.int .i64 C)] h (Ae λv H=>∃ψ:AD,∃y:Bool,Sub φ ψ∧v=((.one aB):Sh).val y∧y=r∧St ψ F H):=by
 refine AN mixed func7 (Ha ..) ?_;have u:A.2.2.1.2.1=kF e:=s.length;have n:A.2.2.2.1.2.1=kF f:=m.length;have w:A.2.2.2.2.2.1.2.1=kF i:=t.length;refine AU (vs:=[.int .u8 A.1,.int .u8 A.2.1,sv A.2.2.1,sv A.2.2.2.1,sv A.2.2.2.2.1,sv A.2.2.2.2.2.1,sv A.2.2.2.2.2.2.1]) G λE T d=> ?_;have⟨x,b,hd⟩:=bS hd;refine Ad (λy D g=>∃ψ:AD,Sub φ ψ∧y.1=g∧St ψ (Wq0 E A::F) D) (g:=x) ?_ ?_
 ·refine AA d rfl<|kD b (by rw[u] <;>rfl) (λb=>?_) (λb=>?_)
  ·exact jY rfl ⟨φ,sb,iS b,d⟩
  refine AA d rfl ?_;obtain rfl:=iS b;exact jY rfl ⟨φ,sb,(by rw[w]),d⟩
 rintro U b1 ⟨j,V,rfl,o⟩;refine kD hd rfl (λhd=>?_) (λhd=>?_)
 ·exact AB ⟨j,false,sb,rfl,iS hd,o.tail⟩
 have⟨W,z,hd⟩:=bS hd;refine BR z (λa0 y D g=>∃ψ:AD,Sub j ψ∧y.1=a0∧()=g∧St ψ (Wq0 E A::F) D) ((0:Int),false,()) rfl ⟨j,sb,rfl,rfl,o⟩ ?_ ?_ ?_
 ·rintro _ I X _ _ ⟨p,Y,rfl,rfl,c⟩ a Z J K L;refine AA c rfl<|Ai (dT n J)<|AA c rfl<|gxS m a c λb7 b8 M a=> ?_;have N:=M.length;refine kD a (by rw[N] <;>rfl) (λa=>?_) (λa=>?_)
  ·obtain rfl:=iS a;obtain rfl:=L _ rfl;obtain rfl:=iS hd;exact Ak (Al (AB ⟨p,false,sb,rfl,rfl,c.tail⟩))
  obtain rfl:=iS a;exact jZ rfl rfl ⟨p,sb,K,rfl,c⟩
 ·rintro _ I b9 _ ⟨O,ba,rfl,rfl,q⟩ P Q;subst Q;refine AA q rfl<|AW (dF n P)<|AO (kB rfl ⟨_,rfl,_,O,sb,rfl,rfl,q⟩)
 rintro z5 bb ⟨_,rfl,_,R,bd,_,rfl,S⟩;exact AB ⟨R,true,sb,rfl,iS hd,S.tail⟩
noncomputable def Cq (a:Int):Option Int:=some (if(if 1099511627776 <a then 1099511627776 else a) >0 then(if 1099511627776 <a then 1099511627776 else a) else 0)
theorem Fj {a:Int}(b:St φ F h) {r:Int}(hd:Cq a=some r):
 CallsH kI 37 [(.int .i64 a)] h (Ae λv c=>∃ψ:AD,∃y:Int,Sub φ ψ∧v=((.one aI):Sh).val y∧y=r∧St ψ F c):=by refine AN mixed func37 (Qf ..) ?_;exact AB ⟨φ,(if(if(1099511627776:Int) <a then(1099511627776:Int) else a) >(0:Int) then(if(1099511627776:Int) <a then(1099511627776:Int) else a) else(0:Int)),sb,rfl,iS hd,b⟩
noncomputable def Bo (a:Int):Option Dl:=(Cq a).bind λt1=>some (t1,0,0)
theorem CC {l:Int}(m:St φ F h) {r:Dl}(hd:Bo l=some r):
 CallsH kI 16 [(.int .i64 l)] h (Ae λv n=>∃ψ:AD,∃y:Option Addr,∃a:Dl,Sub φ ψ∧v=((.one aP):Sh).val y∧a=r∧St ψ (cO 83 (kU En) y a::F) n):=by refine AN mixed func16 (Rj ..) ?_;have⟨g,b,hd⟩:=bS hd;refine AE (Fj m b) ?_;rintro _ i ⟨c,t1,j,rfl,rfl,d⟩;refine⟨t1,rfl,?_⟩;refine AU (vs:=[.int .i64 t1,.int .i64 (0:Int),.int .i64 (0:Int)]) d λo k e=> ?_;have f:=lA (r:=En) (x:=(t1,(0:Int),(0:Int))) e ⟨[_],_,rfl,rfl,⟨[_],_,rfl,rfl,rfl⟩⟩;exact AB ⟨c,(jX o),(t1,(0:Int),(0:Int)),sb,rfl,iS hd,f⟩
noncomputable def Dm (a:Dl):Option Int:=some (bD .i64 (a.1 - a.2.1))
theorem K8 {g:Option Addr}{a:Dl}(i:St φ (cO 83 (kU En) g a::F) h) {r:Int}(hd:Dm a=some r):
 CallsH kI 101 [(.pointer g)] h (Ae λv j=>∃ψ:AD,∃y:Int,Sub φ ψ∧v=((.one aI):Sh).val y∧y=r∧St ψ (cO 83 (kU En) g a::F) j):=by refine AN mixed func101 (Kv ..) ?_;obtain⟨e,f,c,⟨_,_,rfl,rfl,_,_,rfl,rfl,rfl⟩,b⟩:=lH i;subst c;refine AF _ rfl<|AA (x:=(a.1)) b rfl<|AF _ rfl<|AA (x:=(a.2.1)) b rfl ?_;have d:=lA (r:=En) (x:=(a.1,a.2.1,a.2.2)) b ⟨[_],_,rfl,rfl,⟨[_],_,rfl,rfl,rfl⟩⟩;exact AB ⟨φ,(bD .i64 (a.1 - a.2.1)),sb,rfl,iS hd,d⟩
noncomputable def meter_Meter_Take_D (a:Dl) (b:Int):Option (Int×Dl):=cond (decide (b< 0)) (some (1,a)) ((Dm a).bind λt1=>cond (decide (b>t1)) (some (5,a)) (some (0,(a.1,(bD .i64 ((a.2.1)+b)),(if(bD .i64 ((a.2.1)+b)) >(a.2.2) then(bD .i64 ((a.2.1)+b)) else(a.2.2))))))
theorem EO {u:Option Addr}{a:Dl}{t:Int}(w:St φ (cO 83 (kU En) u a::F) h) {r:(Int×Dl)}(hd:meter_Meter_Take_D a t=some r):
 CallsH kI 62 [(.pointer u),(.int .i64 t)] h (Ae λv z=>∃ψ:AD,∃y:Int,∃c:Dl,Sub φ ψ∧v=((.one aI):Sh).val y∧(y,c)=r∧St ψ (cO 83 (kU En) u c::F) z):=by
 refine AN mixed func62 (Kt ..)<|kD hd rfl (λhd=>?_) (λhd=>?_)
 ·exact AB ⟨φ,(1:Int),a,sb,rfl,iS hd,w⟩
 have⟨l,g,hd⟩:=bS hd;refine AE (K8 w g) ?_;rintro _ m ⟨d,t1,n,rfl,rfl,e⟩;refine⟨t1,rfl,?_⟩;refine kD hd rfl (λhd=>?_) (λhd=>?_)
 ·exact AB ⟨d,(5:Int),a,sb,rfl,iS hd,e⟩
 obtain⟨o,p,i,⟨_,_,rfl,rfl,_,_,rfl,rfl,rfl⟩,f⟩:=lH e;subst i;refine AF _ rfl<|AA (x:=(a.2.1)) f rfl<|AF _ rfl<|AG f rfl rfl λq b=>AF _ rfl<|AA (x:=(a.2.2)) b rfl<|AF _ rfl<|AA (x:=(bD .i64 ((a.2.1)+t))) b rfl<|AF _ rfl<|AG b rfl rfl λs j=> ?_;have k:=lA (r:=En) (x:=(a.1,(bD .i64 ((a.2.1)+t)),(if(bD .i64 ((a.2.1)+t)) >(a.2.2) then(bD .i64 ((a.2.1)+t)) else(a.2.2)))) j ⟨[_],_,rfl,rfl,⟨[_],_,rfl,rfl,rfl⟩⟩;exact AB ⟨d,(0:Int),(a.1,(bD .i64 ((a.2.1)+t)),(if(bD .i64 ((a.2.1)+t)) >(a.2.2) then(bD .i64 ((a.2.1)+t)) else(a.2.2))),sb,rfl,iS hd,k⟩
noncomputable def Cz (a:Dl):Option Int:=some (a.2.1)
theorem Ga {g:Option Addr}{a:Dl}(i:St φ (cO 83 (kU En) g a::F) h) {r:Int}(hd:Cz a=some r):
 CallsH kI 22 [(.pointer g)] h (Ae λv j=>∃ψ:AD,∃y:Int,Sub φ ψ∧v=((.one aI):Sh).val y∧y=r∧St ψ (cO 83 (kU En) g a::F) j):=by refine AN mixed func22 (Ku ..) ?_;obtain⟨e,f,c,⟨_,_,rfl,rfl,_,_,rfl,rfl,rfl⟩,b⟩:=lH i;subst c;refine AF _ rfl<|AA (x:=(a.2.1)) b rfl ?_;have d:=lA (r:=En) (x:=(a.1,a.2.1,a.2.2)) b ⟨[_],_,rfl,rfl,⟨[_],_,rfl,rfl,rfl⟩⟩;exact AB ⟨φ,a.2.1,sb,rfl,iS hd,d⟩
noncomputable def BI (b:List ByteArray) (d:ByteArray):Option Int:=
 (DF (σ:=Unit) (β:=Int) 0 (b.length:Int) () λa g=>
  (idx b a).bind λe=>
  cond (hC e==hC d)
  (some (kO a))
  (some (kQ ()))).bind λc=>match c with
 |.next h=>
  some (-1:Int)
 |.done f=>some f
theorem Hu {A:Slc}{b:List ByteArray}{B:ByteArray}(d:kH kG φ A b) (D:St φ F h) {r:Int}(hd:BI b B=some r):
 CallsH kI 92 [(sv A),(.string B)] h (Ae λv E=>∃ψ:AD,∃y:Int,Sub φ ψ∧v=((.one aI):Sh).val y∧y=r∧St ψ F E):=by
 refine AN mixed func92 (Fg ..) ?_;have e:A.2.1=kF b:=d.length;have⟨u,i,hd⟩:=bS hd;refine BR i (λj y G g=>∃ψ:AD,Sub φ ψ∧y.1=j∧()=g∧St ψ F G) ((0:Int),(0:Int),()) rfl ⟨φ,sb,rfl,rfl,D⟩ ?_ ?_ ?_
 ·rintro _ C w _ _ ⟨f,x,rfl,rfl,c⟩ a z k l m;refine Ai (dT e k)<|gx d a c λa0 a=>kD a rfl (λa=>?_) (λa=>?_)
  ·obtain rfl:=iS a;obtain rfl:=m _ rfl;obtain rfl:=iS hd;exact Ak (Al (AB ⟨f,C.1,sb,rfl,rfl,c⟩))
  obtain rfl:=iS a;exact jZ rfl rfl ⟨f,sb,l,rfl,c⟩
 ·rintro _ C H _ ⟨n,I,rfl,rfl,o⟩ p q;subst q;refine AW (dF e p)<|AO (kB rfl ⟨_,rfl,_,n,sb,rfl,rfl,o⟩)
 rintro J K ⟨_,rfl,_,s,L,_,rfl,t⟩;exact AB ⟨s,(-1:Int),sb,rfl,iS hd,t⟩
theorem Bp {A:Slc}{b:List ByteArray}{B:ByteArray}(C:St φ (cR 9 kG A b::F) h) {r:Int}(hd:BI b B=some r):
 CallsH kI 92 [(sv A),(.string B)] h (Ae λv E=>∃ψ:AD,∃y:Int,Sub φ ψ∧v=((.one aI):Sh).val y∧y=r∧St ψ (cR 9 kG A b::F) E):=by
 refine AN mixed func92 (Fg ..) ?_;have d:A.2.1=kF b:=(C).rowLen;have⟨t,f,hd⟩:=bS hd;refine BR f (λi y G g=>∃ψ:AD,Sub φ ψ∧y.1=i∧()=g∧St ψ (cR 9 kG A b::F) G) ((0:Int),(0:Int),()) rfl ⟨φ,sb,rfl,rfl,C⟩ ?_ ?_ ?_
 ·rintro _ D u _ _ ⟨e,w,rfl,rfl,c⟩ a x j k l;refine Ai (dT d j)<|gxO c a λz a=>kD a rfl (λa=>?_) (λa=>?_)
  ·obtain rfl:=iS a;obtain rfl:=l _ rfl;obtain rfl:=iS hd;exact Ak (Al (AB ⟨e,D.1,sb,rfl,rfl,c⟩))
  obtain rfl:=iS a;exact jZ rfl rfl ⟨e,sb,k,rfl,c⟩
 ·rintro _ D a0 _ ⟨m,H,rfl,rfl,n⟩ o p;subst p;refine AW (dF d o)<|AO (kB rfl ⟨_,rfl,_,m,sb,rfl,rfl,n⟩)
 rintro I J ⟨_,rfl,_,q,K,_,rfl,s⟩;exact AB ⟨q,(-1:Int),sb,rfl,iS hd,s⟩
noncomputable def Cb (g_0:DV) (a:ByteArray):Option Int:=
 (DF (σ:=Unit) (β:=Int) 0 (g_0.2.2.1.length:Int) () λb f=>
  (idx g_0.2.2.1 b).bind λd=>
  (BI d.2 a).bind λt8=>
  cond (decide (t8≥ 0))
  (some (kO (bD .i64 (b+1))))
  (some (kQ ()))).bind λc=>match c with
 |.next g=>
  some 0
 |.done e=>some e
theorem Fk {A:Slc×Slc×Slc×ByteArray×Slc×Unit}{d:List HY}{e:List Ic}{c:List Fc}{f:List Dh}{B:ByteArray}(K:kH HZ φ A.1 d) (L:kH N2 φ A.2.1 e) (i:kH G5 φ A.2.2.1 c) (M:kH GX φ A.2.2.2.2.1 f) (D:St φ F h) {r:Int}(hd:Cb (d,e,c,A.2.2.2.1,f) B=some r):
 CallsH kI 93 [(.agg #[(sv A.1),(sv A.2.1),(sv A.2.2.1),(.string A.2.2.2.1),(sv A.2.2.2.2.1)]),(.string B)] h (Ae λv E=>∃ψ:AD,∃y:Int,Sub φ ψ∧v=((.one aI):Sh).val y∧y=r∧St ψ F E):=by
 refine AN mixed func93 (JG ..) ?_;have j:A.2.2.1.2.1=kF c:=i.length;refine AU (vs:=[sv A.1,sv A.2.1,sv A.2.2.1,.string A.2.2.2.1,sv A.2.2.2.2.1]) D λG N n=> ?_;have⟨O,o,hd⟩:=bS hd;refine BR o (λp y H g=>∃ψ:AD,Sub φ ψ∧y.1=p∧()=g∧St ψ (Wq1 G A::F) H) ((0:Int),(0:Int),()) rfl ⟨φ,sb,rfl,rfl,n⟩ ?_ ?_ ?_
 ·rintro _ C P _ _ ⟨Q,R,rfl,rfl,b⟩ a al q s t;refine AA b rfl<|Ai (dT j q)<|AA b rfl<|ixR cE i a b λap S u a=> ?_;have⟨b1,w,a⟩:=bS a;refine AE (Hu u.up b w) ?_;rintro _ T ⟨k,t8,U,rfl,rfl,l⟩;refine⟨t8,rfl,?_⟩;refine kD a rfl (λa=>?_) (λa=>?_)
  ·obtain rfl:=iS a;obtain rfl:=t _ rfl;obtain rfl:=iS hd;exact Ak (Al (AB ⟨k,(wN C.1),sb,rfl,rfl,l.tail⟩))
  obtain rfl:=iS a;exact jZ rfl rfl ⟨k,sb,s,rfl,l⟩
 ·rintro _ C V _ ⟨x,W,rfl,rfl,m⟩ z a0;subst a0;refine AA m rfl<|AW (dF j z)<|AO (kB rfl ⟨_,rfl,_,x,sb,rfl,rfl,m⟩)
 rintro X Y ⟨_,rfl,_,I,Z,_,rfl,J⟩;exact AB ⟨I,(0:Int),sb,rfl,iS hd,J.tail⟩
noncomputable def Bq (p_0:(List ByteArray×List ByteArray)) (a:ByteArray):Option Int:=(BI p_0.1 a).bind λt3=>cond (decide (t3≥ 0)) (some t3) ((BI p_0.2 a).bind λt5=>cond (decide (t5≥ 0)) (some (bD .i64 ((p_0.1.length:Int)+t5))) (some (-1:Int)))
theorem DT {w:Pl6}{a:List ByteArray}{b:List ByteArray}{x:ByteArray}(z:St φ (cR 9 kG w.1 a::cR 9 kG w.2.1 b::F) h) {r:Int}(hd:Bq (a,b) x=some r):
 CallsH kI 94 [(aG w),(.string x)] h (Ae λv A=>∃ψ:AD,∃y:Int,Sub φ ψ∧v=((.one aI):Sh).val y∧y=r∧St ψ (cR 9 kG w.1 a::cR 9 kG w.2.1 b::F) A):=by
 refine AN mixed func94 (K0 ..) ?_;have g:w.1.2.1=kF a:=(z).rowLen;refine Db (t:=w) z λB m e=>AA e rfl ?_;have⟨n,i,hd⟩:=bS hd;refine AE (Bp e.at1 i) ?_;rintro _ o ⟨j,t3,p,rfl,rfl,c⟩;refine⟨t3,rfl,?_⟩;refine kD hd rfl (λhd=>?_) (λhd=>?_)
 ·exact AB ⟨j,t3,sb,rfl,iS hd,c.at1.tail.at1.at1⟩
 refine AA c.at1 rfl ?_;have⟨q,k,hd⟩:=bS hd;refine AE (Bp c.at2 k) ?_;rintro _ s ⟨f,t5,u,rfl,rfl,d⟩;refine⟨t5,rfl,?_⟩;refine kD hd rfl (λhd=>?_) (λhd=>?_)
 ·refine AA d.at2 rfl ?_;obtain rfl:=iS hd;have l:=d.at2.tail.at1;exact AB ⟨f,(bD .i64 ((w.1.2.1:Int)+t5)),sb,rfl,(by rw[g]),l⟩
 exact AB ⟨f,(-1:Int),sb,rfl,iS hd,d.at2.tail.at1⟩
noncomputable def B8 (a_0:IK) (x_1:BQ):Option Int:=(idx a_0.2.2.1 x_1.1).bind λa=>cond (decide (x_1.2≥ (a.2.1.length:Int))) (some (-1:Int)) ((idx a.2.1 x_1.2).bind λb=>some b)
theorem Do {B:Option Addr}{a:IK}{A:Int×Int×Unit}(C:St φ (cO 112 (kU Ca) B a::F) h) {r:Int}(hd:B8 a (A.1,A.2.1)=some r):
 CallsH kI 97 [(.pointer B),(.agg #[(.int .i64 A.1),(.int .i64 A.2.1)])] h (Ae λv D=>∃ψ:AD,∃y:Int,Sub φ ψ∧v=((.one aI):Sh).val y∧y=r∧St ψ (cO 112 (kU Ca) B a::F) D):=by
 refine AN mixed func97 (JE ..)<|AU (vs:=[.int .i64 A.1,.int .i64 A.2.1]) C λE a0 q=> ?_;obtain⟨G,H,s,⟨_,_,rfl,⟨d,rfl,e⟩,_,_,rfl,⟨f,rfl,g⟩,_,_,rfl,⟨i,rfl,c⟩,_,_,rfl,⟨j,rfl,k⟩,_,_,rfl,⟨l,rfl,m⟩,_,_,rfl,⟨n,rfl,o⟩,_,_,rfl,rfl,rfl⟩,b⟩:=lH q.at1;subst s;refine AF _ rfl<|AA b rfl<|AA b.at1 rfl<|ixR Km c hd b λI J p hd=> ?_;have t:=p.length;refine AA b.at1 rfl<|kD hd (by rw[t] <;>rfl) (λhd=>?_) (λhd=>?_)
 ·have u:=lA (r:=Ca) (x:=(a.1,a.2.1,a.2.2.1,a.2.2.2.1,a.2.2.2.2.1,a.2.2.2.2.2.1,a.2.2.2.2.2.2.1,a.2.2.2.2.2.2.2)) b ⟨[_],_,rfl,⟨d,rfl,e⟩,⟨[_],_,rfl,⟨f,rfl,g⟩,⟨[_],_,rfl,⟨i,rfl,c⟩,⟨[_],_,rfl,⟨j,rfl,k⟩,⟨[_],_,rfl,⟨l,rfl,m⟩,⟨[_],_,rfl,⟨n,rfl,o⟩,⟨[_],_,rfl,rfl,rfl⟩⟩⟩⟩⟩⟩⟩;exact AB ⟨φ,(-1:Int),sb,rfl,iS hd,u.at1.tail⟩
 refine AA b.at1 rfl<|gx p hd b λw hd=> ?_;have z:=lA (r:=Ca) (x:=(a.1,a.2.1,a.2.2.1,a.2.2.2.1,a.2.2.2.2.1,a.2.2.2.2.2.1,a.2.2.2.2.2.2.1,a.2.2.2.2.2.2.2)) b ⟨[_],_,rfl,⟨d,rfl,e⟩,⟨[_],_,rfl,⟨f,rfl,g⟩,⟨[_],_,rfl,⟨i,rfl,c⟩,⟨[_],_,rfl,⟨j,rfl,k⟩,⟨[_],_,rfl,⟨l,rfl,m⟩,⟨[_],_,rfl,⟨n,rfl,o⟩,⟨[_],_,rfl,rfl,rfl⟩⟩⟩⟩⟩⟩⟩;exact AB ⟨φ,w,sb,rfl,iS hd,z.at1.tail⟩
noncomputable def BU (p_0:As) (a:Int):Option Bool:=(cond (decide (a≥ 0)) (some (decide (a< (p_0.1.length:Int)))) (some false)).bind λb=>some b
theorem Dc {n:Pl6}{m:As}{o:Int}(c:Gw φ n m) (p:St φ F h) {r:Bool}(hd:BU m o=some r):
 CallsH kI 85 [(aG n),(.int .i64 o)] h (Ae λv q=>∃ψ:AD,∃y:Bool,Sub φ ψ∧v=((.one aB):Sh).val y∧y=r∧St ψ F q):=by
 refine AN mixed func85 (Qg ..) ?_;have d:n.1.2.1=kF m.1:=c.k0.length;refine Db (t:=n) p λs j b=> ?_;have⟨e,a,hd⟩:=bS hd;refine Ad (λy u g=>∃ψ:AD,Sub φ ψ∧y.1=g∧St ψ (Wq2 s n::F) u) (g:=e) ?_ ?_
 ·refine kD a rfl (λa=>?_) (λa=>?_)
  ·refine AA b rfl ?_;obtain rfl:=iS a;exact jY rfl ⟨φ,sb,(by rw[d]),b⟩
  exact jY rfl ⟨φ,sb,iS a,b⟩
 rintro w k ⟨f,l,rfl,i⟩;exact AB ⟨f,w.1,sb,rfl,iS hd,i.tail⟩
noncomputable def Bj (s_0:List BQ) (v_1:BQ):Option Int:=
 (DF (σ:=Unit) (β:=Int) 0 (s_0.length:Int) () λa e=>
  (idx s_0 a).bind λb=>
  cond ((v_1.1==b.1) && ((v_1.2==b.2) && true))
  (some (kO a))
  (some (kQ ()))).bind λc=>match c with
 |.next f=>
  some (-1:Int)
 |.done d=>some d
theorem Ec {B:Slc}{c:List BQ}{A:Int×Int×Unit}(d:kH Bx φ B c) (D:St φ F h) {r:Int}(hd:Bj c (A.1,A.2.1)=some r):
 CallsH kI 136 [(sv B),(.agg #[(.int .i64 A.1),(.int .i64 A.2.1)])] h (Ae λv E=>∃ψ:AD,∃y:Int,Sub φ ψ∧v=((.one aI):Sh).val y∧y=r∧St ψ F E):=by
 refine AN mixed func136 (Cw ..) ?_;have e:B.2.1=kF c:=d.length;refine AU (vs:=[.int .i64 A.1,.int .i64 A.2.1]) D λG w i=> ?_;have⟨x,j,hd⟩:=bS hd;refine BR j (λk y H g=>∃ψ:AD,Sub φ ψ∧y.1=k∧()=g∧St ψ (cW 124 G [.int .i64 A.1,.int .i64 A.2.1]::F) H) ((0:Int),(0:Int),()) rfl ⟨φ,sb,rfl,rfl,i⟩ ?_ ?_ ?_
 ·rintro _ C z _ _ ⟨f,a0,rfl,rfl,b⟩ a I l m n;refine Ai (dT e l)<|AA b rfl<|AA b rfl<|YC d a b λJ a=>kD a rfl (λa=>?_) (λa=>?_)
  ·obtain rfl:=iS a;obtain rfl:=n _ rfl;obtain rfl:=iS hd;exact Ak (Al (AB ⟨f,C.1,sb,rfl,rfl,b.tail⟩))
  obtain rfl:=iS a;exact jZ rfl rfl ⟨f,sb,m,rfl,b⟩
 ·rintro _ C K _ ⟨o,L,rfl,rfl,p⟩ q s;subst s;refine AW (dF e q)<|AO (kB rfl ⟨_,rfl,_,o,sb,rfl,rfl,p⟩)
 rintro M N ⟨_,rfl,_,t,O,_,rfl,u⟩;exact AB ⟨t,(-1:Int),sb,rfl,iS hd,u.tail⟩
theorem EP {B:Slc}{b:List BQ}{A:Int×Int×Unit}(C:St φ (cR 124 Bx B b::F) h) {r:Int}(hd:Bj b (A.1,A.2.1)=some r):
 CallsH kI 136 [(sv B),(.agg #[(.int .i64 A.1),(.int .i64 A.2.1)])] h (Ae λv E=>∃ψ:AD,∃y:Int,Sub φ ψ∧v=((.one aI):Sh).val y∧y=r∧St ψ (cR 124 Bx B b::F) E):=by
 refine AN mixed func136 (Cw ..) ?_;have d:B.2.1=kF b:=(C).rowLen;refine AU (vs:=[.int .i64 A.1,.int .i64 A.2.1]) C λG u f=> ?_;have⟨w,i,hd⟩:=bS hd;refine BR i (λj y H g=>∃ψ:AD,Sub φ ψ∧y.1=j∧()=g∧St ψ (cW 124 G [.int .i64 A.1,.int .i64 A.2.1]::cR 124 Bx B b::F) H) ((0:Int),(0:Int),()) rfl ⟨φ,sb,rfl,rfl,f.at1.at1⟩ ?_ ?_ ?_
 ·rintro _ D x _ _ ⟨e,z,rfl,rfl,c⟩ a a0 k l m;refine Ai (dT d k)<|AA c rfl<|AA c rfl<|gL c.at1 a λI a=>kD a rfl (λa=>?_) (λa=>?_)
  ·obtain rfl:=iS a;obtain rfl:=m _ rfl;obtain rfl:=iS hd;exact Ak (Al (AB ⟨e,D.1,sb,rfl,rfl,c.tail⟩))
  obtain rfl:=iS a;exact jZ rfl rfl ⟨e,sb,l,rfl,c.at1.at1⟩
 ·rintro _ D J _ ⟨n,K,rfl,rfl,o⟩ p q;subst q;refine AW (dF d p)<|AO (kB rfl ⟨_,rfl,_,n,sb,rfl,rfl,o.at1.at1⟩)
 rintro L M ⟨_,rfl,_,s,N,_,rfl,t⟩;exact AB ⟨s,(-1:Int),sb,rfl,iS hd,t.tail⟩
noncomputable def Az (s_0:List BQ) (v_1:BQ):Option Bool:=(Bj s_0 (v_1.1,v_1.2)).bind λt4=>some (decide (t4≥ 0))
theorem D4 {m:Slc}{b:List BQ}{l:Int×Int×Unit}(c:kH Bx φ m b) (n:St φ F h) {r:Bool}(hd:Az b (l.1,l.2.1)=some r):
 CallsH kI 98 [(sv m),(.agg #[(.int .i64 l.1),(.int .i64 l.2.1)])] h (Ae λv o=>∃ψ:AD,∃y:Bool,Sub φ ψ∧v=((.one aB):Sh).val y∧y=r∧St ψ F o):=by refine AN mixed func98 (Cd ..)<|AU (vs:=[.int .i64 l.1,.int .i64 l.2.1]) n λp g a=>AA a rfl<|AA a rfl ?_;have⟨i,d,hd⟩:=bS hd;refine AE (Ec (A:=(l.1,l.2.1,())) c a d) ?_;rintro _ j ⟨e,t4,k,rfl,rfl,f⟩;refine⟨t4,rfl,?_⟩;exact AB ⟨e,(decide (t4≥ (0:Int))),sb,rfl,iS hd,f.tail⟩
theorem Dw {l:Slc}{a:List BQ}{k:Int×Int×Unit}(m:St φ (cR 124 Bx l a::F) h) {r:Bool}(hd:Az a (k.1,k.2.1)=some r):
 CallsH kI 98 [(sv l),(.agg #[(.int .i64 k.1),(.int .i64 k.2.1)])] h (Ae λv n=>∃ψ:AD,∃y:Bool,Sub φ ψ∧v=((.one aB):Sh).val y∧y=r∧St ψ (cR 124 Bx l a::F) n):=by refine AN mixed func98 (Cd ..)<|AU (vs:=[.int .i64 k.1,.int .i64 k.2.1]) m λo f b=>AA b rfl<|AA b rfl ?_;have⟨g,c,hd⟩:=bS hd;refine AE (EP (A:=(k.1,k.2.1,())) b.at1 c) ?_;rintro _ i ⟨d,t4,j,rfl,rfl,e⟩;refine⟨t4,rfl,?_⟩;exact AB ⟨d,(decide (t4≥ (0:Int))),sb,rfl,iS hd,e.at1.tail⟩
noncomputable def C4 (a:Int):Option Bool:=(cond (a==95) (some true) (cond (decide (a≥ 97)) (cond (decide (a≤122)) (some true) (cond (decide (a≥ 65)) (some (decide (a≤90))) (some false))) (cond (decide (a≥ 65)) (some (decide (a≤90))) (some false)))).bind λb=>some b
theorem Ik {j:Int}(i:St φ F h) {r:Bool}(hd:C4 j=some r):
 CallsH kI 186 [(.int .u8 j)] h (Ae λv k=>∃ψ:AD,∃y:Bool,Sub φ ψ∧v=((.one aB):Sh).val y∧y=r∧St ψ F k):=by
 refine AN mixed func186 (Ii ..) ?_;have⟨b,a,hd⟩:=bS hd;refine Ad (λy l g=>∃ψ:AD,Sub φ ψ∧y.1=g∧St ψ F l) (g:=b) ?_ ?_
 ·refine kD a rfl (λa=>?_) (λa=>?_)
  ·exact jY rfl ⟨φ,sb,iS a,i⟩
  refine kD a rfl (λa=>?_) (λa=>?_)
  ·refine kD a rfl (λa=>?_) (λa=>?_)
   ·exact jY rfl ⟨φ,sb,iS a,i⟩
   refine kD a rfl (λa=>?_) (λa=>?_)
   ·exact jY rfl ⟨φ,sb,iS a,i⟩
   exact jY rfl ⟨φ,sb,iS a,i⟩
  refine kD a rfl (λa=>?_) (λa=>?_)
  ·exact jY rfl ⟨φ,sb,iS a,i⟩
  exact jY rfl ⟨φ,sb,iS a,i⟩
 rintro m e ⟨c,f,rfl,d⟩;exact AB ⟨c,m.1,sb,rfl,iS hd,d⟩
noncomputable def Gb (a:Int):Option Bool:=(cond (decide (a≥ 48)) (some (decide (a≤57))) (some false)).bind λb=>some b
theorem JK {i:Int}(j:St φ F h) {r:Bool}(hd:Gb i=some r):
 CallsH kI 187 [(.int .u8 i)] h (Ae λv k=>∃ψ:AD,∃y:Bool,Sub φ ψ∧v=((.one aB):Sh).val y∧y=r∧St ψ F k):=by
 refine AN mixed func187 (JI ..) ?_;have⟨b,a,hd⟩:=bS hd;refine Ad (λy l g=>∃ψ:AD,Sub φ ψ∧y.1=g∧St ψ F l) (g:=b) ?_ ?_
 ·refine kD a rfl (λa=>?_) (λa=>?_)
  ·exact jY rfl ⟨φ,sb,iS a,j⟩
  exact jY rfl ⟨φ,sb,iS a,j⟩
 rintro m e ⟨c,f,rfl,d⟩;exact AB ⟨c,m.1,sb,rfl,iS hd,d⟩
noncomputable def Eo (s_0:ByteArray):Option Bool:=
 (DF (σ:=Unit) (β:=Bool) 0 ((hM s_0:Nat):Int) () λa e=>
  (need (0≤a∧a< (hM s_0:Nat))<|
  (C4 ((kV (FB s_0 (eE a)):Nat):Int)).bind λt4=>
  cond (!t4)
  (cond (a==0)
   (some true)
   (need (0≤a∧a< (hM s_0:Nat))<|
    (Gb ((kV (FB s_0 (eE a)):Nat):Int)).bind λt5=>
    some (!t5)))
  (some false)).bind λd=>
  cond d
  (some (kO false))
  (some (kQ ()))).bind λb=>match b with
 |.next f=>
  some (!(hC s_0==hC {data:=#[]}))
 |.done c=>some c
theorem KC {A:ByteArray}(C:St φ F h) {r:Bool}(hd:Eo A=some r):
 CallsH kI 157 [(.string A)] h (Ae λv D=>∃ψ:AD,∃y:Bool,Sub φ ψ∧v=((.one aB):Sh).val y∧y=r∧St ψ F D):=by
 refine AN mixed func157 (J9 ..) ?_;have⟨I,i,hd⟩:=bS hd;refine BR i (λj y B g=>∃ψ:AD,Sub φ ψ∧y.1=j∧()=g∧St ψ F B) ((0:Int),false,()) rfl ⟨φ,sb,rfl,rfl,C⟩ ?_ ?_ ?_
 ·rintro _ E J _ _ ⟨k,K,rfl,rfl,l⟩ b L m n o;refine Ai (by exact decide_eq_true m) ?_;have⟨p,a,b⟩:=bS b;refine Ad (λy B g=>∃ψ:AD,Sub k ψ∧y.1=g∧St ψ F B) (g:=p) ?_ ?_
  ·refine Cv a id λM a=> ?_;have⟨N,q,a⟩:=bS a;refine AE (Ik l q) ?_;rintro _ O ⟨d,t4,P,rfl,rfl,c⟩;refine⟨t4,rfl,?_⟩;refine kD a rfl (λa=>?_) (λa=>?_)
   ·refine kD a rfl (λa=>?_) (λa=>?_)
    ·exact jY rfl ⟨d,sb,iS a,c⟩
    refine Cv a id λal a=> ?_;have⟨ap,s,a⟩:=bS a;refine AE (JK c s) ?_;rintro _ Q ⟨t,t5,b1,rfl,rfl,u⟩;refine⟨t5,rfl,?_⟩;exact jY rfl ⟨t,sb,iS a,u⟩
   exact jY rfl ⟨d,sb,iS a,c⟩
  rintro R S ⟨e,T,rfl,f⟩;refine kD b rfl (λb=>?_) (λb=>?_)
  ·obtain rfl:=iS b;obtain rfl:=o _ rfl;obtain rfl:=iS hd;exact Ak (Al (AB ⟨e,false,sb,rfl,rfl,f⟩))
  obtain rfl:=iS b;exact jZ rfl rfl ⟨e,sb,n,rfl,f⟩
 ·rintro _ E U _ ⟨w,V,rfl,rfl,x⟩ z a0;subst a0;refine AW (by exact decide_eq_false (kY.2 z))<|AO (kB rfl ⟨_,rfl,_,w,sb,rfl,rfl,x⟩)
 rintro W X ⟨_,rfl,_,G,Y,_,rfl,H⟩;exact AB ⟨G,(!(hC A==hC {data:=#[]})),sb,rfl,iS hd,H⟩
noncomputable def BV (s_0:ByteArray):Option Bool:=(cond (decide (((hM s_0:Nat):Int) ≤32)) ((Eo s_0).bind λt2=>some t2) (some false)).bind λa=>some a
theorem CV {o:ByteArray}(p:St φ F h) {r:Bool}(hd:BV o=some r):
 CallsH kI 131 [(.string o)] h (Ae λv q=>∃ψ:AD,∃y:Bool,Sub φ ψ∧v=((.one aB):Sh).val y∧y=r∧St ψ F q):=by
 refine AN mixed func131 (J6 ..) ?_;have⟨b,a,hd⟩:=bS hd;refine Ad (λy s g=>∃ψ:AD,Sub φ ψ∧y.1=g∧St ψ F s) (g:=b) ?_ ?_
 ·refine kD a rfl (λa=>?_) (λa=>?_)
  ·have⟨j,c,a⟩:=bS a;refine AE (KC p c) ?_;rintro _ k ⟨d,t2,l,rfl,rfl,e⟩;refine⟨t2,rfl,?_⟩;exact jY rfl ⟨d,sb,iS a,e⟩
  exact jY rfl ⟨φ,sb,iS a,p⟩
 rintro t m ⟨f,n,rfl,i⟩;exact AB ⟨f,t.1,sb,rfl,iS hd,i⟩
noncomputable def CE (p_0:Ic):Option Bool:=
 cond (!(hC p_0.1==hC {data:=#[]}))
 ((cond (decide (((hM p_0.1:Nat):Int) ≤32))
  (cond (hC p_0.2.1==hC {data:=#[]})
   (some (!p_0.2.2))
   (some false))
  (some false)).bind λd=>
  some d)
 ((DF (σ:=Unit) (β:=Bool) 1 ((hM p_0.2.1:Nat):Int) () λa e=>
  need (0≤a∧a< (hM p_0.2.1:Nat))<|
  need (0≤(bD .i64 (a - 1))∧(bD .i64 (a - 1)) < (hM p_0.2.1:Nat))<|
  cond (decide (((kV (FB p_0.2.1 (eE a)):Nat):Int) ≤((kV (FB p_0.2.1 (eE (bD .i64 (a - 1)))):Nat):Int)))
  (some (kO false))
  (some (kQ ()))).bind λb=>match b with
  |.next f=>
   some (!(hC p_0.2.1==hC {data:=#[]}))
  |.done c=>some c)
theorem Ey {A:ByteArray×ByteArray×Bool×Unit}(D:St φ F h) {r:Bool}(hd:CE (A.1,A.2.1,A.2.2.1)=some r):
 CallsH kI 132 [(.agg #[(.string A.1),(.string A.2.1),(.bool A.2.2.1)])] h (Ae λv E=>∃ψ:AD,∃y:Bool,Sub φ ψ∧v=((.one aB):Sh).val y∧y=r∧St ψ F E):=by
 refine AN mixed func132 (IP ..)<|AU (vs:=[.string A.1,.string A.2.1,.bool A.2.2.1]) D λC x c=>AA c rfl<|kD hd rfl (λhd=>?_) (λhd=>?_)
 ·have⟨j,a,hd⟩:=bS hd;refine Ad (λy B g=>∃ψ:AD,Sub φ ψ∧y.1=g∧St ψ (Wq3 C A::F) B) (g:=j) ?_ ?_
  ·refine AA c rfl<|kD a rfl (λa=>?_) (λa=>?_)
   ·refine AA c rfl<|kD a rfl (λa=>?_) (λa=>?_)
    ·refine AA c rfl ?_;exact jY rfl ⟨φ,sb,iS a,c⟩
    exact jY rfl ⟨φ,sb,iS a,c⟩
   exact jY rfl ⟨φ,sb,iS a,c⟩
  rintro G z ⟨k,a0,rfl,l⟩;exact AB ⟨k,G.1,sb,rfl,iS hd,l.tail⟩
 have⟨I,m,hd⟩:=bS hd;refine BR m (λn y B g=>∃ψ:AD,Sub φ ψ∧y.1=n∧()=g∧St ψ (Wq3 C A::F) B) ((1:Int),false,()) rfl ⟨φ,sb,rfl,rfl,c⟩ ?_ ?_ ?_
 ·rintro _ H J _ _ ⟨e,K,rfl,rfl,d⟩ b L o p q;refine AA d rfl<|Ai (by exact decide_eq_true o)<|AA d rfl<|Cv b id λM b=>AA d rfl<|Cv b id λN b=>kD b rfl (λb=>?_) (λb=>?_)
  ·obtain rfl:=iS b;obtain rfl:=q _ rfl;obtain rfl:=iS hd;exact Ak (Al (AB ⟨e,false,sb,rfl,rfl,d.tail⟩))
  obtain rfl:=iS b;exact jZ rfl rfl ⟨e,sb,p,rfl,d⟩
 ·rintro _ H O _ ⟨s,P,rfl,rfl,f⟩ t u;subst u;refine AA f rfl<|AW (by exact decide_eq_false (kY.2 t))<|AO (kB rfl ⟨_,rfl,_,s,sb,rfl,rfl,f⟩)
 rintro Q R ⟨_,rfl,_,w,S,_,rfl,i⟩;refine AA i rfl ?_;exact AB ⟨w,(!(hC A.2.1==hC {data:=#[]})),sb,rfl,iS hd,i.tail⟩
noncomputable def C5 (s_0:ByteArray):Option Bool:=
 cond (decide (((hM s_0:Nat):Int) >200))
 (some false)
 ((DF (σ:=Int) (β:=Bool) 0 ((hM s_0:Nat):Int) 1 λa e=>
  need (0≤a∧a< (hM s_0:Nat))<|
  (cond (((kV (FB s_0 (eE a)):Nat):Int)==123)
  (some (bD .i64 (e+1)))
  (some e)).bind λf=>
  need (0≤a∧a< (hM s_0:Nat))<|
  (cond (((kV (FB s_0 (eE a)):Nat):Int)==125)
  (some (bD .i64 (f - 1)))
  (some f)).bind λc=>
  (cond (decide (c>4))
  (some true)
  (some (c==0))).bind λg=>
  cond g
  (some (kO false))
  (some (kQ c))).bind λb=>match b with
  |.next h=>
   some (h==1)
  |.done d=>some d)
theorem FP {B:ByteArray}(C:St φ F h) {r:Bool}(hd:C5 B=some r):
 CallsH kI 133 [(.string B)] h (Ae λv D=>∃ψ:AD,∃y:Bool,Sub φ ψ∧v=((.one aB):Sh).val y∧y=r∧St ψ F D):=by
 refine AN mixed func133 (Ih ..)<|kD hd rfl (λhd=>?_) (λhd=>?_)
 ·exact AB ⟨φ,false,sb,rfl,iS hd,C⟩
 have⟨L,o,hd⟩:=bS hd;refine BR o (λp y A g=>∃ψ:AD,Sub φ ψ∧y.1=p∧y.2.1=g∧St ψ F A) ((0:Int),(1:Int),false,()) rfl ⟨φ,sb,rfl,rfl,C⟩ ?_ ?_ ?_
 ·rintro _ E M _ _ ⟨e,N,rfl,rfl,j⟩ a O q s t;refine Ai (by exact decide_eq_true q)<|Cv a id λP a=> ?_;have⟨u,b,a⟩:=bS a;refine Ad (λy A g=>∃ψ:AD,Sub e ψ∧y.1=g∧St ψ F A) (g:=u) ?_ ?_
  ·refine kD b rfl (λb=>?_) (λb=>?_)
   ·exact jY rfl ⟨e,sb,iS b,j⟩
   exact jY rfl ⟨e,sb,iS b,j⟩
  rintro Q R ⟨f,al,rfl,k⟩;refine Cv a id λap a=> ?_;have⟨w,c,a⟩:=bS a;refine Ad (λy A g=>∃ψ:AD,Sub f ψ∧y.1=g∧St ψ F A) (g:=w) ?_ ?_
  ·refine kD c rfl (λc=>?_) (λc=>?_)
   ·exact jY rfl ⟨f,sb,iS c,k⟩
   exact jY rfl ⟨f,sb,iS c,k⟩
  rintro S T ⟨i,b1,rfl,l⟩;have⟨x,d,a⟩:=bS a;refine Ad (λy A g=>∃ψ:AD,Sub i ψ∧y.1=g∧St ψ F A) (g:=x) ?_ ?_
  ·refine kD d rfl (λd=>?_) (λd=>?_)
   ·exact jY rfl ⟨i,sb,iS d,l⟩
   exact jY rfl ⟨i,sb,iS d,l⟩
  rintro U V ⟨m,W,rfl,n⟩;refine kD a rfl (λa=>?_) (λa=>?_)
  ·obtain rfl:=iS a;obtain rfl:=t _ rfl;obtain rfl:=iS hd;exact Ak (Al (AB ⟨m,false,sb,rfl,rfl,n⟩))
  obtain rfl:=iS a;exact jZ rfl rfl ⟨m,sb,s,rfl,n⟩
 ·rintro _ E X _ ⟨z,Y,rfl,rfl,a0⟩ G H;subst H;refine AW (by exact decide_eq_false (kY.2 G))<|AO (kB rfl ⟨_,rfl,_,z,sb,rfl,rfl,a0⟩)
 rintro I Z ⟨_,rfl,_,J,b7,_,rfl,K⟩;exact AB ⟨J,(I.2.1==(1:Int)),sb,rfl,iS hd,K⟩
noncomputable def By (b:List ByteArray):Option Bool:=
 (DF (σ:=Unit) (β:=Bool) 0 (b.length:Int) () λa k=>
  (idx b a).bind λf=>
  (BV f).bind λt5=>
  cond (!t5)
  (some (kO false))
  ((DF (σ:=Unit) (β:=Bool) 0 a () λc l=>
   (idx b c).bind λg=>
   (idx b a).bind λh=>
   cond (hC g==hC h)
   (some (kO false))
   (some (kQ ()))).bind λd=>match d with
   |.next m=>
    some (kQ ())
   |.done i=>some (kO i))).bind λe=>match e with
 |.next n=>
  some true
 |.done j=>some j
theorem F5 {A:Slc}{e:List ByteArray}(c:kH kG φ A e) (D:St φ F h) {r:Bool}(hd:By e=some r):
 CallsH kI 134 [(sv A)] h (Ae λv E=>∃ψ:AD,∃y:Bool,Sub φ ψ∧v=((.one aB):Sh).val y∧y=r∧St ψ F E):=by
 refine AN mixed func134 (J8 ..) ?_;have i:A.2.1=kF e:=c.length;have⟨ap,n,hd⟩:=bS hd;refine BR n (λo y B g=>∃ψ:AD,Sub φ ψ∧y.1=o∧()=g∧St ψ F B) ((0:Int),false,()) rfl ⟨φ,sb,rfl,rfl,D⟩ ?_ ?_ ?_
 ·rintro _ C R _ _ ⟨b1,S,rfl,rfl,j⟩ a T p q k;refine Ai (dT i p)<|gx c a j λU a=> ?_;have⟨V,s,a⟩:=bS a;refine AE (CV j s) ?_;rintro _ W ⟨f,t5,X,rfl,rfl,l⟩;refine⟨t5,rfl,?_⟩;refine kD a rfl (λa=>?_) (λa=>?_)
  ·obtain rfl:=iS a;obtain rfl:=k _ rfl;obtain rfl:=iS hd;exact Ak (Al (AB ⟨f,false,sb,rfl,rfl,l⟩))
  have⟨Y,t,a⟩:=bS a;refine BR t (λu y B g=>∃ψ:AD,Sub f ψ∧y.1=u∧()=g∧St ψ F B) ((0:Int),C.2.1,()) rfl ⟨f,sb,rfl,rfl,l⟩ ?_ ?_ ?_
  ·rintro _ G Z _ _ ⟨m,ba,rfl,rfl,d⟩ b bb w x z;refine Ai (by exact decide_eq_true w)<|gx c b d λbd b=>gx c b d λbf b=>kD b rfl (λb=>?_) (λb=>?_)
   ·obtain rfl:=iS b;obtain rfl:=z _ rfl;obtain rfl:=iS a;obtain rfl:=k _ rfl;obtain rfl:=iS hd;exact Ak (Al (Ak (Al (AB ⟨m,false,sb,rfl,rfl,d⟩))))
   obtain rfl:=iS b;exact jZ rfl rfl ⟨m,sb,x,rfl,d⟩
  ·rintro _ G bg _ ⟨a0,bi,rfl,rfl,H⟩ I J;subst J;refine AW (by exact decide_eq_false (kY.2 I))<|AO (kB rfl ⟨_,rfl,_,a0,sb,rfl,rfl,H⟩)
  rintro z6 bj ⟨_,rfl,_,K,bl,_,rfl,L⟩;obtain rfl:=iS a;exact jZ rfl rfl ⟨K,sb,q,rfl,L⟩
 ·rintro _ C bp _ ⟨M,bs,rfl,rfl,N⟩ O P;subst P;refine AW (dF i O)<|AO (kB rfl ⟨_,rfl,_,M,sb,rfl,rfl,N⟩)
 rintro z1 bt ⟨_,rfl,_,Q,bw,_,rfl,al⟩;exact AB ⟨Q,true,sb,rfl,iS hd,al⟩
end
section
variable {φ:AD}{h:AH}{F:List Chk}
theorem Ch:GU kI 28 28 9 1:=⟨lG,.inl lG,⟨t9,by kernel_rfl,rfl,⟨_,rfl,rfl⟩,by decide,by decide⟩,by decide⟩
theorem TF:GU kI 100 100 173 4:=⟨lB,.inl lB,⟨t173,by kernel_rfl,rfl,⟨_,rfl,rfl⟩,by decide,by decide⟩,by decide⟩
theorem TG:GU kI 102 102 176 2:=⟨lC,.inl lC,⟨t176,by kernel_rfl,rfl,⟨_,rfl,rfl⟩,by decide,by decide⟩,by decide⟩
theorem OA:GU kI 103 103 169 4:=⟨lD,.inl lD,⟨t169,by kernel_rfl,rfl,⟨_,rfl,rfl⟩,by decide,by decide⟩,by decide⟩
noncomputable def DL (g_0:DV):Option Bool:=
 (cond (decide ((g_0.1.length:Int) >20))
 (some true)
 (cond (decide ((g_0.2.1.length:Int) >4))
  (some true)
  (cond (decide ((g_0.2.2.1.length:Int) >10))
   (some true)
   (cond (decide ((g_0.2.2.2.2.length:Int) < 1))
    (some true)
    (cond (decide ((g_0.2.2.2.2.length:Int) >40))
     (some true)
     ((BV g_0.2.2.2.1).bind λN=>
      some (!N))))))).bind λO=>
 cond O
 (some false)
 ((DF (σ:=List ByteArray) (β:=Bool) 0 (g_0.1.length:Int) ([]:List ByteArray) λc u=>
  (idx g_0.1 c).bind λv=>
  (app u ([v.1]:List ByteArray)).bind λw=>
  (idx g_0.1 c).bind λe=>
  (CE (e.2.1,e.2.2.1,e.2.2.2)).bind λx=>
  cond (!x)
  (some (kO false))
  (some (kQ w))).bind λf=>match f with
  |.next y=>
   (DF (σ:=Unit) (β:=Bool) 0 (g_0.2.1.length:Int) () λg P=>
    (idx g_0.2.1 g).bind λd=>
    (CE (d.1,d.2.1,d.2.2)).bind λz=>
    cond (!z)
    (some (kO false))
    (some (kQ ()))).bind λh=>match h with
   |.next Q=>
    (DF (σ:=List ByteArray) (β:=Bool) 0 (g_0.2.2.1.length:Int) ([]:List ByteArray) λi A=>
     (idx g_0.2.2.1 i).bind λb=>
     (app A b.2).bind λB=>
     (cond (decide (b.1< 1))
     (some true)
     (cond (decide (b.1>3))
      (some true)
      (some ((b.2.length:Int)==0)))).bind λC=>
     cond C
     (some (kO false))
     (some (kQ B))).bind λj=>match j with
    |.next D=>
     (DF (σ:=Unit) (β:=Bool) 0 (g_0.2.2.2.2.length:Int) () λk R=>
      (idx g_0.2.2.2.2 k).bind λa=>
      ((BV a.1).bind λE=>
      cond (!E)
      (some true)
      (cond (decide ((a.2.1.length:Int) >8))
       (some true)
       (cond (!(hC a.2.2.1==hC {data:=#[]}))
        ((BV a.2.2.1).bind λF=>
         cond (!F)
         (some true)
         ((C5 a.2.2.2).bind λG=>
          some (!G)))
        ((C5 a.2.2.2).bind λH=>
         some (!H))))).bind λI=>
      cond I
      (some (kO false))
      ((DF (σ:=Unit) (β:=Bool) 0 (a.2.1.length:Int) () λl S=>
       (idx a.2.1 l).bind λo=>
       (BV o).bind λJ=>
       cond (!J)
       (some (kO false))
       (some (kQ ()))).bind λm=>match m with
       |.next T=>
        some (kQ ())
       |.done p=>some (kO p))).bind λn=>match n with
     |.next U=>
      ((By y).bind λK=>
      cond K
      ((By D).bind λL=>
       some L)
      (some false)).bind λM=>
      some M
     |.done q=>some q
    |.done r=>some r
   |.done s=>some s
  |.done t=>some t)
theorem JL {A:Slc×Slc×Slc×ByteArray×Slc×Unit}{N:List HY}{O:List Ic}{P:List Fc}{Q:List Dh}(R:kH HZ φ A.1 N) (bd:kH N2 φ A.2.1 O) (bf:kH G5 φ A.2.2.1 P) (bg:kH GX φ A.2.2.2.2.1 Q) (s0:St φ F h) {r:Bool}(hd:DL (N,O,P,A.2.2.2.1,Q)=some r):
 CallsH kI 91 [(.agg #[(sv A.1),(sv A.2.1),(sv A.2.2.1),(.string A.2.2.2.1),(sv A.2.2.2.2.1)])] h (Ae λv h'=>∃ψ:AD,∃y:Bool,Sub φ ψ∧v=((.one aB):Sh).val y∧y=r∧St ψ F h'):=by
 refine AN mixed func91 (JF ..) ?_;have al:A.1.2.1=kF N:=R.length;have ap:A.2.1.2.1=kF O:=bd.length;have S:A.2.2.1.2.1=kF P:=bf.length;have I:A.2.2.2.2.1.2.1=kF Q:=bg.length;refine AU (vs:=[sv A.1,sv A.2.1,sv A.2.2.1,.string A.2.2.2.1,sv A.2.2.2.2.1]) s0 λE i5 e=> ?_;have⟨d5,c,hd⟩:=bS hd;refine Ad (λy B g=>∃ψ:AD,Sub φ ψ∧y.1=g∧St ψ (Wq1 E A::F) B) (g:=d5) ?_ ?_
 ·refine AA e rfl<|kD c (by rw[al] <;>rfl) (λc=>?_) (λc=>?_)
  ·exact jY rfl ⟨φ,sb,iS c,e⟩
  refine AA e rfl<|kD c (by rw[ap] <;>rfl) (λc=>?_) (λc=>?_)
  ·exact jY rfl ⟨φ,sb,iS c,e⟩
  refine AA e rfl<|kD c (by rw[S] <;>rfl) (λc=>?_) (λc=>?_)
  ·exact jY rfl ⟨φ,sb,iS c,e⟩
  refine AA e rfl<|kD c (by rw[I] <;>rfl) (λc=>?_) (λc=>?_)
  ·exact jY rfl ⟨φ,sb,iS c,e⟩
  refine AA e rfl<|kD c (by rw[I] <;>rfl) (λc=>?_) (λc=>?_)
  ·exact jY rfl ⟨φ,sb,iS c,e⟩
  refine AA e rfl ?_;have⟨i6,d6,c⟩:=bS c;refine AE (CV e d6) ?_;rintro _ i7 ⟨d7,t9,i8,rfl,rfl,d8⟩;refine⟨t9,rfl,?_⟩;exact jY rfl ⟨d7,sb,iS c,d8⟩
 rintro z2 i9 ⟨b1,ia,rfl,bi⟩;refine kD hd rfl (λhd=>?_) (λhd=>?_)
 ·exact AB ⟨b1,false,sb,rfl,iS hd,bi.tail⟩
 have⟨ib,d9,hd⟩:=bS hd;refine BR d9 (λdd y B g=>∃ψ:AD,∃bj:List ByteArray,Sub b1 ψ∧y.1=dd∧bj=g∧St ψ (cR 9 kG y.2.1 bj::Wq1 E A::F) B) ((0:Int),((none,0,0):Slc),false,()) rfl ⟨b1,[],sb,rfl,rfl,(((bi.nil 9 kG).at1).at1)⟩ ?_ ?_ ?_
 ·rintro _ T ic _ _ ⟨dg,ie,ig,rfl,rfl,J⟩ d ih dk dl dp;refine AA J.at1 rfl<|Ai (dT al dk)<|AA J.at1 rfl<|Rh QF R d J λbl d=>AU (vs:=[.string bl.1]) J λm1 ii bp=> ?_;have⟨ds,dx,d⟩:=bS d;refine AZ (r:=kG) (ms:=([bl.1]:List ByteArray)) Ch bp.tail rfl (kW bp) (.cons (a:=[_]) rfl .nil) rfl dx ?_;intro m2 ij w;refine AA w.at1 rfl ?_;have⟨q,dy,d⟩:=bS d;obtain⟨ik,il,e0,e1,e2,U⟩:=(R.up (ψ:=dg)).get dy;refine AF _ e0 (Am e1 ?_);obtain⟨_,_,rfl,rfl,⟨_,_,rfl,rfl,⟨_,_,rfl,rfl,rfl⟩⟩⟩:=e2;refine AL (x:=q.2.1) (by rw[Ac];exact(AM (kJ sb w.sub) (U 1 _ rfl))) rfl<|AL (x:=q.2.2.1) (by rw[Ac,Ac];exact(AM (kJ sb w.sub) (U 2 _ rfl))) rfl<|AL (x:=q.2.2.2) (by rw[Ac,Ac];exact(AM (kJ sb w.sub) (U 3 _ rfl))) rfl ?_;have⟨im,e9,d⟩:=bS d;refine AE (Ey (A:=(q.2.1,q.2.2.1,q.2.2.2,())) w e9) ?_;rintro _ io ⟨bs,V,ip,rfl,rfl,bt⟩;refine⟨V,rfl,?_⟩;refine kD d rfl (λd=>?_) (λd=>?_)
  ·obtain rfl:=iS d;obtain rfl:=dp _ rfl;obtain rfl:=iS hd;exact Ak (Al (AB ⟨bs,false,sb,rfl,rfl,bt.tail.tail⟩))
  obtain rfl:=iS d;exact jZ rfl rfl ⟨bs,ds,sb,dl,rfl,bt.at1.at1⟩
 ·rintro _ T iq _ ⟨ea,ec,ir,rfl,rfl,bw⟩ ed ee;subst ee;refine AA bw.at1 rfl<|AW (dF al ed)<|AO (kB rfl ⟨_,rfl,_,ea,ec,sb,rfl,rfl,bw.at1.at1⟩)
 rintro C it ⟨_,rfl,_,bx,s,iu,_,rfl,ef⟩;have⟨iv,eg,hd⟩:=bS hd;refine BR eg (λek y B g=>∃ψ:AD,Sub bx ψ∧y.1=ek∧()=g∧St ψ (cR 9 kG C.2.1 s::Wq1 E A::F) B) ((0:Int),C.2.2.1,()) rfl ⟨bx,sb,rfl,rfl,ef.at1.at1⟩ ?_ ?_ ?_
 ·rintro _ W iw _ _ ⟨ix,iy,rfl,rfl,K⟩ j iz el em en;refine AA K.at1 rfl<|Ai (dT ap el)<|AA K.at1 rfl<|cC bd j K λX j=> ?_;have⟨j0,eo,j⟩:=bS j;refine AE (Ey (A:=(X.1,X.2.1,X.2.2,())) K eo) ?_;rintro _ j1 ⟨bz,Y,j2,rfl,rfl,c0⟩;refine⟨Y,rfl,?_⟩;refine kD j rfl (λj=>?_) (λj=>?_)
  ·obtain rfl:=iS j;obtain rfl:=en _ rfl;obtain rfl:=iS hd;exact Ak (Al (AB ⟨bz,false,sb,rfl,rfl,c0.tail.tail⟩))
  obtain rfl:=iS j;exact jZ rfl rfl ⟨bz,sb,em,rfl,c0.at1.at1⟩
 ·rintro _ W j3 _ ⟨er,j4,rfl,rfl,c1⟩ es ev;subst ev;refine AA c1.at1 rfl<|AW (dF ap es)<|AO (kB rfl ⟨_,rfl,_,er,sb,rfl,rfl,c1.at1.at1⟩)
 rintro Z j5 ⟨_,rfl,_,c2,j6,_,rfl,ew⟩;have⟨j7,ex,hd⟩:=bS hd;refine BR ex (λey y B g=>∃ψ:AD,∃c3:List ByteArray,Sub c2 ψ∧y.1=ey∧c3=g∧St ψ (cR 9 kG y.2.1 c3::cR 9 kG C.2.1 s::Wq1 E A::F) B) ((0:Int),((none,0,0):Slc),Z.2.1,()) rfl ⟨c2,[],sb,rfl,rfl,((((ew.nil 9 kG).at2).at2).at2)⟩ ?_ ?_ ?_
 ·rintro _ e3 j8 _ _ ⟨z,j9,ja,rfl,rfl,a0⟩ i jb ez f0 f1;refine AA a0.at2 rfl<|Ai (dT S ez)<|AA a0.at2 rfl ?_;have⟨b4,f2,i⟩:=bS i;obtain⟨jc,jd,f3,f4,f5,c4⟩:=(bf.up (ψ:=z)).get f2;refine AF _ f3 (Am f4 ?_);obtain⟨_,_,rfl,rfl,⟨b5,rfl,c5⟩⟩:=f5;have c6:=c5.length;refine AL (x:=b4.1) (AM (kJ sb a0.sub) (c4 0 _ rfl)) rfl<|AL (x:=b5) (by rw[Ac];exact(AM (kJ sb a0.sub) (c4 1 _ rfl))) rfl<|AU (vs:=[.int .i64 (0:Int),.slice none 0 0]) a0 λe4 je f8=>AG f8 rfl rfl λjf f9=>AG f9 rfl rfl λjg b6=>AA b6 rfl ?_;have⟨jh,fa,fd⟩:=c5.heap b6.sub;have⟨c7,fl,i⟩:=bS i;refine AZ (r:=kG) (ms:=b4.2) Ch b6.at1 rfl fd fa c6.symm fl ?_;intro e5 ji u;have⟨fn,k,i⟩:=bS i;refine Ad (λy B g=>∃ψ:AD,Sub z ψ∧y.1=g∧St ψ (cR 9 kG e5 c7::cW 176 e4 [.int .i64 b4.1,sv b5]::cR 9 kG C.2.1 s::Wq1 E A::F) B) (g:=fn) ?_ ?_
  ·refine AA u.at1 rfl<|kD k rfl (λk=>?_) (λk=>?_)
   ·have fo:=u.at3;exact jY rfl ⟨z,sb,iS k,fo.at3.at3.at3⟩
   refine AA u.at1 rfl<|kD k rfl (λk=>?_) (λk=>?_)
   ·have fr:=u.at3;exact jY rfl ⟨z,sb,iS k,fr.at3.at3.at3⟩
   refine AA u.at1 rfl ?_;have fs:=u.at3.at3.at3.at3;obtain rfl:=iS k;exact jY rfl ⟨z,sb,(by rw[c6]),fs⟩
  rintro m3 jj ⟨c8,jk,rfl,c9⟩;refine kD i rfl (λi=>?_) (λi=>?_)
  ·obtain rfl:=iS i;obtain rfl:=f1 _ rfl;obtain rfl:=iS hd;exact Ak (Al (AB ⟨c8,false,sb,rfl,rfl,c9.tail.tail.tail.tail⟩))
  obtain rfl:=iS i;exact jZ rfl rfl ⟨c8,c7,sb,f0,rfl,c9.at1.tail.at2.at2.at2⟩
 ·rintro _ e3 jl _ ⟨fv,fz,jm,rfl,rfl,ch⟩ g0 g1;subst g1;refine AA ch.at2 rfl<|AW (dF S g0)<|AO (kB rfl ⟨_,rfl,_,fv,fz,sb,rfl,rfl,ch.at2.at2.at2⟩)
 rintro D jn ⟨_,rfl,_,cl,b7,jo,_,rfl,g2⟩;have⟨jp,g3,hd⟩:=bS hd;refine BR g3 (λg4 y B g=>∃ψ:AD,Sub cl ψ∧y.1=g4∧()=g∧St ψ (cR 9 kG D.2.1 b7::cR 9 kG C.2.1 s::Wq1 E A::F) B) ((0:Int),D.2.2.1,()) rfl ⟨cl,sb,rfl,rfl,g2.at2.at2.at2⟩ ?_ ?_ ?_
 ·rintro _ G jq _ _ ⟨cm,jr,rfl,rfl,p⟩ f js g5 g6 cp;refine AA p.at2 rfl<|Ai (dT I g5)<|AA p.at2 rfl ?_;have⟨l,g7,f⟩:=bS f;obtain⟨jt,ju,g8,g9,gc,L⟩:=(bg.up (ψ:=cm)).get g7;refine AF _ g8 (Am g9 ?_);obtain⟨_,_,rfl,rfl,⟨_,_,rfl,⟨b8,rfl,cs⟩,gj⟩⟩:=gc;have b9:=cs.length;obtain⟨_,_,rfl,rfl,rfl⟩:=gj;refine AL (x:=l.1) (AM (kJ sb p.sub) (L 0 _ rfl)) rfl<|AL (x:=b8) (by rw[Ac];exact(AM (kJ sb p.sub) (L 1 _ rfl))) rfl<|AL (x:=l.2.2.1) (by rw[Ac];exact(AM (kJ sb p.sub) (L 2 _ rfl))) rfl<|AL (x:=l.2.2.2) (by rw[Ac];exact(AM (kJ sb p.sub) (L 3 _ rfl))) rfl<|AU (vs:=[.string ({data:=#[]}),.slice none 0 0,.string ({data:=#[]}),.string ({data:=#[]})]) p λH jv gn=>AG gn rfl rfl λjw go=>AG go rfl rfl λjx gp=>AG gp rfl rfl λjy gr=>AG gr rfl rfl λjz cu=> ?_;have⟨gs,b,f⟩:=bS f;refine Ad (λy B g=>∃ψ:AD,Sub cm ψ∧y.1=g∧St ψ (cW 169 H [.string l.1,sv b8,.string l.2.2.1,.string l.2.2.2]::cR 9 kG D.2.1 b7::cR 9 kG C.2.1 s::Wq1 E A::F) B) (g:=gs) ?_ ?_
  ·refine AA cu rfl ?_;have⟨k0,gv,b⟩:=bS b;refine AE (CV cu gv) ?_;rintro _ k1 ⟨cw,e6,k2,rfl,rfl,o⟩;refine⟨e6,rfl,?_⟩;refine kD b rfl (λb=>?_) (λb=>?_)
   ·have h0:=o.at3;exact jY rfl ⟨cw,sb,iS b,h0.at3.at3.at3⟩
   refine AA o rfl<|kD b (by rw[b9] <;>rfl) (λb=>?_) (λb=>?_)
   ·have h1:=o.at3;exact jY rfl ⟨cw,sb,iS b,h1.at3.at3.at3⟩
   refine AA o rfl<|kD b rfl (λb=>?_) (λb=>?_)
   ·refine AA o rfl ?_;have⟨k3,h2,b⟩:=bS b;refine AE (CV o h2) ?_;rintro _ k4 ⟨h3,e7,k5,rfl,rfl,ba⟩;refine⟨e7,rfl,?_⟩;refine kD b rfl (λb=>?_) (λb=>?_)
    ·have h4:=ba.at3;exact jY rfl ⟨h3,sb,iS b,h4.at3.at3.at3⟩
    refine AA ba rfl ?_;have⟨k6,h5,b⟩:=bS b;refine AE (FP ba h5) ?_;rintro _ k7 ⟨h6,e8,k8,rfl,rfl,h7⟩;refine⟨e8,rfl,?_⟩;exact jY rfl ⟨h6,sb,iS b,h7.at3.at3.at3.at3⟩
   refine AA o rfl ?_;have⟨k9,h8,b⟩:=bS b;refine AE (FP o h8) ?_;rintro _ ka ⟨h9,f6,kb,rfl,rfl,hb⟩;refine⟨f6,rfl,?_⟩;exact jY rfl ⟨h9,sb,iS b,hb.at3.at3.at3.at3⟩
  rintro m4 kc ⟨bb,kd,rfl,cx⟩;refine kD f rfl (λf=>?_) (λf=>?_)
  ·obtain rfl:=iS f;obtain rfl:=cp _ rfl;obtain rfl:=iS hd;exact Ak (Al (AB ⟨bb,false,sb,rfl,rfl,cx.tail.tail.tail.tail⟩))
  have⟨ke,hc,f⟩:=bS f;refine BR hc (λhe y B g=>∃ψ:AD,Sub bb ψ∧y.1=he∧()=g∧St ψ (cW 169 H [.string l.1,sv b8,.string l.2.2.1,.string l.2.2.2]::cR 9 kG D.2.1 b7::cR 9 kG C.2.1 s::Wq1 E A::F) B) ((0:Int),G.2.1,()) rfl ⟨bb,sb,rfl,rfl,cx.at3.at3.at3.at3⟩ ?_ ?_ ?_
  ·rintro _ f7 kf _ _ ⟨kg,kh,rfl,rfl,M⟩ m ki hf hg hh;refine AA M rfl<|Ai (dT b9 hf)<|AA M rfl<|gx cs m M λkj m=> ?_;have⟨kk,hi,m⟩:=bS m;refine AE (CV M hi) ?_;rintro _ kl ⟨d0,l7,km,rfl,rfl,d1⟩;refine⟨l7,rfl,?_⟩;refine kD m rfl (λm=>?_) (λm=>?_)
   ·obtain rfl:=iS m;obtain rfl:=hh _ rfl;obtain rfl:=iS f;obtain rfl:=cp _ rfl;obtain rfl:=iS hd;exact Ak (Al (Ak (Al (AB ⟨d0,false,sb,rfl,rfl,d1.tail.tail.tail.tail⟩))))
   obtain rfl:=iS m;exact jZ rfl rfl ⟨d0,sb,hg,rfl,d1.at3.at3.at3.at3⟩
  ·rintro _ f7 kn _ ⟨hj,ko,rfl,rfl,d2⟩ hk hl;subst hl;refine AA d2 rfl<|AW (dF b9 hk)<|AO (kB rfl ⟨_,rfl,_,hj,sb,rfl,rfl,d2.at3.at3.at3.at3⟩)
  rintro m5 kp ⟨_,rfl,_,hm,kq,_,rfl,hn⟩;obtain rfl:=iS f;exact jZ rfl rfl ⟨hm,sb,g6,rfl,hn.tail.at2.at2.at2⟩
 ·rintro _ G kr _ ⟨ho,ks,rfl,rfl,d3⟩ hp hq;subst hq;refine AA d3.at2 rfl<|AW (dF I hp)<|AO (kB rfl ⟨_,rfl,_,ho,sb,rfl,rfl,d3.at2.at2.at2⟩)
 rintro m6 kt ⟨_,rfl,_,ku,kv,_,rfl,hr⟩;have⟨kw,kx,hs,ht⟩:=kK (t:=C.2.1) hr.at1;have⟨hu,ky,hv,hw⟩:=kK (t:=D.2.1) ht;have⟨hx,n,hd⟩:=bS hd;refine Ad (λy B g=>∃ψ:AD,Sub hu ψ∧y.1=g∧St ψ (Wq1 E A::F) B) (g:=hx) ?_ ?_
 ·have⟨kz,hy,n⟩:=bS n;refine AE (F5 hs.up hw hy) ?_;rintro _ l0 ⟨hz,l8,l1,rfl,rfl,d4⟩;refine⟨l8,rfl,?_⟩;refine kD n rfl (λn=>?_) (λn=>?_)
  ·have⟨l2,i0,n⟩:=bS n;refine AE (F5 hv.up d4 i0) ?_;rintro _ l3 ⟨i1,l9,l4,rfl,rfl,i2⟩;refine⟨l9,rfl,?_⟩;exact jY rfl ⟨i1,sb,iS n,i2⟩
  exact jY rfl ⟨hz,sb,iS n,d4⟩
 rintro m0 l5 ⟨i3,l6,rfl,i4⟩;exact AB ⟨i3,m0.1,sb,rfl,iS hd,i4.tail⟩
noncomputable def B5 (s_0:J1):Option (List HY×List Ic×List Fc×ByteArray×List Dh):=need ((5:Int)≠0)<|need ((4:Int)≠0)<|(forS (σ:=DV) 0 (s_0.2.2.2.2.2.1.length:Int) (([]:List HY),([]:List Ic),([]:List Fc),{data:=#[83]},([]:List Dh)) λh s=>(idx s_0.2.2.2.2.2.1 h).bind λz=>need ((3:Int)≠0)<|need (0≤h∧h≤(bD .i64 (h+1))∧(bD .i64 (h+1)) ≤(hM {data:=#[112,113,114,115,116]} :Nat))<|(app s.2.2.1 ([((bD .i64 ((bD .i64 (bO z 3))+1)),([(hA {data:=#[112,113,114,115,116]} (eE h) (eE (bD .i64 (h+1))))]:List ByteArray))]:List Fc)).bind λA=>some (s.1,s.2.1,A,s.2.2.2.1,s.2.2.2.2)).bind λQ=>(forS (σ:=DV) 0 (bD .i64 ((bD .i64 (bO s_0.1 5))+1)) Q λc a=>need (0≤c∧c≤(bD .i64 (c+1))∧(bD .i64 (c+1)) ≤(hM {data:=#[97,98,99,100,101]} :Nat))<|(app a.1 ([((hA {data:=#[97,98,99,100,101]} (eE c) (eE (bD .i64 (c+1)))),(hA {data:=#[97,98,99,100,101]} (eE c) (eE (bD .i64 (c+1)))),{data:=#[]},false)]:List HY)).bind λb=>(cond (decide (c< (s_0.2.2.2.2.2.2.length:Int))) ((idx s_0.2.2.2.2.2.2 c).bind λl=>need ((bD .i64 ((((kF (b,a.2.1,a.2.2.1,a.2.2.2.1,a.2.2.2.2).2.2.1):Nat):Int)+1))≠0)<|(cond (decide ((bO (bD .i64 l) (bD .i64 ((((kF (b,a.2.1,a.2.2.1,a.2.2.2.1,a.2.2.2.2).2.2.1):Nat):Int)+1))) >0)) ((idx ((b,a.2.1,a.2.2.1,a.2.2.2.1,a.2.2.2.2).1,(b,a.2.1,a.2.2.1,a.2.2.2.1,a.2.2.2.2).2.1,(b,a.2.1,a.2.2.1,a.2.2.2.1,a.2.2.2.2).2.2.1,((b,a.2.1,a.2.2.1,a.2.2.2.1,a.2.2.2.2).2.2.2.1),(b,a.2.1,a.2.2.1,a.2.2.2.1,a.2.2.2.2).2.2.2.2).2.2.1 (bD .i64 ((bO (bD .i64 l) (bD .i64 ((((kF (b,a.2.1,a.2.2.1,a.2.2.2.1,a.2.2.2.2).2.2.1):Nat):Int)+1))) - 1))).bind λt=>(app ([]:List ByteArray) t.2).bind λB=>(app B ([(hA {data:=#[97,98,99,100,101]} (eE c) (eE (bD .i64 (c+1))))]:List ByteArray)).bind λC=>(idx ((b,a.2.1,a.2.2.1,a.2.2.2.1,a.2.2.2.2).1,(b,a.2.1,a.2.2.1,a.2.2.2.1,a.2.2.2.2).2.1,(b,a.2.1,a.2.2.1,a.2.2.2.1,a.2.2.2.2).2.2.1,((b,a.2.1,a.2.2.1,a.2.2.2.1,a.2.2.2.2).2.2.2.1),(b,a.2.1,a.2.2.1,a.2.2.2.1,a.2.2.2.2).2.2.2.2).2.2.1 (bD .i64 ((bO (bD .i64 l) (bD .i64 ((((kF (b,a.2.1,a.2.2.1,a.2.2.2.1,a.2.2.2.2).2.2.1):Nat):Int)+1))) - 1))).bind λu=>(Ea (((b,a.2.1,a.2.2.1,a.2.2.2.1,a.2.2.2.2).1,(b,a.2.1,a.2.2.1,a.2.2.2.1,a.2.2.2.2).2.1,(b,a.2.1,a.2.2.1,a.2.2.2.1,a.2.2.2.2).2.2.1,((b,a.2.1,a.2.2.1,a.2.2.2.1,a.2.2.2.2).2.2.2.1),(b,a.2.1,a.2.2.1,a.2.2.2.1,a.2.2.2.2).2.2.2.2).2.2.1) (bD .i64 ((bO (bD .i64 l) (bD .i64 ((((kF (b,a.2.1,a.2.2.1,a.2.2.2.1,a.2.2.2.2).2.2.1):Nat):Int)+1))) - 1)) (u.1,C)).bind λv=>some (((b,a.2.1,a.2.2.1,a.2.2.2.1,a.2.2.2.2).1,(b,a.2.1,a.2.2.1,a.2.2.2.1,a.2.2.2.2).2.1,(b,a.2.1,a.2.2.1,a.2.2.2.1,a.2.2.2.2).2.2.1,((b,a.2.1,a.2.2.1,a.2.2.2.1,a.2.2.2.2).2.2.2.1),(b,a.2.1,a.2.2.1,a.2.2.2.1,a.2.2.2.2).2.2.2.2).1,((b,a.2.1,a.2.2.1,a.2.2.2.1,a.2.2.2.2).1,(b,a.2.1,a.2.2.1,a.2.2.2.1,a.2.2.2.2).2.1,(b,a.2.1,a.2.2.1,a.2.2.2.1,a.2.2.2.2).2.2.1,((b,a.2.1,a.2.2.1,a.2.2.2.1,a.2.2.2.2).2.2.2.1),(b,a.2.1,a.2.2.1,a.2.2.2.1,a.2.2.2.2).2.2.2.2).2.1,v,(((b,a.2.1,a.2.2.1,a.2.2.2.1,a.2.2.2.2).1,(b,a.2.1,a.2.2.1,a.2.2.2.1,a.2.2.2.2).2.1,(b,a.2.1,a.2.2.1,a.2.2.2.1,a.2.2.2.2).2.2.1,((b,a.2.1,a.2.2.1,a.2.2.2.1,a.2.2.2.2).2.2.2.1),(b,a.2.1,a.2.2.1,a.2.2.2.1,a.2.2.2.2).2.2.2.2).2.2.2.1),((b,a.2.1,a.2.2.1,a.2.2.2.1,a.2.2.2.2).1,(b,a.2.1,a.2.2.1,a.2.2.2.1,a.2.2.2.2).2.1,(b,a.2.1,a.2.2.1,a.2.2.2.1,a.2.2.2.2).2.2.1,((b,a.2.1,a.2.2.1,a.2.2.2.1,a.2.2.2.2).2.2.2.1),(b,a.2.1,a.2.2.1,a.2.2.2.1,a.2.2.2.2).2.2.2.2).2.2.2.2)) (some ((b,a.2.1,a.2.2.1,a.2.2.2.1,a.2.2.2.2).1,(b,a.2.1,a.2.2.1,a.2.2.2.1,a.2.2.2.2).2.1,(b,a.2.1,a.2.2.1,a.2.2.2.1,a.2.2.2.2).2.2.1,((b,a.2.1,a.2.2.1,a.2.2.2.1,a.2.2.2.2).2.2.2.1),(b,a.2.1,a.2.2.1,a.2.2.2.1,a.2.2.2.2).2.2.2.2))).bind λD=>some D) (some (b,a.2.1,a.2.2.1,a.2.2.2.1,a.2.2.2.2))).bind λE=>some E).bind λF=>(forS (σ:=DV) 0 (s_0.2.2.1.length:Int) F λf g=>(idx s_0.2.2.1 f).bind λm=>need ((bD .i64 ((bD .i64 (bO s_0.2.1 4))+1))≠0)<|(idx s_0.2.2.1 f).bind λn=>need ((bD .i64 ((bD .i64 (bO s_0.2.1 4))+1))≠0)<|need (0≤(bO (bD .i64 m) (bD .i64 ((bD .i64 (bO s_0.2.1 4))+1)))∧(bO (bD .i64 m) (bD .i64 ((bD .i64 (bO s_0.2.1 4))+1))) ≤(bD .i64 ((bO (bD .i64 n) (bD .i64 ((bD .i64 (bO s_0.2.1 4))+1)))+1))∧(bD .i64 ((bO (bD .i64 n) (bD .i64 ((bD .i64 (bO s_0.2.1 4))+1)))+1)) ≤(hM {data:=#[83,84,85,86]} :Nat))<|(cond (decide (f< (s_0.2.2.2.1.length:Int))) ((loop (σ:=(Int×Dh)) (β:=Dh) (0,((hA {data:=#[83,84,85,86]} (eE (bO (bD .i64 m) (bD .i64 ((bD .i64 (bO s_0.2.1 4))+1)))) (eE (bD .i64 ((bO (bD .i64 n) (bD .i64 ((bD .i64 (bO s_0.2.1 4))+1)))+1)))),([]:List ByteArray),{data:=#[]},{data:=#[]})) λj=>(idx s_0.2.2.2.1 f).bind λw=>cond (decide (j.1< (w.length:Int))) ((idx s_0.2.2.2.1 f).bind λx=>(idx x j.1).bind λd=>need ((bD .i64 ((bD .i64 ((bD .i64 (bO s_0.1 5))+1))+(bD .i64 ((bD .i64 (bO s_0.2.1 4))+1))))≠0)<|need ((5:Int)≠0)<|need ((5:Int)≠0)<|need (0≤(bO (bO (bD .i64 d) (bD .i64 ((bD .i64 ((bD .i64 (bO s_0.1 5))+1))+(bD .i64 ((bD .i64 (bO s_0.2.1 4))+1))))) 5)∧(bO (bO (bD .i64 d) (bD .i64 ((bD .i64 ((bD .i64 (bO s_0.1 5))+1))+(bD .i64 ((bD .i64 (bO s_0.2.1 4))+1))))) 5) ≤(bD .i64 ((bO (bO (bD .i64 d) (bD .i64 ((bD .i64 ((bD .i64 (bO s_0.1 5))+1))+(bD .i64 ((bD .i64 (bO s_0.2.1 4))+1))))) 5)+1))∧(bD .i64 ((bO (bO (bD .i64 d) (bD .i64 ((bD .i64 ((bD .i64 (bO s_0.1 5))+1))+(bD .i64 ((bD .i64 (bO s_0.2.1 4))+1))))) 5)+1)) ≤(hM {data:=#[97,98,99,100,101]} :Nat))<|(cond (decide ((bO (bD .i64 d) (bD .i64 ((bD .i64 ((bD .i64 (bO s_0.1 5))+1))+(bD .i64 ((bD .i64 (bO s_0.2.1 4))+1))))) ≥ (bD .i64 ((bD .i64 (bO s_0.1 5))+1)))) (need (0≤(bD .i64 ((bO (bD .i64 d) (bD .i64 ((bD .i64 ((bD .i64 (bO s_0.1 5))+1))+(bD .i64 ((bD .i64 (bO s_0.2.1 4))+1))))) - (bD .i64 ((bD .i64 (bO s_0.1 5))+1))))∧(bD .i64 ((bO (bD .i64 d) (bD .i64 ((bD .i64 ((bD .i64 (bO s_0.1 5))+1))+(bD .i64 ((bD .i64 (bO s_0.2.1 4))+1))))) - (bD .i64 ((bD .i64 (bO s_0.1 5))+1)))) ≤(bD .i64 ((bD .i64 ((bO (bD .i64 d) (bD .i64 ((bD .i64 ((bD .i64 (bO s_0.1 5))+1))+(bD .i64 ((bD .i64 (bO s_0.2.1 4))+1))))) - (bD .i64 ((bD .i64 (bO s_0.1 5))+1))))+1))∧(bD .i64 ((bD .i64 ((bO (bD .i64 d) (bD .i64 ((bD .i64 ((bD .i64 (bO s_0.1 5))+1))+(bD .i64 ((bD .i64 (bO s_0.2.1 4))+1))))) - (bD .i64 ((bD .i64 (bO s_0.1 5))+1))))+1)) ≤(hM {data:=#[83,84,85,86]} :Nat))<|some (hA {data:=#[83,84,85,86]} (eE (bD .i64 ((bO (bD .i64 d) (bD .i64 ((bD .i64 ((bD .i64 (bO s_0.1 5))+1))+(bD .i64 ((bD .i64 (bO s_0.2.1 4))+1))))) - (bD .i64 ((bD .i64 (bO s_0.1 5))+1))))) (eE (bD .i64 ((bD .i64 ((bO (bD .i64 d) (bD .i64 ((bD .i64 ((bD .i64 (bO s_0.1 5))+1))+(bD .i64 ((bD .i64 (bO s_0.2.1 4))+1))))) - (bD .i64 ((bD .i64 (bO s_0.1 5))+1))))+1))))) (some (hA {data:=#[97,98,99,100,101]} (eE (bO (bO (bD .i64 d) (bD .i64 ((bD .i64 ((bD .i64 (bO s_0.1 5))+1))+(bD .i64 ((bD .i64 (bO s_0.2.1 4))+1))))) 5)) (eE (bD .i64 ((bO (bO (bD .i64 d) (bD .i64 ((bD .i64 ((bD .i64 (bO s_0.1 5))+1))+(bD .i64 ((bD .i64 (bO s_0.2.1 4))+1))))) 5)+1)))))).bind λG=>(app j.2.2.1 ([G]:List ByteArray)).bind λH=>some (kQ ((bD .i64 (j.1+1)),(j.2.1,H,j.2.2.2.1,j.2.2.2.2)))) (some (kO j.2))).bind λI=>some I) (some ((hA {data:=#[83,84,85,86]} (eE (bO (bD .i64 m) (bD .i64 ((bD .i64 (bO s_0.2.1 4))+1)))) (eE (bD .i64 ((bO (bD .i64 n) (bD .i64 ((bD .i64 (bO s_0.2.1 4))+1)))+1)))),([]:List ByteArray),{data:=#[]},{data:=#[]}))).bind λo=>(cond (decide (f< (s_0.2.2.2.2.1.length:Int))) ((idx s_0.2.2.2.2.1 f).bind λi=>need ((bD .i64 ((g.2.2.1.length:Int)+1))≠0)<|(cond (decide ((bO (bD .i64 i) (bD .i64 ((g.2.2.1.length:Int)+1))) >0)) (need (0≤(bD .i64 ((bO (bD .i64 i) (bD .i64 ((g.2.2.1.length:Int)+1))) - 1))∧(bD .i64 ((bO (bD .i64 i) (bD .i64 ((g.2.2.1.length:Int)+1))) - 1)) ≤(bO (bD .i64 i) (bD .i64 ((g.2.2.1.length:Int)+1)))∧(bO (bD .i64 i) (bD .i64 ((g.2.2.1.length:Int)+1))) ≤(hM {data:=#[112,113,114,115,116]} :Nat))<|some (o.1,o.2.1,(hA {data:=#[112,113,114,115,116]} (eE (bD .i64 ((bO (bD .i64 i) (bD .i64 ((g.2.2.1.length:Int)+1))) - 1))) (eE (bO (bD .i64 i) (bD .i64 ((g.2.2.1.length:Int)+1))))),o.2.2.2)) (some o)).bind λJ=>some J) (some o)).bind λr=>(app g.2.2.2.2 ([(r.1,r.2.1,r.2.2.1,r.2.2.2)]:List Dh)).bind λK=>some (g.1,g.2.1,g.2.2.1,g.2.2.2.1,K)).bind λL=>(forS (σ:=DV) 0 (bD .i64 ((bD .i64 (bO s_0.2.1 4))+1)) L λe k=>need (0≤e∧e≤(bD .i64 (e+1))∧(bD .i64 (e+1)) ≤(hM {data:=#[83,84,85,86]} :Nat))<|(loop (σ:=(Int×Bool)) (β:=Bool) (0,false) λp=>cond (decide (p.1< (k.2.2.2.2.length:Int))) ((cond p.2 (some true) ((idx k.2.2.2.2 p.1).bind λy=>some (hC y.1==hC (hA {data:=#[83,84,85,86]} (eE e) (eE (bD .i64 (e+1))))))).bind λM=>some (kQ ((bD .i64 (p.1+1)),M))) (some (kO p.2))).bind λN=>(cond (!N) ((app k.2.2.2.2 ([((hA {data:=#[83,84,85,86]} (eE e) (eE (bD .i64 (e+1)))),([]:List ByteArray),{data:=#[]},{data:=#[]})]:List Dh)).bind λO=>some (k.1,k.2.1,k.2.2.1,k.2.2.2.1,O)) (some k)).bind λP=>some P).bind λq=>some (q.1,q.2.1,q.2.2.1,q.2.2.2.1,q.2.2.2.2)
theorem GG {A:Int×Int×Slc×Slc×Slc×Slc×Slc×Unit}{c5:List Int}{c6:List (List Int)}{c7:List Int}{c8:List Int}{c9:List Int}(ch:kH (kX .u8) φ A.2.2.1 c5) (cl:kH (Ro.list (kX .u8)) φ A.2.2.2.1 c6) (ds:kH (kX .u8) φ A.2.2.2.2.1 c7) (dx:kH (kX .u8) φ A.2.2.2.2.2.1 c8) (dy:kH (kX .u8) φ A.2.2.2.2.2.2.1 c9) (s0:St φ F h) {r:(List HY×List Ic×List Fc×ByteArray×List Dh)}(hd:B5 (A.1,A.2.1,c5,c6,c7,c8,c9)=some r):
 CallsH kI 55 [(.agg #[(.int .u8 A.1),(.int .u8 A.2.1),(sv A.2.2.1),(sv A.2.2.2.1),(sv A.2.2.2.2.1),(sv A.2.2.2.2.2.1),(sv A.2.2.2.2.2.2.1)])] h (Ae λv h'=>∃ψ:AD,∃y:Slc×Slc×Slc×ByteArray×Slc×Unit,∃e0:List HY,∃e1:List Ic,∃e2:List Fc,∃e3:List Dh,Sub φ ψ∧v=((.one (.agg [.slice,.slice,.slice,.string,.slice])):Sh).val y∧(e0,e1,e2,y.2.2.2.1,e3)=r∧kH HZ ψ y.1 e0∧kH N2 ψ y.2.1 e1∧kH G5 ψ y.2.2.1 e2∧kH GX ψ y.2.2.2.2.1 e3∧St ψ F h'):=by
 refine AN mixed func55 (GE ..) ?_;have e4:A.2.2.1.2.1=kF c5:=ch.length;have hb:A.2.2.2.1.2.1=kF c6:=cl.length;have hc:A.2.2.2.2.1.2.1=kF c7:=ds.length;have e5:A.2.2.2.2.2.1.2.1=kF c8:=dx.length;have he:A.2.2.2.2.2.2.1.2.1=kF c9:=dy.length;refine AU (vs:=[.int .u8 A.1,.int .u8 A.2.1,sv A.2.2.1,sv A.2.2.2.1,sv A.2.2.2.2.1,sv A.2.2.2.2.2.1,sv A.2.2.2.2.2.2.1]) s0 λG om hf=>AU (vs:=[.slice none 0 0,.slice none 0 0,.slice none 0 0,.string ({data:=#[]}),.slice none 0 0]) hf λH on cm=>AA cm.at1 rfl<|Cv hd id λoo hd=>AA cm.at1 rfl<|Cv hd id λop hd=>AU (vs:=[.slice none 0 0,.slice none 0 0,.slice none 0 0,.string ({data:=#[]}),.slice none 0 0]) cm λB oq hg=>AG hg rfl rfl λos hh=>AG hh rfl rfl λot hi=>AG hi rfl rfl λou hj=>AG hj rfl rfl λov hk=>AG hk rfl rfl λow hl=> ?_;have hm:=E7 (t0:=((none,0,0):Slc)) (t1:=((none,0,0):Slc)) (t2:=((none,0,0):Slc)) (t4:=((none,0,0):Slc)) (x1:=([]:List Ic)) (x3:={data:=#[83]}) (((hl.nil 173 HZ).nil 176 G5).nil 169 GX).at3.at3.at3.at3 (lI N2 φ);have⟨ox,hn,hd⟩:=bS hd;refine Bb hn (λho y D g=>∃ψ:AD,∃e6:DV,Sub φ ψ∧y.1=ho∧e6=g∧St ψ (cO 105 Ff (jX B) e6::Wq4 H::Wq0 G A::F) D) ((0:Int),()) rfl ⟨φ,(([]:List HY),[],[],{data:=#[83]},([]:List Dh)),sb,rfl,rfl,hm.at2.at2.at2⟩ ?_ ?_ ?_
 ·rintro _ z7 oy _ _ ⟨hp,b1,oz,rfl,rfl,e7⟩ u p0 hq hr;refine AA e7.at2 rfl<|Ai (dT e5 hq) ?_;have⟨hs,p1,p2,p3,p4,e8,ht,bl⟩:=HF e7;obtain rfl:B=hs:=by simpa using e8
  clear e8;refine AA bl.at3 rfl<|AA bl.at5 rfl ?_;have⟨cp,hu,u⟩:=bS u;obtain⟨p5,p6,hv,hw,hx,e9⟩:=(dx.up (ψ:=hp)).get hu;refine AF _ hv (Am hw ?_);obtain rfl:=hx;refine AL (x:=cp) (AM (kJ sb bl.sub) (e9 0 _ rfl)) rfl<|Cv u id λp7 u=>Cv u id λp8 u=>Kl bl λL p9 pa bp=>AI (AM (kJ sb bp.sub) (e9 0 _ rfl))<|AI (kL (b:=G) (j:=5) bp.at6 rfl)<|AI (kL (b:=B) (j:=2) bp.at4 rfl)<|AU (vs:=[.int .i64 (bD .i64 ((bD .i64 (bO cp (3:Int)))+(1:Int))),.slice (jX L) 1 1]) bp λw2 pb ea=>AI (kL (b:=B) (j:=2) ea.at5 rfl) ?_;have hy:=lJ (r:=kG) (l:=([(hA {data:=#[112,113,114,115,116]} (eE z7.1) (eE (wN z7.1)))]:List ByteArray)) (n:=1) ea.at1 (.cons (a:=[_]) rfl .nil) rfl (by decide);have⟨hz,pc,i0,ec⟩:=kK (t:=((some ⟨L,0,none⟩,1,1):Slc)) hy;have⟨i1,i2,u⟩:=bS u;refine AZ (r:=G5) (ms:=([((bD .i64 ((bD .i64 (bO cp (3:Int)))+(1:Int))),([(hA {data:=#[112,113,114,115,116]} (eE z7.1) (eE (wN z7.1)))]:List ByteArray))]:List Fc)) TG ec.tail.at1 rfl (kW ec) (.cons (a:=[_,_]) ⟨[_],_,rfl,rfl,⟨((some ⟨L,0,none⟩,1,1):Slc),rfl,i0⟩⟩ .nil) rfl i2 ?_;intro w3 pd i3;refine AG i3.at3 rfl rfl λpe i4=> ?_;obtain rfl:=iS u;exact jZ rfl rfl ⟨hz,(b1.1,b1.2.1,i1,b1.2.2.2.1,b1.2.2.2.2),sb,hr,rfl,((((E7 (x1:=b1.2.1) (x3:=(b1.2.2.2.1)) i4.at3.at2.at3.at3.at3.at3.at3 ht.up).at2).at2).at2)⟩
 ·rintro _ z7 pf ⟨i5,i6,pg,rfl,rfl,ed⟩ i7;refine AA ed.at2 rfl<|AW (dF e5 i7)<|AO (kB rfl ⟨_,i5,i6,sb,rfl,rfl,ed.at2.at2.at2⟩)
 rintro z6 ph ⟨_,ee,i8,pi,_,rfl,i9⟩;have⟨pj,ia,hd⟩:=bS hd;refine Bb ia (λib y D g=>∃ψ:AD,∃ef:DV,Sub ee ψ∧y.1=ib∧ef=g∧St ψ (cO 105 Ff (jX B) ef::Wq4 H::Wq0 G A::F) D) ((0:Int),()) rfl ⟨ee,i8,sb,rfl,rfl,i9.at2.at2.at2⟩ ?_ ?_ ?_
 ·rintro _ C pk _ _ ⟨bs,e,pl,rfl,rfl,ic⟩ M pm ie ig;refine Ai (by exact decide_eq_true ie)<|Cv M id λpn M=> ?_;have⟨ih,po,pp,pq,pr,eg,ii,ek⟩:=HF ic;obtain rfl:B=ih:=by simpa using eg
  clear eg;refine AA ek.at3 rfl<|AU (vs:=[.string (hA {data:=#[97,98,99,100,101]} (eE C.1) (eE (wN C.1))),.string (hA {data:=#[97,98,99,100,101]} (eE C.1) (eE (wN C.1))),.string ({data:=#[]}),.bool false]) ek λw4 ps el=> ?_;have⟨b9,ij,M⟩:=bS M;refine AZ (r:=HZ) (ms:=([((hA {data:=#[97,98,99,100,101]} (eE C.1) (eE (wN C.1))),(hA {data:=#[97,98,99,100,101]} (eE C.1) (eE (wN C.1))),{data:=#[]},false)]:List HY)) TF el.tail.at2 rfl (kW el) (.cons (a:=[_,_,_,_]) ⟨[_],_,rfl,rfl,⟨[_],_,rfl,rfl,⟨[_],_,rfl,rfl,rfl⟩⟩⟩ .nil) rfl ij ?_;intro w5 pt ik;refine AG ik.at3 rfl rfl λpu em=>AA em.at5 rfl ?_;have bt:=E7 (x1:=e.2.1) (x3:=(e.2.2.2.1)) em.at1.at3.at3.at3.at3.at3.at3 ii;have⟨il,q,M⟩:=bS M;refine Ad (λy D g=>∃ψ:AD,∃en:DV,Sub bs ψ∧en=g∧St ψ (cO 105 Ff (jX B) en::Wq4 H::Wq0 G A::F) D) (g:=il) ?_ ?_
  ·refine kD q (by rw[he] <;>rfl) (λq=>?_) (λq=>?_)
   ·refine AA bt.at2 rfl<|gx dy q bt λpv q=> ?_;have⟨im,pw,px,py,pz,eo,io,cu⟩:=HF bt;obtain rfl:B=im:=by simpa using eo
    clear eo;have w:=(cu.at1).rowLen;refine AA cu.at3 rfl<|Cv q (by rw[w];exact id) λq0 q=> ?_;have er:=E7 (x1:=e.2.1) (x3:=(e.2.2.2.1)) cu.at2.at2.at2.at3.at3.at3.at3 io;have⟨ip,d,q⟩:=bS q;refine Ad (λy D g=>∃ψ:AD,∃es:DV,Sub bs ψ∧es=g∧St ψ (cO 105 Ff (jX B) es::Wq4 H::Wq0 G A::F) D) (g:=ip) ?_ ?_
    ·refine kD d (by rw[w] <;>rfl) (λd=>?_) (λd=>?_)
     ·have⟨iq,q2,q3,q4,q5,ev,cw,ba⟩:=HF er;obtain rfl:B=iq:=by simpa using ev
      clear ev;refine AA ba.at3 rfl<|AA ba.at3 rfl ?_;have⟨cx,ew,d⟩:=bS d;rw[←w]at ew;obtain⟨q6,q7,ir,it,iu,bb⟩:=(ba.at1).get ew;refine AF _ ir (Am it ?_);obtain⟨_,_,rfl,rfl,⟨ix,rfl,bw⟩⟩:=iu;have d0:=bw.length;refine AL (x:=ix) (by rw[Ac];exact(bb 1 _ rfl)) rfl<|Dk ?_ ?_
      ·refine Kl ba λw6 q8 ex bd=>AI (by rw[Ac];exact(ex _ _ (bb 1 _ rfl)))<|AI (kL (b:=B) (j:=2) bd.at4 rfl)<|AI (kL (b:=B) (j:=2) bd.at4 rfl)<|Dk ?_ ?_
       ·have⟨q9,iy,iz⟩:=bw.heap bd.sub;have j0:=lJ (r:=kG) (l:=([]:List ByteArray)) (n:=0) bd .nil rfl (by decide);have⟨qa,j1,d⟩:=bS d;refine AZ (r:=kG) (ms:=cx.2) Ch j0 rfl iz iy d0.symm j1 ?_;intro w7 qb ey;refine AI (kL (b:=B) (j:=2) ey.at4 rfl)<|AU (vs:=[.string (hA {data:=#[97,98,99,100,101]} (eE C.1) (eE (wN C.1)))]) ey λw8 qc d1=>AI (kL (b:=B) (j:=2) d1.at5 rfl) ?_;have⟨qd,j2,d⟩:=bS d;refine AZ (r:=kG) (ms:=([(hA {data:=#[97,98,99,100,101]} (eE C.1) (eE (wN C.1)))]:List ByteArray)) Ch d1.tail rfl (kW d1) (.cons (a:=[_]) rfl .nil) rfl j2 ?_;intro j5 qe d2;refine AI (kL (b:=B) (j:=2) d2.at4 rfl) ?_;have⟨qf,d3,d⟩:=bS d;rw[←w]at d3;obtain⟨qg,qh,ez,j3,j4,qi⟩:=(d2.at2).get d3;refine AF _ ez (Am j3 ?_);obtain⟨_,_,rfl,rfl,⟨qj,rfl,qk⟩⟩:=j4;have⟨j7,ql,j8,j9⟩:=kK (t:=j5) d2;have⟨ja,f0,d⟩:=bS d;rw[←w]at f0;refine Qb (j:=1) j9.at1 d3 f0 (by rintro _ ⟨_,_,rfl,rfl,⟨t1,rfl,q1⟩⟩;exact⟨[_],_,rfl,rfl,⟨j5,rfl,j8⟩⟩) rfl rfl ez (by rw[Ac];rfl) λqm jb=> ?_;exact jY rfl ⟨j7,(b9,e.2.1,ja,((e.2.2.2.1)),e.2.2.2.2),sb,iS d,((((E7 (x1:=e.2.1) (x3:=((e.2.2.2.1))) jb.at2.at1.at2.at3.at3.at3.at3 cw.up).at2).at2).at2)⟩
       ·refine Kl bd λw9 qn jc bx=>AI (by rw[Ac];exact(jc _ _ (ex _ _ (bb 1 _ rfl))))<|AI (kL (b:=B) (j:=2) bx.at5 rfl)<|AI (kL (b:=B) (j:=2) bx.at5 rfl) ?_;have⟨qo,jd,je⟩:=bw.heap bx.sub;have jf:=lJ (r:=kG) (l:=([]:List ByteArray)) (n:=0) bx.at1 .nil rfl (by decide);have⟨qp,jg,d⟩:=bS d;refine AZ (r:=kG) (ms:=cx.2) Ch jf rfl je jd d0.symm jg ?_;intro x0 qq d4;refine AI (kL (b:=B) (j:=2) d4.at5 rfl) ?_;have⟨qr,jh,d⟩:=bS d;refine AZ (r:=kG) (ms:=([(hA {data:=#[97,98,99,100,101]} (eE C.1) (eE (wN C.1)))]:List ByteArray)) Ch d4.at1.tail rfl (kW d4.at1) (.cons (a:=[_]) rfl .nil) rfl jh ?_;intro j6 qs d5;refine AI (kL (b:=B) (j:=2) d5.at4 rfl) ?_;have⟨qt,d6,d⟩:=bS d;rw[←w]at d6;obtain⟨qu,qv,f1,ji,jj,qw⟩:=(d5.at2).get d6;refine AF _ f1 (Am ji ?_);obtain⟨_,_,rfl,rfl,⟨qx,rfl,qy⟩⟩:=jj;have⟨jm,qz,jn,jo⟩:=kK (t:=j6) d5;have⟨jp,f2,d⟩:=bS d;rw[←w]at f2;refine Qb (j:=1) jo.at1 d6 f2 (by rintro _ ⟨_,_,rfl,rfl,⟨t1,rfl,q1⟩⟩;exact⟨[_],_,rfl,rfl,⟨j6,rfl,jn⟩⟩) rfl rfl f1 (by rw[Ac];rfl) λr0 jq=> ?_;exact jY rfl ⟨jm,(b9,e.2.1,jp,((e.2.2.2.1)),e.2.2.2.2),sb,iS d,((((E7 (x1:=e.2.1) (x3:=((e.2.2.2.1))) jq.at2.at1.at2.at3.at3.at3.at3 cw.up).at2).at2).at2)⟩
      ·refine Kl ba λx2 r3 f3 d7=>AI (by rw[Ac];exact(f3 _ _ (bb 1 _ rfl)))<|AI (kL (b:=B) (j:=2) d7.at4 rfl)<|AI (kL (b:=B) (j:=2) d7.at4 rfl)<|Kl d7 λx4 r4 jr bz=>AI (by rw[Ac];exact(jr _ _ (f3 _ _ (bb 1 _ rfl))))<|AI (kL (b:=B) (j:=2) bz.at5 rfl)<|AI (kL (b:=B) (j:=2) bz.at5 rfl) ?_;have⟨r6,js,jt⟩:=bw.heap bz.sub;have ju:=lJ (r:=kG) (l:=([]:List ByteArray)) (n:=0) bz .nil rfl (by decide);have⟨r7,jv,d⟩:=bS d;refine AZ (r:=kG) (ms:=cx.2) Ch ju rfl jt js d0.symm jv ?_;intro x5 r8 d8;refine AI (kL (b:=B) (j:=2) d8.at5 rfl) ?_;have⟨r9,jw,d⟩:=bS d;refine AZ (r:=kG) (ms:=([(hA {data:=#[97,98,99,100,101]} (eE C.1) (eE (wN C.1)))]:List ByteArray)) Ch d8.at1.tail rfl (kW d8.at1) (.cons (a:=[_]) rfl .nil) rfl jw ?_;intro k0 ra d9;refine AI (kL (b:=B) (j:=2) d9.at4 rfl) ?_;have⟨rb,dd,d⟩:=bS d;rw[←w]at dd;obtain⟨rc,rd,f4,jx,jy,re⟩:=(d9.at2).get dd;refine AF _ f4 (Am jx ?_);obtain⟨_,_,rfl,rfl,⟨rf,rfl,rg⟩⟩:=jy;have⟨k1,rh,k2,k3⟩:=kK (t:=k0) d9;have⟨k4,f5,d⟩:=bS d;rw[←w]at f5;refine Qb (j:=1) k3.at1 dd f5 (by rintro _ ⟨_,_,rfl,rfl,⟨t1,rfl,q1⟩⟩;exact⟨[_],_,rfl,rfl,⟨k0,rfl,k2⟩⟩) rfl rfl f4 (by rw[Ac];rfl) λri k5=> ?_;exact jY rfl ⟨k1,(b9,e.2.1,k4,((e.2.2.2.1)),e.2.2.2.2),sb,iS d,((((E7 (x1:=e.2.1) (x3:=((e.2.2.2.1))) k5.at2.at1.at2.at3.at3.at3.at3 cw.up).at2).at2).at2)⟩
     exact jY rfl ⟨bs,(b9,e.2.1,e.2.2.1,(e.2.2.2.1),e.2.2.2.2),sb,iS d,er.at2.at2.at2⟩
    rintro x6 rj ⟨k6,k7,rk,rfl,k8⟩;exact jY rfl ⟨k6,k7,sb,iS q,k8.at2.at2.at2⟩
   exact jY rfl ⟨bs,(b9,e.2.1,e.2.2.1,e.2.2.2.1,e.2.2.2.2),sb,iS q,bt.at2.at2.at2⟩
  rintro x7 rl ⟨k9,ka,rm,rfl,kb⟩;obtain rfl:=iS M;exact jZ rfl rfl ⟨k9,ka,sb,ig,rfl,kb.at2.at2.at2⟩
 ·rintro _ C rn ⟨kc,kd,rp,rfl,rfl,ke⟩ kf;refine AW (by exact decide_eq_false (kY.2 kf))<|AO (kB rfl ⟨_,kc,kd,sb,rfl,rfl,ke.at2.at2.at2⟩)
 rintro x8 rq ⟨_,f6,kg,rr,_,rfl,kh⟩;have⟨rs,ki,hd⟩:=bS hd;refine Bb ki (λkj y D g=>∃ψ:AD,∃f7:DV,Sub f6 ψ∧y.1=kj∧f7=g∧St ψ (cO 105 Ff (jX B) f7::Wq4 H::Wq0 G A::F) D) ((0:Int),()) rfl ⟨f6,kg,sb,rfl,rfl,kh.at2.at2.at2⟩ ?_ ?_ ?_
 ·rintro _ w1 rt _ _ ⟨z,c,ru,rfl,rfl,V⟩ k rv kk kl;refine AA V.at2 rfl<|Ai (dT e4 kk)<|AA V.at2 rfl ?_;have⟨W,km,k⟩:=bS k;obtain⟨rx,ry,kn,ko,kp,f8⟩:=(ch.up (ψ:=z)).get km;refine AF _ kn (Am ko ?_);obtain rfl:=kp;refine AL (x:=W) (AM (kJ sb V.sub) (f8 0 _ rfl)) rfl<|Cv k id λrz k=>AA V.at2 rfl ?_;have⟨X,kq,k⟩:=bS k;obtain⟨s1,s2,kr,ks,kt,f9⟩:=(ch.up (ψ:=z)).get kq;refine AF _ kr (Am ks ?_);obtain rfl:=kt;refine AL (x:=X) (AM (kJ sb V.sub) (f9 0 _ rfl)) rfl<|Cv k id λs3 k=>Cv k id λs4 k=>Kl V λE s5 s6 bf=>AI (AM (kJ sb bf.sub) (f9 0 _ rfl))<|AI (kL (b:=G) (j:=2) bf.at3 rfl)<|AI (AM (kJ sb bf.sub) (f8 0 _ rfl))<|AI (kL (b:=G) (j:=2) bf.at3 rfl)<|AG bf rfl rfl λs7 ku=>AG ku rfl rfl λs8 kv=>AG kv rfl rfl λs9 kw=>AG kw rfl rfl λsa fa=>AA fa.at3 rfl ?_;have kx:=kZ (r:=kG) (cs:=[.string ({data:=#[]})]) (x:={data:=#[]}) (kZ (r:=kG) (cs:=[.string ({data:=#[]})]) (x:={data:=#[]}) (fa.nil 9 kG) rfl) rfl;have ky:=kZ (r:=kG) (cs:=[.string (hA {data:=#[83,84,85,86]} (eE (bO (bD .i64 W) (bD .i64 ((bD .i64 (bO A.2.1 (4:Int)))+(1:Int))))) (eE (bD .i64 ((bO (bD .i64 X) (bD .i64 ((bD .i64 (bO A.2.1 (4:Int)))+(1:Int))))+(1:Int)))))]) (x:=(hA {data:=#[83,84,85,86]} (eE (bO (bD .i64 W) (bD .i64 ((bD .i64 (bO A.2.1 (4:Int)))+(1:Int))))) (eE (bD .i64 ((bO (bD .i64 X) (bD .i64 ((bD .i64 (bO A.2.1 (4:Int)))+(1:Int))))+(1:Int)))))) (kT ((kT kx).at1)) rfl;have fd:St z (cO 169 Rq0 (jX E) ((hA {data:=#[83,84,85,86]} (eE (bO (bD .i64 W) (bD .i64 ((bD .i64 (bO A.2.1 (4:Int)))+(1:Int))))) (eE (bD .i64 ((bO (bD .i64 X) (bD .i64 ((bD .i64 (bO A.2.1 (4:Int)))+(1:Int))))+(1:Int))))),[],{data:=#[]},{data:=#[]})::cO 105 Ff (jX B) c::Wq4 H::Wq0 G A::F) _:=lK (kT ky).at1;have⟨kz,N,k⟩:=bS k;refine Ad (λy D g=>∃ψ:AD,∃fl:Dh,Sub z ψ∧fl=g∧St ψ (cO 169 Rq0 (jX E) fl::cO 105 Ff (jX B) c::Wq4 H::Wq0 G A::F) D) (g:=kz) ?_ ?_
  ·refine kD N (by rw[hb] <;>rfl) (λN=>?_) (λN=>?_)
   ·have l0:=fd.at3;have⟨l1,l2,N⟩:=bS N;refine Av (λy D g=>∃ψ:AD,∃fn:Dh,Sub z ψ∧fn=g∧St ψ (cO 169 Rq0 (jX E) fn::cO 105 Ff (jX B) c::Wq4 H::Wq0 G A::F) D) (g:=l1) ?_ ?_
    ·refine FF l2 (λy D g=>∃ψ:AD,∃fo:Dh,Sub z ψ∧(y.1,fo)=g∧St ψ (cO 169 Rq0 (jX E) fo::cO 105 Ff (jX B) c::Wq4 H::Wq0 G A::F) D) ((0:Int),()) rfl ⟨z,((hA {data:=#[83,84,85,86]} (eE (bO (bD .i64 W) (bD .i64 ((bD .i64 (bO A.2.1 (4:Int)))+(1:Int))))) (eE (bD .i64 ((bO (bD .i64 X) (bD .i64 ((bD .i64 (bO A.2.1 (4:Int)))+(1:Int))))+(1:Int))))),[],{data:=#[]},{data:=#[]}),sb,rfl,l0.at3.at3.at3⟩ ?_
     ·rintro x9 sc _ _ ⟨c0,i,sd,rfl,a0⟩ f l3;refine AA a0.at3 rfl<|gxS cl f a0 λse sf l4 f=> ?_;have l5:=l4.length;refine kD f (by rw[l5] <;>rfl) (λf=>?_) (λf=>?_)
      ·refine AA a0.at3 rfl<|gxS cl f a0 λsg sh l6 f=>gx l6 f a0 λc1 f=>Cv f id λsi f=>Cv f id λsj f=>Cv f id λsk f=>Cv f id λsl f=> ?_;have⟨l7,O,f⟩:=bS f;refine Ad (λy D g=>∃ψ:AD,Sub c0 ψ∧y.1=g∧St ψ (cO 169 Rq0 (jX E) i::cO 105 Ff (jX B) c::Wq4 H::Wq0 G A::F) D) (g:=l7) ?_ ?_
       ·refine kD O rfl (λO=>?_) (λO=>?_)
        ·refine Cv O id λsm O=> ?_;exact jY rfl ⟨c0,sb,iS O,a0.at3.at3.at3.at3⟩
        exact jY rfl ⟨c0,sb,iS O,a0.at3.at3.at3.at3⟩
       rintro w0 sn ⟨dg,so,rfl,l8⟩;obtain⟨l9,sp,fr,sq,la⟩:=l8.open;obtain rfl:E=l9:=by simpa using fr
       clear fr;obtain⟨sr,ss,rfl,st,lb⟩:=la.at1.pair;obtain⟨lc,ld⟩:=lb.ro;subst lc;obtain⟨su,sw,rfl,sx,fs⟩:=ld.pair;obtain⟨fv,le⟩:=fs.rowCs;subst le;obtain⟨sy,sz,rfl,t3,lf⟩:=fs.at1.pair;obtain⟨lg,lh⟩:=lf.ro;subst lg;obtain⟨li,lj⟩:=lh.ro;subst li;have fz:St dg (cR 9 kG fv i.2.1::cW 169 E [.string i.1,sv fv,.string i.2.2.1,.string i.2.2.2]::cO 105 Ff (jX B) c::Wq4 H::Wq0 G A::F) _:=lj;refine AA fz.at1 rfl<|AU (vs:=[.string w0.1]) fz λy0 t5 g0=> ?_;have⟨g1,lk,f⟩:=bS f;refine AZ (r:=kG) (ms:=([w0.1]:List ByteArray)) Ch g0.tail rfl (kW g0) (.cons (a:=[_]) rfl .nil) rfl lk ?_;intro y1 t6 ll;refine AG ll.at1 rfl rfl λt7 lm=> ?_;have ln:=kZ (r:=kG) (cs:=[.string i.2.2.1]) (x:=(i.2.2.1)) (kZ (r:=kG) (cs:=[.string i.2.2.2]) (x:=(i.2.2.2)) lm.at1 rfl) rfl;have lo:St dg (cO 169 Rq0 (jX E) (i.1,g1,i.2.2.1,i.2.2.2)::cO 105 Ff (jX B) c::Wq4 H::Wq0 G A::F) _:=lK (kT (kZ (r:=kG) (cs:=[.string i.1]) (x:=(i.1)) (kT ((kT ln).at1)) rfl)).at1;obtain rfl:=iS f;exact jZ rfl rfl ⟨dg,(i.1,g1,i.2.2.1,i.2.2.2),sb,rfl,lo.at3.at3.at3.at3⟩
      obtain rfl:=iS f;obtain rfl:=l3 _ rfl;exact AO (kB rfl ⟨c0,i,sb,rfl,a0.at3.at3.at3.at3⟩)
    rintro y2 t8 ⟨lp,lq,t9,rfl,lr⟩;exact jY rfl ⟨lp,lq,sb,iS N,lr.at3.at3.at3.at3⟩
   exact jY rfl ⟨z,((hA {data:=#[83,84,85,86]} (eE (bO (bD .i64 W) (bD .i64 ((bD .i64 (bO A.2.1 (4:Int)))+(1:Int))))) (eE (bD .i64 ((bO (bD .i64 X) (bD .i64 ((bD .i64 (bO A.2.1 (4:Int)))+(1:Int))))+(1:Int))))),[],{data:=#[]},{data:=#[]}),sb,iS N,fd.at3.at3.at3.at3⟩
  rintro y3 ta ⟨P,o,tb,rfl,bg⟩;refine AA bg.at3 rfl ?_;have⟨ls,s,k⟩:=bS k;refine Ad (λy D g=>∃ψ:AD,∃g2:Dh,Sub P ψ∧g2=g∧St ψ (cO 169 Rq0 (jX E) g2::cO 105 Ff (jX B) c::Wq4 H::Wq0 G A::F) D) (g:=ls) ?_ ?_
  ·refine kD s (by rw[hc] <;>rfl) (λs=>?_) (λs=>?_)
   ·refine AA bg.at3 rfl<|gx ds s bg λJ s=> ?_;have⟨lt,Y,dk,K,Z,g3,lu,c2⟩:=HF bg.at1;obtain rfl:B=lt:=by simpa using g3
    clear g3;have c3:=(c2.at1).rowLen;refine AA c2.at3 rfl<|Cv s (by rw[c3];exact id) λtc s=> ?_;have⟨lv,Q,s⟩:=bS s;refine Ad (λy D g=>∃ψ:AD,∃g4:Dh,Sub P ψ∧g4=g∧St ψ (cO 169 Rq0 (jX E) g4::cR 169 GX Z c.2.2.2.2::cR 176 G5 K c.2.2.1::cR 173 HZ Y c.1::cW 105 B [sv Y,sv dk,sv K,.string c.2.2.2.1,sv Z]::Wq4 H::Wq0 G A::F) D) (g:=lv) ?_ ?_
    ·refine kD Q (by rw[c3] <;>rfl) (λQ=>?_) (λQ=>?_)
     ·refine Cv Q (by rw[c3];exact id) λtd Q=> ?_;obtain⟨lw,te,g5,tf,lx⟩:=c2.at4.open;obtain rfl:E=lw:=by simpa using g5
      clear g5;obtain⟨tg,th,rfl,ti,ly⟩:=lx.at1.pair;obtain⟨lz,m0⟩:=ly.ro;subst lz;obtain⟨tj,tk,rfl,tl,g6⟩:=m0.pair;obtain⟨g7,m1⟩:=g6.rowCs;subst m1;obtain⟨tm,tn,rfl,tp,m2⟩:=g6.at1.pair;obtain⟨m3,m4⟩:=m2.ro;subst m3;obtain⟨m5,m6⟩:=m4.ro;subst m5;have m7:St P (cR 9 kG g7 o.2.1::cW 169 E [.string o.1,sv g7,.string o.2.2.1,.string o.2.2.2]::cR 169 GX Z c.2.2.2.2::cR 176 G5 K c.2.2.1::cR 173 HZ Y c.1::cW 105 B [sv Y,sv dk,sv K,.string c.2.2.2.1,sv Z]::Wq4 H::Wq0 G A::F) _:=m6;refine AG m7.at1 rfl rfl λtq m8=> ?_;have m9:=kZ (r:=kG) (cs:=[.string (hA {data:=#[112,113,114,115,116]} (eE (bD .i64 ((bO (bD .i64 J) (bD .i64 ((K.2.1:Int)+(1:Int)))) - (1:Int)))) (eE (bO (bD .i64 J) (bD .i64 ((K.2.1:Int)+(1:Int))))))]) (x:=(hA {data:=#[112,113,114,115,116]} (eE (bD .i64 ((bO (bD .i64 J) (bD .i64 ((c.2.2.1.length:Int)+(1:Int)))) - (1:Int)))) (eE (bO (bD .i64 J) (bD .i64 ((c.2.2.1.length:Int)+(1:Int))))))) (kZ (r:=kG) (cs:=[.string o.2.2.2]) (x:=(o.2.2.2)) m8.at1 rfl) (show _=_ by rw[c3];rfl);have ma:St P (cO 169 Rq0 (jX E) (o.1,o.2.1,(hA {data:=#[112,113,114,115,116]} (eE (bD .i64 ((bO (bD .i64 J) (bD .i64 ((c.2.2.1.length:Int)+(1:Int)))) - (1:Int)))) (eE (bO (bD .i64 J) (bD .i64 ((c.2.2.1.length:Int)+(1:Int)))))),o.2.2.2)::cR 169 GX Z c.2.2.2.2::cR 176 G5 K c.2.2.1::cR 173 HZ Y c.1::cW 105 B [sv Y,sv dk,sv K,.string c.2.2.2.1,sv Z]::Wq4 H::Wq0 G A::F) _:=lK (kT (kZ (r:=kG) (cs:=[.string o.1]) (x:=(o.1)) (kT ((kT m9).at1)) rfl)).at1;exact jY rfl ⟨P,(o.1,o.2.1,(hA {data:=#[112,113,114,115,116]} (eE (bD .i64 ((bO (bD .i64 J) (bD .i64 ((c.2.2.1.length:Int)+(1:Int)))) - (1:Int)))) (eE (bO (bD .i64 J) (bD .i64 ((c.2.2.1.length:Int)+(1:Int)))))),o.2.2.2),sb,iS Q,ma.at6.at6.at6.at6.at6.at6.at6⟩
     exact jY rfl ⟨P,o,sb,iS Q,c2.at6.at6.at5.at5.at5.at5.at6⟩
    rintro y4 tr ⟨mb,mc,ts,rfl,md⟩;exact jY rfl ⟨mb,mc,sb,iS s,(((((E7 (x1:=c.2.1) (x3:=(c.2.2.2.1)) md.at3.at3.at3.at4.at3.at3.at3 lu.up).at3).at3).at2).at3)⟩
   exact jY rfl ⟨P,o,sb,iS s,bg.at3.at3.at3.at3⟩
  rintro y5 tt ⟨me,p,tu,rfl,mf⟩;have⟨mg,g8,mh,g9,gc,gd,mi,gf⟩:=HF mf.at1;obtain rfl:B=mg:=by simpa using gd
  clear gd;refine AA gf.at3 rfl ?_;obtain⟨mj,tv,gg,tw,mk⟩:=gf.at4.open;obtain rfl:E=mj:=by simpa using gg
  clear gg;obtain⟨tx,ty,rfl,tz,ml⟩:=mk.at1.pair;obtain⟨mm,mn⟩:=ml.ro;subst mm;obtain⟨u0,u1,rfl,u2,gj⟩:=mn.pair;obtain⟨bi,mo⟩:=gj.rowCs;subst mo;obtain⟨u3,u4,rfl,u5,mp⟩:=gj.at1.pair;obtain⟨mq,mr⟩:=mp.ro;subst mq;obtain⟨mu,mv⟩:=mr.ro;subst mu;have bj:St me (cR 9 kG bi p.2.1::cW 169 E [.string p.1,sv bi,.string p.2.2.1,.string p.2.2.2]::cR 169 GX gc c.2.2.2.2::cR 176 G5 g9 c.2.2.1::cR 173 HZ g8 c.1::cW 105 B [sv g8,sv mh,sv g9,.string c.2.2.2.1,sv gc]::Wq4 H::Wq0 G A::F) _:=mv;refine AA (x:=(p.1)) bj.at1 rfl<|AA bj.at1 rfl<|AA (x:=(p.2.2.1)) bj.at1 rfl<|AA (x:=(p.2.2.2)) bj.at1 rfl<|AU (vs:=[.string p.1,sv bi,.string p.2.2.1,.string p.2.2.2]) bj λy6 u6 mw=> ?_;have⟨mx,u7,my,gk⟩:=kK (t:=bi) mw.at1;have⟨mz,n0,k⟩:=bS k;refine AZ (r:=GX) (ms:=([(p.1,p.2.1,p.2.2.1,p.2.2.2)]:List Dh)) OA gk.tail.at1 rfl (kW gk) (.cons (a:=[_,_,_,_]) ⟨[_],_,rfl,rfl,⟨[_],_,rfl,⟨bi,rfl,my⟩,⟨[_],_,rfl,rfl,rfl⟩⟩⟩ .nil) rfl n0 ?_;intro y7 u9 n1;refine AG n1.at4 rfl rfl λua n2=> ?_;have n3:=((((E7 (x1:=c.2.1) (x3:=(c.2.2.2.1)) n2.at4.at4.at3.at3.at3.at3.at3 mi.up).at1.tail).at2).at2).at2;obtain rfl:=iS k;exact jZ rfl rfl ⟨mx,(c.1,c.2.1,c.2.2.1,c.2.2.2.1,mz),sb,kl,rfl,n3⟩
 ·rintro _ w1 ub ⟨n4,n5,uc,rfl,rfl,gl⟩ n6;refine AA gl.at2 rfl<|AW (dF e4 n6)<|AO (kB rfl ⟨_,n4,n5,sb,rfl,rfl,gl.at2.at2.at2⟩)
 rintro y8 ud ⟨_,gn,n7,ue,_,rfl,n8⟩;have⟨uf,n9,hd⟩:=bS hd;refine Bb n9 (λna y D g=>∃ψ:AD,∃go:DV,Sub gn ψ∧y.1=na∧go=g∧St ψ (cO 105 Ff (jX B) go::Wq4 H::Wq0 G A::F) D) ((0:Int),()) rfl ⟨gn,n7,sb,rfl,rfl,n8.at2.at2.at2⟩ ?_ ?_ ?_
 ·rintro _ I ug _ _ ⟨dl,m,uh,rfl,rfl,nb⟩ R ui nc nd;refine Ai (by exact decide_eq_true nc)<|Cv R id λuj R=> ?_;have⟨nf,ng,R⟩:=bS R;refine Av (λy D g=>∃ψ:AD,Sub dl ψ∧y.2.1=g∧St ψ (cO 105 Ff (jX B) m::Wq4 H::Wq0 G A::F) D) (g:=nf) ?_ ?_
  ·refine FF ng (λy D g=>∃ψ:AD,Sub dl ψ∧(y.1,y.2.1)=g∧St ψ (cO 105 Ff (jX B) m::Wq4 H::Wq0 G A::F) D) ((0:Int),false,()) rfl ⟨dl,sb,rfl,nb.at2.at2.at2⟩ ?_
   ·rintro y9 uk _ _ ⟨c4,ul,rfl,nh⟩ S ni;have⟨nj,gp,nk,gr,gs,gv,h0,T⟩:=HF nh;obtain rfl:B=nj:=by simpa using gv
    clear gv;have nl:=(T).rowLen;refine AA T.at3 rfl<|kD S (by rw[nl] <;>rfl) (λS=>?_) (λS=>?_)
    ·have⟨nm,al,S⟩:=bS S;refine Ad (λy D g=>∃ψ:AD,Sub c4 ψ∧y.1=g∧St ψ (cR 169 GX gs m.2.2.2.2::cR 176 G5 gr m.2.2.1::cR 173 HZ gp m.1::cW 105 B [sv gp,sv nk,sv gr,.string m.2.2.2.1,sv gs]::Wq4 H::Wq0 G A::F) D) (g:=nm) ?_ ?_
     ·refine kD al rfl (λal=>?_) (λal=>?_)
      ·have nn:=T.at5;exact jY rfl ⟨c4,sb,iS al,nn.at5.at5.at5.at5.at5⟩
      refine AA T.at3 rfl<|iD S8 T al λnp al=> ?_;exact jY rfl ⟨c4,sb,iS al,T.at5.at5.at5.at5.at5.at5⟩
     rintro z0 um ⟨nq,un,rfl,nr⟩;obtain rfl:=iS S;exact jZ rfl rfl ⟨nq,sb,rfl,((((E7 (x1:=m.2.1) (x3:=(m.2.2.2.1)) nr.at2.at2.at2.at3.at3.at3.at3 h0.up).at2).at2).at2)⟩
    obtain rfl:=iS S;obtain rfl:=ni _ rfl;exact AO (kB rfl ⟨c4,sb,rfl,((((E7 (x1:=m.2.1) (x3:=(m.2.2.2.1)) T.at2.at2.at2.at3.at3.at3.at3 h0).at2).at2).at2)⟩)
  rintro z1 uo ⟨dp,uq,rfl,h1⟩;have⟨ns,ap,R⟩:=bS R;refine Ad (λy D g=>∃ψ:AD,∃h2:DV,Sub dp ψ∧h2=g∧St ψ (cO 105 Ff (jX B) h2::Wq4 H::Wq0 G A::F) D) (g:=ns) ?_ ?_
  ·refine kD ap rfl (λap=>?_) (λap=>?_)
   ·have⟨nt,ur,us,ut,uu,h3,nu,h4⟩:=HF h1;obtain rfl:B=nt:=by simpa using h3
    clear h3;refine AA h4.at3 rfl<|AU (vs:=[.string (hA {data:=#[83,84,85,86]} (eE I.1) (eE (wN I.1))),.slice none 0 0,.string ({data:=#[]}),.string ({data:=#[]})]) h4 λz2 uv h5=> ?_;have⟨nv,nw,ap⟩:=bS ap;refine AZ (r:=GX) (ms:=([((hA {data:=#[83,84,85,86]} (eE I.1) (eE (wN I.1))),[],{data:=#[]},{data:=#[]})]:List Dh)) OA h5.tail rfl (kW h5) (.cons (a:=[_,_,_,_]) ⟨[_],_,rfl,rfl,⟨[_],_,rfl,⟨((none,0,0):Slc),rfl,lI _ _⟩,⟨[_],_,rfl,rfl,rfl⟩⟩⟩ .nil) rfl nw ?_;intro z3 uw nx;refine AG nx.at3 rfl rfl λux ny=> ?_;exact jY rfl ⟨dp,(m.1,m.2.1,m.2.2.1,m.2.2.2.1,nv),sb,iS ap,((((E7 (x1:=m.2.1) (x3:=(m.2.2.2.1)) ny.at3.at3.at3.at3.at3.at3.at3 nu).at2).at2).at2)⟩
   exact jY rfl ⟨dp,m,sb,iS ap,h1.at2.at2.at2⟩
  rintro z4 uy ⟨nz,o0,uz,rfl,o1⟩;obtain rfl:=iS R;exact jZ rfl rfl ⟨nz,o0,sb,nd,rfl,o1.at2.at2.at2⟩
 ·rintro _ I v0 ⟨o2,o3,v1,rfl,rfl,o4⟩ o5;refine AW (by exact decide_eq_false (kY.2 o5))<|AO (kB rfl ⟨_,o2,o3,sb,rfl,rfl,o4.at2.at2.at2⟩)
 rintro z5 v2 ⟨_,v3,U,v4,_,rfl,o6⟩;have⟨o7,h6,o8,h7,h8,h9,o9,b7⟩:=HF o6;obtain rfl:B=o7:=by simpa using h9
 clear h9;refine AA b7.at3 rfl<|AA b7.at3 rfl<|AA b7.at3 rfl<|AA (x:=(U.2.2.2.1)) b7.at3 rfl<|AA b7.at3 rfl<|AG b7.at4 rfl rfl λv5 oa=>AG oa rfl rfl λv6 ob=>AG ob rfl rfl λv7 oc=>AG oc rfl rfl λv8 od=>AG od rfl rfl λv9 b8=>AA b8 rfl<|AA b8 rfl<|AA b8 rfl<|AA (x:=(U.2.2.2.1)) b8 rfl<|AA b8 rfl ?_;have⟨va,vb,oe,og⟩:=kK (t:=h6) b8.at3;have⟨vc,vd,oh,oi⟩:=kK (t:=h7) og.at2;have⟨oj,ve,ok,ol⟩:=kK (t:=h8) oi.at1;exact AB ⟨oj,(h6,o8,h7,U.2.2.2.1,h8,()),U.1,U.2.1,U.2.2.1,U.2.2.2.2,sb,rfl,iS hd,oe.up,o9.up,oh.up,ok,ol.tail.tail.tail⟩
end
end Go.Proofs.YtnlkgidlfnefbaaGreatDoor
