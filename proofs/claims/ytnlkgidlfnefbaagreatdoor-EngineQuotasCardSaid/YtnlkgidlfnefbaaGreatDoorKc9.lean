/- The parts DgFrom to Sim3, put together. Conditions: each tells its own. -/
import Derived.Test.YtnlkgidlfnefbaaGreatDoorKc7
import Derived.Test.YtnlkgidlfnefbaaGreatDoorKc8
import Derived.Shelf.GgClosure.Gives
import Derived.Test.YtnlkgidlfnefbaaGreatDoorKc5
import Derived.KernelRfl
import Derived.Test.YtnlkgidlfnefbaaGreatDoorProg
import Derived.Shelf.Strconv.AppendIntPublic10
import Derived.Lib.ItoaLen
import Derived.Test.YtnlkgidlfnefbaaGreatDoorKc4
import Derived.Test.YtnlkgidlfnefbaaGreatDoorRows
import Derived.MakeChecks
import Derived.Stop.LaidErr
import Derived.Lib.LaidTab
import Derived.Test.YtnlkgidlfnefbaaGreatDoorKc6
set_option linter.unusedVariables false
set_option maxRecDepth 100000
set_option maxHeartbeats 4000000
open Option renaming bind_eq_some_iff → bD,map → lW,isNone_some → mF,bind_some → mK
open Go.Proofs.Tryz renaming prog → bO,underlying5 → kQ,underlying114 → kY,underlying22 → lA,underlying140 → lX,underlying129 → lY,underlying226 → lZ,underlying277 → mA,underlying275 → mB,underlying118 → mE
open List renaming append_assoc → eE,perm_append_comm → hM,getElem?_eq_getElem → kH,perm_middle → kJ,cons_append → lB,length_set → lG,append_toArray → lI,replicate → lJ,size_toArray → lM,push_toArray → lN,length_cons → lP,length_nil → lR,nil_append → lS,contains_iff_mem → lT,getElem?_eq_none → lU,getElem?_take → mC,length_append → mD,ext_getElem? → mH,take_length → mJ
open List.Perm renaming append_right → hA,cons → kF,swap → kK,append_left → kV,trans → lH,refl → mN
open Go.Eng.Ro renaming SliceIs → hC,int → kI,list → lQ,pt → mI
open Nat renaming beq → kG,lt_succ_self → kW
open Int renaming toNat → kL,not_lt → kX,toNat_natCast → lO
open Go.Eng.Rep renaming raw → kO,row → kT,ro → mO
open Go.Eng.Sub renaming refl → kU,trans → lV
open Go.Value renaming int → kZ
open Array renaming replicate_succ → lC,replicate_zero → lD,getElem?_eq_getElem → lL
open Go.Eng.St renaming get → lF,cells → mM,there → mQ,nil → mR
open Go.Eng.Ro.SliceIs renaming nil → lK
open Go.IntKind renaming wrap → mG
open Go.Addr renaming add → mL
open Go.Eng.BP renaming int → mP
open Go renaming Value → mS,Addr → mT
open Go.Proofs.Tryz
namespace Go.Proofs.YtnlkgidlfnefbaaGreatDoor.Dg
open Go Go.Eng Go.RowKit Go.Shelf Go.Sort
attribute [local go_sem] Oper.semAt_some
section
variable {φ:AD}{h:AH}{F:List Chk}
theorem eD {W:World}{b:Nat}{n x:Int}(d:W.cell? ⟨b,0,none⟩=some (.int .i64 n)):FnGives bO 183 #[.pointer (jX b)] #[.int .i64 x] (.bool (LD n x)) W:=by
 refine(callsIn_wide (n:=3)).1<|callsIn_of_wp func183 rfl trivial ?_ rfl;simp only[ntmps183,lM,lP,lR,Nat.reduceAdd,Nat.reduceSub,lC,lD,lN,lI,lS,lB];have c:prog.follows .mixedOrders=true:=mixed;by_cases a:x<0
 ·have e:LD n x=true:=by unfold LD;rw[decide_eq_true a];rfl
  rw[e]
  gi_wp2
  go_ret
  exact⟨rfl,0,rfl⟩
 ·have e:LD n x=decide (n≤x):=by unfold LD;rw[decide_eq_false a];rfl
  rw[e]
  gi_wp2
  go_ret
  exact⟨rfl,0,rfl⟩
theorem V5 (n:Nat) (p:Option mT) (cap:Nat) (a:mS) (W:World):CallsIn Fence.wide n bO 86 #[.slice p 0 cap,a] W λe b=>e= .returned (.int .i64 (-1))∧b=W:=by
 refine callsIn_of_wp func86 rfl trivial ?_ rfl;simp only[ntmps86,lM,lP,lR,Nat.reduceAdd,Nat.reduceSub,lC,lD,lN,lI,lS,lB]
 gi_wp2
 refine wpIn_loop_rounds 1 ?_;rw[roundsIn_succ]
 gi_wp2
 go_ret
 exact⟨rfl,rfl⟩
theorem V6 (n:Nat) (c:1≤n) (p:Option mT) (cap:Nat) (a:mS) (W:World):CallsIn Fence.wide n bO 182 #[.slice p 0 cap,a] W λe b=>e= .returned (.slice p 0 cap)∧b=W:=by
 refine callsIn_of_wp func182 rfl trivial ?_ rfl;simp only[ntmps182,lM,lP,lR,Nat.reduceAdd,Nat.reduceSub,lC,lD,lN,lI,lS,lB]
 gi_wp2
 refine⟨trivial,(V5 (n - 1) p cap a W).mono ?_⟩;rintro e b ⟨rfl,rfl⟩
 gi_wp2
 go_ret
 exact⟨rfl,rfl⟩
theorem gT {t:Slc}{l:List Int}{b:Nat}{n:Int}(f:St φ (⟨kT 3 (kI .i64),[.slice t.1 t.2.1 t.2.2],l⟩::⟨kO 3,[.pointer (jX b)],[.int .i64 n]⟩::F) h):
 CallsH bO 182 [.slice t.1 t.2.1 t.2.2,.func (.func 183) #[] #[.pointer (jX b)]] h (Ae λv G=>∃(ψ:AD) (y:Slc),Sub φ ψ∧v=((.one aS):Sh).val y∧hC (kI .i64) ψ y (l.filter λx=> !LD n x)∧St ψ F G):=by
 intro w H;subst H;have j:w.cell? ⟨b,0,none⟩=some (.int .i64 n):=(f.at 1).cell rfl;rcases f.rowHolds rfl (kZ .i64) (λvs I=>⟨l,DH I⟩) with⟨J,s⟩|⟨bb,off,bs,ht,hall,s,hlen,hlt,hfit,hH⟩
 ·subst J;rw[s];have u:=(callsIn_wide (n:=3)).1 (V6 3 (by decide) t.1 t.2.2 (.func (.func 183) #[] #[.pointer (jX b)]) w);refine(show Calls bO 182 #[.slice t.1 0 t.2.2,_] w _ from u).mono ?_;rintro e K ⟨rfl,rfl⟩;obtain⟨ψ,le,c,s1⟩:=f.freezeRow;refine⟨B4.refl _,_,rfl,ψ,t,le,by rw[←s];rfl,c,s1.tail⟩
 ·have z:bs=l:=TI (DH hall);subst z;rw[ht,s];have k:=f.rowMax;have o:bs.length≤t.2.2:=by
   obtain⟨_,_,c,_⟩:=f.freezeRow
   have:=c.2.1
   omega
  have u:=AnyE.slices_DeleteFunc Qm (kZ .i64) (λx=>rfl) (LD n) 183 #[.pointer (jX b)] (enters_of func183 (by kernel_rfl) rfl) 0 (zeroValue3) bb off t.2.2 bs.toArray w
   (λW x L=>eD ((L.cell (p:=⟨b,0,none⟩) (Pp j)).trans j))
   (λm os M x r=>eD (((f.rowSorted ht (kZ .i64) M.toList (Fm _) (by simpa using r) (by simpa using r) hfit m os).at 1).cell rfl)) hH (by unfold maxLen at k;simp;omega) (by simpa using o)
  obtain⟨d,g⟩:∃d,(bs.filter λx=> !LD n x)=d:=⟨_,rfl⟩;have E:d.length≤bs.length:=by rw[←g];exact List.length_filter_le _ _
  have A:bs.toArray.size=bs.length:=by simp
  have B:bs.toArray.toList=bs:=rfl;rw[A,B,g]at u;refine(show Calls bO 182 #[.slice (some ⟨bb,off,none⟩) bs.length t.2.2,_] w _ from u).mono ?_;rintro e K ⟨rfl,q,rfl⟩;have i:(d++lJ (bs.length - d.length) (0:Int)).length=bs.length:=by simp;omega
  have s1:=f.rowSorted ht (kZ .i64) (d++lJ (bs.length - d.length) (0:Int)) (Fm _) i i hfit q #[];rw[grow_empty]at s1;obtain⟨ψ,le,c,N⟩:=s1.freezeRow;have C:=Ro.SliceIs.cut (a:=0) (b:=(d.length:Int)) (m:=d) c (by
   unfold cut;rw[if_pos ⟨by omega,by omega,by rw[i];omega⟩]
   simp) (sz:=1) rfl
  refine⟨⟨rfl,rfl,rfl,by rw[size_putRow];exact Nat.le_refl _⟩,_,rfl,ψ,(some ⟨bb,off,none⟩,d.length,t.2.2),le,rfl,?_,N.tail⟩;rw[g];have D:=C.2;rw[ht]at D;have O:(if t.2.2=kL 0 then some (⟨bb,off,none⟩:mT) else lW (λx=>mL x (kL 0 *1)) (some ⟨bb,off,none⟩))=some ⟨bb,off,none⟩:=by
   split
   ·rfl
   ·rfl
  rw[O]at D;exact D
theorem Zi {t:Slc}{ll:List (List Int)}{x n:Int}(k:hC (lQ (kI .i64)) φ t ll) (o:St φ F h) (p:0≤x) (q:∀l∈ll,l.length≤1073741824):
 CallsH bO 151 [.slice t.1 t.2.1 t.2.2,.int .i64 x,.int .i64 n] h (Ae λv s=>∃(ψ:AD) (y:Slc),Sub φ ψ∧v=((.one aS):Sh).val y∧hC (kI .i64) ψ y (DA ll x n)∧St ψ F s):=by
 refine BF mixed func151 ?_;rw[O7];unfold K7;refine AU (vs:=[.int .i64 n]) o ?_;intro r H s1;have g:=k.length;by_cases i:x≥ (t.2.1:Int)
 ·rw[decide_eq_true i,cond_true];refine AB ⟨φ,(none,0,0),kU _,rfl,?_,s1.tail⟩;unfold DA;rw[if_pos (by omega)];exact lK _ _
 ·rw[decide_eq_false i,cond_false];have b:x.toNat<ll.length:=by omega
  have c:idx ll x=some ll[x.toNat]:=by
   unfold idx;rw[if_pos p,kH b]
  obtain⟨a,cs,u,w,⟨t1,z,A⟩,d⟩:=k.get c;subst z;refine AF _ u (Am w ?_);refine AL (x:=t1) (by
   have j:=Aq s1.sub (d 0 _ rfl);exact j) rfl ?_
  refine AE (clone46_ro A s1 (r:=ll[x.toNat]) (by unfold cloneD;rw[if_pos (q _ (List.getElem_mem _))])) ?_;rintro _ I ⟨J,B,l1,e,rfl,rfl,C⟩;refine⟨B,rfl,?_⟩;refine AE (gT C) ?_;rintro _ j ⟨D,m,f,rfl,E,G⟩;refine⟨m,rfl,?_⟩;refine AB ⟨D,m,e.trans f,rfl,?_,G⟩;unfold DA;rw[if_neg (by omega),kH b];exact E
end
end Go.Proofs.YtnlkgidlfnefbaaGreatDoor.Dg
namespace Go.Proofs.YtnlkgidlfnefbaaGreatDoor.Dg
open Go Go.Eng Go.RowKit
abbrev He (c1 c2:Nat) (s o:Slc) (stk low:List Int):List Chk:=[⟨kO 30,[.pointer (jX c1)],[.slice s.1 s.2.1 s.2.2]⟩,⟨kT 3 (kI .i64),[.slice s.1 s.2.1 s.2.2],stk⟩,⟨kO 30,[.pointer (jX c2)],[.slice o.1 o.2.1 o.2.2]⟩,⟨kT 3 (kI .i64),[.slice o.1 o.2.1 o.2.2],low⟩]
section
variable {X A:Type}(K:X→List Chk) (al:X→A) (ledA:A→Int→Int→Option A) (partA:A→List Int→Option A) (gl gp:Nat) (bl bp:Array mS)
def Zj:Prop:= ∀ {φ:AD}{h:AH}{F:List Chk}{v:X}{x to:Int}{a':A},ledA (al v) x to=some a'→St φ (K v++F) h→
 CallsH bO gl (((#[]:Array mS) ++ #[kZ .i64 x,kZ .i64 to]) ++bl).toList h (Ae λu a=>u= .tuple #[] ∧ ∃(ψ:AD) (v':X),Sub φ ψ∧al v'=a'∧St ψ (K v'++F) a)
def V7:Prop:= ∀ {φ:AD}{h:AH}{F:List Chk}{v:X}{t:Slc}{l:List Int}{a':A},partA (al v) l=some a'→St φ (⟨kT 3 (kI .i64),[.slice t.1 t.2.1 t.2.2],l⟩::(K v++F)) h→
 CallsH bO gp (((#[]:Array mS) ++ #[Value.slice t.1 t.2.1 t.2.2]) ++bp).toList h (Ae λu a=>u= .tuple #[] ∧ ∃(ψ:AD) (v':X),Sub φ ψ∧al v'=a'∧St ψ (K v'++F) a)
abbrev HS (c1 c2 a b c d e:Nat):Array mS:=#[.pointer (jX c1),.pointer (jX c2),.pointer (jX a),.pointer (jX b),.pointer (jX c),.pointer (jX d),.pointer (jX e)]
structure Qt (φ:AD) (t:Slc) (n:Int) (c1 c2 c3 c4 c5 c6 c7:Nat):Prop where
 edges:EN φ ⟨c3,0,none⟩=some (.slice t.1 t.2.1 t.2.2)
 num:EN φ ⟨c4,0,none⟩=some (.int .i64 n)
 visit:EN φ ⟨c5,0,none⟩=some (.func (.func 150) #[] (HS c1 c2 c3 c4 c5 c6 c7))
 led:EN φ ⟨c6,0,none⟩=some (.func (.func gl) #[] bl)
 part:EN φ ⟨c7,0,none⟩=some (.func (.func gp) #[] bp)
theorem Qt.mono {φ ψ:AD}{t:Slc}{n:Int}{c1 c2 b c d e f:Nat}(H:Qt gl gp bl bp φ t n c1 c2 b c d e f) (a:Sub φ ψ):Qt gl gp bl bp ψ t n c1 c2 b c d e f:=
 ⟨Aq a H.edges,Aq a H.num,Aq a H.visit,Aq a H.led,Aq a H.part⟩
def TN (rec:Dx A→Int→Option (Dx A)) (ll:List (List Int)) (n:Int) (t:Slc) (c1 c2 a b c d e:Nat):Prop:=
 ∀ {φ:AD} {h:AH} {F:List Chk} {v:X} {s o:Slc} {stk low stk' low':List Int} {x:Int} {a':A},Qt gl gp bl bp φ t n c1 c2 a b c d e→hC (lQ (kI .i64)) φ t ll→
  rec (low,stk,al v) x=some (low',stk',a')→St φ (He c1 c2 s o stk low++(K v++F)) h→
  CallsH bO 150 (((#[]:Array mS) ++ #[kZ .i64 x]) ++HS c1 c2 a b c d e).toList h (Ae λu f=>u= .tuple #[] ∧ ∃(ψ:AD) (v':X) (s':Slc),Sub φ ψ∧al v'=a'∧St ψ (He c1 c2 s' o stk' low'++(K v'++F)) f)
def FJ (g:FuncId):Prop:= ∃fn,Tryz.prog.funcs[g]? =some fn∧(fn.name== "runtime.NumGoroutine")=false∧fn.body.isNone=false∧UB Tryz.prog fn= .tuple []
theorem Ul:FJ 150:=⟨f150,func150,by decide,by kernel_rfl,by kernel_rfl⟩
theorem FJ.call {b:Bs→AH→Prop}{h:AH}{g:FuncId}{cap args:Array mS}{k:mS→T}(H:FJ g) {S:mS→AH→Prop}(d:CallsH bO g (((#[]:Array mS) ++args) ++cap).toList h (Ae S)) (e:∀a,S (.tuple #[]) a→(k (.tuple #[])).wp bO b a) (f:∀v a,S v a→v= .tuple #[]):
 (Hy false bO (.func (.func g) #[] cap) args k).wp bO b h:=by
 obtain⟨fn,i,j,l,m⟩:=H;refine Wx i j l m<|AE d ?_;intro v a c
 have:=f v a c
 subst this;exact⟨(),rfl,e a c⟩
abbrev SI (K:X→List Chk) (al:X→A) (c1 c2:Nat) (o:Slc) (F:List Chk) (a:AD) (w:AH) (g:Dx A):Prop:= ∃(ψ:AD) (v:X) (s:Slc),Sub a ψ∧al v=g.2.2∧St ψ (He c1 c2 s o g.2.1 g.1++(K v++F)) w
theorem V8 {ll:List (List Int)}{n:Int}{t:Slc}{c1 c2 c3 c4 c5 c6 c7:Nat}{rec:Dx A→Int→Option (Dx A)}(hl:Zj K al ledA gl bl) (hp:V7 K al partA gp bp) (cl:FJ gl) (cp:FJ gp)
 (ih:TN K al gl gp bl bp rec ll n t c1 c2 c3 c4 c5 c6 c7):TN K al gl gp bl bp (Qn ll n ledA partA rec) ll n t c1 c2 c3 c4 c5 c6 c7:=by
 intro φ h F v s o stk low f8 f9 x a' B k hd s0;refine BF mixed func150 ?_;rw[show AT bO f150 (((#[]:Array mS) ++ #[kZ .i64 x]) ++HS c1 c2 c3 c4 c5 c6 c7).toList=_ from NP x c1 c2 c3 c4 c5 c6 c7];unfold Ij;unfold Qn at hd;have⟨f,e1,hd⟩:=bD.1 hd;have⟨S,e2,hd⟩:=bD.1 hd;have⟨hb,hd⟩:=CQ hd;have⟨d,e3,hd⟩:=bD.1 hd;refine AA (b:=c1) (j:=0) (x:=s) s0 rfl<|AU (vs:=[.int .i64 x]) s0 ?_;intro r2 h1 s1;have cw:=mM s1;have s2:=s1.tail.at1;refine AZ (r:=kI .i64) (ms:=[x]) app28 s2 rfl cw (.cons (a:=[_]) rfl .nil) rfl e1 ?_;intro s' h2 s3;refine Cj (b:=c1) (j:=0) (v:=.slice s'.1 s'.2.1 s'.2.2) s3.at1 rfl (kW 0) ?_;intro h3 s4;refine AA (b:=c1) (j:=0) (x:=s') s4 rfl<|AA (b:=c2) (j:=0) (x:=o) s4.at2 rfl ?_;have b2:s'.2.1=f.length:=s4.at1.rowLen;have s5:=s4.at3;have⟨a5,a0,q5⟩:=s5.there e2;rw[b2];refine AF _ a0 (Am q5 (Jq s5 e2 rfl a0 ?_));intro h4 s6;have s7:St φ (He c1 c2 s' o f S++(K v++F)) h4:=s6.perm (BK 3 (He c1 c2 s' o f S++(K v++F))).symm;refine AL (x:=t) (Aq s7.sub B.edges) rfl<|AL (x:=n) (Aq s7.sub B.num) rfl ?_;have b3:0≤x:=(Eb e2).1;refine AE (Zi k s7 b3 hb) ?_;rintro _ h5 ⟨ψ1,y,q,rfl,k1,s8⟩;refine⟨y,rfl,?_⟩;have ny:=k1.length;refine Av (λ(z:Int×Unit) w g=>SI K al c1 c2 o F ψ1 w g) (g:=d) ?_ ?_
 ·refine Cp e3 (λi (z:Int×Unit) w g=>z.1=i∧SI K al c1 c2 o F ψ1 w g) ((0:Int),()) rfl ⟨rfl,ψ1,v,s',kU _,rfl,s8⟩ ?_ ?_
  ·rintro i z w g e ⟨W,ψ,M,c,le,p,st⟩ m h0 hlt hw;subst W;refine Ai (by rw[ny];exact decide_eq_true hlt) ?_;have⟨to,b4,m⟩:=bD.1 m;unfold toD at m;have⟨e0,b5,m⟩:=bD.1 m;have⟨g1,b6,m⟩:=bD.1 m;have⟨p1,b7,m⟩:=bD.1 m;have⟨q1,b8,m⟩:=bD.1 m;have⟨E,G,m⟩:=bD.1 m;have⟨a2,a1,m⟩:=bD.1 m;obtain rfl:=Option.some.inj m;obtain⟨A1,g2,b9,c0,r1,c8⟩:=(k1.mono le).get b4;refine AF _ b9 (Am c0 ?_);obtain rfl:=r1;refine AL (x:=to) (Aq st.sub (c8 0 _ rfl)) rfl<|AA (b:=c2) (j:=0) (x:=o) st.at2 rfl ?_;have⟨A2,g3,c9,d0,r2,d1⟩:=lF (st.at3) b5;refine AF _ c9 (Am d0 ?_);obtain rfl:=r2;refine AL (x:=e0) (d1 0 _ rfl) rfl<|Ad (λ(_:Unit) w g=>SI K al c1 c2 o F ψ1 w g) (g:=g1) ?_ ?_
   ·refine kD b6 rfl (λhg=>?_) (λhg=>?_)
    ·refine AL (x:=some (.func 150,#[],HS c1 c2 c3 c4 c5 c6 c7)) (Aq st.sub (Aq (q.trans le) B.visit)) rfl ?_;obtain⟨g4,g5,g6⟩:=g1;obtain⟨g7,g8,g9⟩:=g;dsimp only at p;subst p;refine FJ.call Ul (ih (Qt.mono gl gp bl bp B (q.trans le)) (k.mono (q.trans le)) hg st) ?_ (λ_ _ hS=>hS.1);rintro h6 ⟨_,ψ2,v2,C,N,I,l⟩;exact jY rfl ⟨ψ2,v2,C,le.trans N,I,l⟩
    ·obtain rfl:=Option.some.inj hg;exact jY rfl ⟨ψ,M,c,le,p,st⟩
   ·rintro _ h6 ⟨ψ2,v2,C,N,I,l⟩;refine AA (b:=c2) (j:=0) (x:=o) l.at2 rfl<|AA (b:=c2) (j:=0) (x:=o) l.at2 rfl ?_;have⟨A3,i0,d2,d3,r3,d4⟩:=lF (l.at3) b7;refine AF _ d2 (Am d3 ?_);obtain rfl:=r3;refine AL (x:=p1) (d4 0 _ rfl) rfl<|AA (b:=c2) (j:=0) (x:=o) l.at2 rfl ?_;have⟨A4,i1,d5,d6,r4,d7⟩:=lF (l.at3) b8;refine AF _ d5 (Am d6 ?_);obtain rfl:=r4;refine AL (x:=q1) (d7 0 _ rfl) rfl ?_;have⟨A5,O,q6⟩:=mQ (l.at3) G;refine AF _ O (Am q6 (Jq (l.at3) G rfl O ?_));intro h7 s9;have P:St ψ2 (He c1 c2 C o g1.2.1 E++(K v2++F)) h7:=s9.perm (BK 3 (He c1 c2 C o g1.2.1 E++(K v2++F))).symm;refine AL (x:=some (.func gl,#[],bl)) (Aq P.sub (Aq (q.trans N) B.led)) rfl ?_;rw[←I]at a1;refine FJ.call cl (hl a1 (F:=F++He c1 c2 C o g1.2.1 E) (P.perm (List.perm_append_comm.trans (by rw[eE])))) ?_ (λ_ _ hS=>hS.1);rintro h8 ⟨_,ψ3,v3,X,J,a3⟩;refine jZ rfl rfl ⟨hw,ψ3,v3,C,N.trans X,J,?_⟩;exact a3.perm (by rw[←eE];exact hM)
  ·rintro i z w ⟨W,ψ,M,c,le,p,st⟩ hge;subst W;refine AW (by rw[ny];exact decide_eq_false (kX.2 hge))<|AO (kB rfl ⟨ψ,M,c,le,p,st⟩)
 ·rintro z h6 ⟨ψ,M,c,le,p,st⟩;unfold ZO at hd;have⟨e,m,hd⟩:=bD.1 hd;refine AA (b:=c2) (j:=0) (x:=o) st.at2 rfl ?_;have⟨A6,i2,O,d8,r6,d9⟩:=lF (st.at3) m;refine AF _ O (Am d8 ?_);obtain rfl:=r6;refine AL (x:=e) (d9 0 _ rfl) rfl<|kD hd rfl (λhd=>?_) (λhd=>?_)
  ·obtain rfl:=Option.some.inj hd;exact AB ⟨rfl,ψ,M,c,q.trans le,p,st⟩
  ·obtain⟨⟨i3,e5,i4⟩,hd⟩:=CQ hd;have⟨T,e4,hd⟩:=bD.1 hd;have⟨a4,Y,hd⟩:=bD.1 hd;obtain⟨rfl,e6⟩:=Prod.mk.inj (Option.some.inj hd);obtain⟨rfl,rfl⟩:=Prod.mk.inj e6;obtain⟨dp,i5⟩:∃dp:Nat,f.length=dp+1:=⟨f.length - 1,by omega⟩;have U:f.length - 1=dp:=by omega
   rw[U]at e5 e4 Y;rw[U];have e7:mG .i64 ((f.length:Int) - (1:Int))=((dp:Nat):Int):=by
    have:f.length≤1073741825:=by omega
    rw[YG (by omega) (by omega)];omega
   rw[e7];have Q:c.2.1=d.2.1.length:=st.at1.rowLen;have g0:c.2.1≤c.2.2:=by
    obtain⟨_,_,a6,_⟩:=(st.at1).freezeRow;exact a6.2.1
   refine AA (b:=c1) (j:=0) (x:=c) st rfl<|Am ⟨by omega,by omega,by omega⟩ ?_;have a7:cut d.2.1 ((dp:Nat):Int) (c.2.1:Int)=some (d.2.1.drop dp):=by
    unfold cut;rw[if_pos ⟨by omega,by omega,by omega⟩,lO,lO,Q,mJ]
   have L:∀h',St ψ (He c1 c2 c o d.2.1 d.1++(K M++F)) h'→ ∃ψ',Sub ψ ψ'∧Sub ψ' (BZ h')∧hC (kI .i64) ψ' ((if c.2.2=kL ((dp:Nat):Int) then c.1 else lW (λx=>mL x (kL ((dp:Nat):Int) *1)) c.1),kL (c.2.1:Int) - kL ((dp:Nat):Int),c.2.2 - kL ((dp:Nat):Int)) (d.2.1.drop dp):=λh' H=>by
    obtain⟨ψ',e8,sl,H2⟩:=(H.at1).freezeRow;exact⟨ψ',e8,H2.sub,(sl.cut a7 (sz:=1) rfl).2⟩
   have⟨_,_,_,V⟩:=L _ st;have a8:=clone46_core (t:=((if c.2.2=kL ((dp:Nat):Int) then c.1 else lW (λx=>mL x (kL ((dp:Nat):Int) *1)) c.1),kL (c.2.1:Int) - kL ((dp:Nat):Int),c.2.2 - kL ((dp:Nat):Int))) st V.1 (λh' H=>by
    obtain⟨ψ',_,e9,sl⟩:=L h' H;have⟨vs,ha,hc⟩:=sl.heap e9;rw[DH ha]at hc;exact hc) V.2.2.2.1 (by rw[List.length_drop];omega)
   dsimp only at a8;refine AE a8 ?_;rintro _ h7 ⟨u,rfl,s9⟩;refine⟨u,rfl,?_⟩;have a9:u.2.1=(d.2.1.drop dp).length:=s9.rowLen;refine AA (b:=c1) (j:=0) (x:=c) s9.at1 rfl<|Am ⟨by omega,by omega,by omega⟩ ?_;have Z:(if c.2.2=kL (0:Int) then c.1 else lW (λx=>mL x (kL (0:Int) *1)) c.1)=c.1:=by
    split
    ·rfl
    ·cases c.1 with
     |none=>rfl
     |some a=>cases a;rfl
   rw[Z];refine Cj (b:=c1) (j:=0) (v:=.slice c.1 (kL ((dp:Nat):Int) - kL 0) (c.2.2 - kL 0)) s9.at1 rfl (kW 0) ?_;intro h8 P;have f0:=St.rowTake (P.at2) (k:=dp) (by omega);have f1:St ψ (⟨kT 3 (kI .i64),[.slice u.1 u.2.1 u.2.2],d.2.1.drop dp⟩::(He c1 c2 (c.1,dp,c.2.2) o (d.2.1.take dp) d.1++(K M++F))) h8:=f0.perm ((BK 2 _).trans (kF _ (kK _ _ _)));refine Av (λ(z:Int×Unit) w g=>St ψ (⟨kT 3 (kI .i64),[.slice u.1 u.2.1 u.2.2],d.2.1.drop dp⟩::(He c1 c2 (c.1,dp,c.2.2) o (d.2.1.take dp) g++(K M++F))) w) (g:=T) ?_ ?_
   ·refine Cp e4 (λi (z:Int×Unit) w g=>z.1=i∧St ψ (⟨kT 3 (kI .i64),[.slice u.1 u.2.1 u.2.2],d.2.1.drop dp⟩::(He c1 c2 (c.1,dp,c.2.2) o (d.2.1.take dp) g++(K M++F))) w) ((0:Int),()) rfl ⟨rfl,f1⟩ ?_ ?_
    ·rintro i z w g e' ⟨W,D⟩ R h0 hlt hw;subst W;refine Ai (by rw[a9];exact decide_eq_true hlt) ?_;obtain⟨y3,f2,R⟩:=bD.1 R;have⟨A7,i6,f3,f4,r7,f5⟩:=lF D f2;refine AF _ f3 (Am f4 ?_);obtain rfl:=r7;refine AL (x:=y3) (f5 0 _ rfl) rfl<|AA (b:=c2) (j:=0) (x:=o) D.at3 rfl ?_;have⟨A8,b0,q8⟩:=mQ (D.at4) R;refine AF _ b0 (Am q8 (Jq (D.at4) R rfl b0 ?_));intro h9 f6;refine jZ rfl rfl ⟨hw,f6.perm (BK 4 (⟨kT 3 (kI .i64),[.slice u.1 u.2.1 u.2.2],d.2.1.drop dp⟩::(He c1 c2 (c.1,dp,c.2.2) o (d.2.1.take dp) e'++(K M++F)))).symm⟩
    ·rintro i z w ⟨W,D⟩ hge;subst W;refine AW (by rw[a9];exact decide_eq_false (kX.2 hge))<|AO (kB rfl D)
   ·rintro z2 h9 b1;refine AL (x:=some (.func gp,#[],bp)) (Aq b1.sub (Aq (q.trans le) B.part)) rfl ?_;rw[←p]at Y;refine FJ.call cp (hp Y (F:=F++He c1 c2 (c.1,dp,c.2.2) o (d.2.1.take dp) T) (b1.perm (kF _ (List.perm_append_comm.trans (by rw[eE]))))) ?_ (λ_ _ hS=>hS.1);rintro i7 ⟨_,ψ3,v3,X,J,f7⟩;exact AB ⟨rfl,ψ3,v3,(c.1,dp,c.2.2),(q.trans le).trans X,J,f7.perm (by rw[←eE];exact hM)⟩
theorem Um {ll:List (List Int)}{n:Int}{t:Slc}{c1 c2 e g h i j:Nat}(a:Zj K al ledA gl bl) (b:V7 K al partA gp bp) (c:FJ gl) (d:FJ gp):∀f:Nat,TN K al gl gp bl bp (LE ll n ledA partA f) ll n t c1 c2 e g h i j
 | 0=>λ_ _ hd _=>by cases hd
 |f+1=>V8 K al ledA partA gl gp bl bp a b c d (Um a b c d f)
end
end Go.Proofs.YtnlkgidlfnefbaaGreatDoor.Dg
namespace Go.Proofs.YtnlkgidlfnefbaaGreatDoor.Dg
open Go Go.Eng
theorem SJ {d:List Nat}{x:Int}:∀ {k:Nat},x∈EA d k↔∃i j:Nat,i<k∧j∈Gc (d[i]?.getD 0)∧x=(i:Int) *64+(j:Int):=by
 intro k
 induction k with
 |zero=>rw[Qr];simp
 |succ k f=>
  rw[Hd,List.mem_append,f,List.mem_map];constructor
  ·rintro(⟨i,j,c,a,b⟩|⟨j,c,a⟩)
   ·exact⟨i,j,by omega,a,b⟩
   ·exact⟨k,j,by omega,c,a.symm⟩
  ·rintro⟨i,j,c,a,b⟩;by_cases e:i=k
   ·subst e;exact .inr ⟨j,a,b.symm⟩
   ·exact .inl ⟨i,j,by omega,a,b⟩
theorem Zk (w:Nat):(Gc w).Pairwise (· < ·):=List.pairwise_lt_range.filter _
theorem Zl (c:List Nat):∀k:Nat,(EA c k).Pairwise (· < ·):=by
 intro k
 induction k with
 |zero=>rw[Qr];exact .nil
 |succ k d=>
  rw[Hd,List.pairwise_append];refine⟨d,?_,?_⟩
  ·rw[List.pairwise_map];exact(Zk _).imp λh=>by omega
  ·intro a e b f;obtain⟨i,j,l,g,rfl⟩:=SJ.1 e;obtain⟨m,n,rfl⟩:=List.mem_map.1 f
   have:=(O9.1 g).1
   omega
theorem Zm (s:Aa):(EB s).Pairwise (· < ·):=Zl _ _
theorem FQ {s:Aa}(H:OkS s) (x:Int):x∈EB s↔mem s x=true:=by
 unfold EB;rw[SJ];have a:∀i:Nat,(s.2.map kL)[i]?.getD 0=(s.2[i]?.getD 0).toNat:=λi=>by
  rw[List.getElem?_map];cases s.2[i]? <;>rfl
 constructor
 ·rintro⟨i,j,c,b,rfl⟩;rw[a]at b;have⟨e,d⟩:=O9.1 b;rw[show(i:Int) *64+(j:Int)=((i *64+j:Nat):Int) by omega,OG];unfold KD;rw[show(i *64+j) / 64=i by omega,show(i *64+j) % 64=j by omega];exact d
 ·intro h;have⟨f,c⟩:=O8 H h;obtain⟨k,rfl⟩:∃k:Nat,x=(k:Int):=⟨x.toNat,by omega⟩;rw[OG]at h;have g:=H.len;refine⟨k / 64,k % 64,by omega,?_,by omega⟩;rw[a];exact O9.2 ⟨Nat.mod_lt _ (by decide),h⟩
theorem LG {s:Aa}(H:OkS s):Ju s=some (EB s):=by unfold Ju EB;have a:=H.len;have b:=H.hi;rw[if_pos ⟨by omega,H.word⟩]
theorem LH {s:Aa}(H:OkS s) {x:Int}(h:x∈EB s):0≤x∧x<s.1:=O8 H ((FQ H x).1 h)
theorem fN:∀(l:List Int) {s:Aa},OkS s→l.Pairwise (· < ·)→(∀i∈l,0≤i)→
 OkS (l.foldl Im (s,false)).1∧(l.foldl Im (s,false)).1.1=s.1∧ ∀j,mem (l.foldl Im (s,false)).1 j=(mem s j || (l.contains j && decide (j<s.1))):=by
 intro l
 induction l with
 |nil=>intro s H _ _;exact⟨H,rfl,λj=>by simp⟩
 |cons i l m=>
  intro s H n f;rw[List.foldl_cons];have a:=List.pairwise_cons.1 n;by_cases c:s.1≤i
  ·have e:Im (s,false) i=(s,true):=by unfold Im;rw[if_neg (by simp),if_pos c]
   rw[e,fL l rfl];refine⟨H,rfl,λj=> ?_⟩
   have:((i::l).contains j && decide (j<s.1))=false:=by
    by_cases b:j<s.1
    ·have d:j∉i::l:=by
      intro o;rcases List.mem_cons.1 o with h | h
      ·omega
      ·have:=a.1 j h;omega
     have:(i::l).contains j=false:=by
      rw[Bool.eq_false_iff];intro p;exact d (lT.1 p)
     rw[this];rfl
    ·rw[decide_eq_false b,Bool.and_false]
   rw[this,Bool.or_false]
  ·obtain⟨s',hd,q,k,r⟩:=add_ok H i;have e:Im (s,false) i=(s',false):=by unfold Im;rw[if_neg (by simp),if_neg c,hd];rfl
   rw[e];obtain⟨t,u,v⟩:=m q a.2 λi c=>f i (List.mem_cons_of_mem _ c);have w:=f i (by simp);refine⟨t,u.trans k,λj=> ?_⟩;rw[v,r,k,List.contains_cons];by_cases b:j=i
   ·subst b;rw[decide_eq_true (show j=j∧0≤j∧j<s.1 by omega),decide_eq_true (show j<s.1 by omega)];simp
   ·rw[decide_eq_false λg=>b g.1,Bool.or_false,show(j==i)=false by simpa using b,Bool.false_or]
theorem OH {s o:Aa}(H:OkS s) (K:OkS o):OkS (BN s o)∧(BN s o).1=s.1∧ ∀j,mem (BN s o) j=(mem s j || (mem o j && decide (j<s.1))):=by
 have⟨a,b,c⟩:=fN (EB o) H (Zm o) λi d=>(LH K d).1;refine⟨a,b,λj=> ?_⟩;show mem (List.foldl Im (s,false) (EB o)).1 j=_;rw[c]
 have:(EB o).contains j=mem o j:=by
  rw[Bool.eq_iff_iff,lT,FQ K]
 rw[this]
section
variable {φ:AD}{h:AH}{F:List Chk}
abbrev AV (ps:List (Option mT)) (ss:List Aa):List Chk:=List.zipWith Bc ps ss
theorem JQ:∀ {ps:List (Option mT)}{ss:List Aa}{i:Nat}{p:Option mT}{s:Aa},ps[i]? =some p→ss[i]? =some s→
 ∃rest,(AV ps ss).Perm (Bc p s::rest)∧ ∀a s',(AV (ps.set i a) (ss.set i s')).Perm (Bc a s'::rest):=by
 intro ps
 induction ps with
 |nil=>intro ss i p s h;simp at h
 |cons q ps d=>
  intro ss i p s c b;cases ss with
  |nil=>simp at b
  |cons t ss=>
   cases i with
   |zero=>
    simp only[List.getElem?_cons_zero,Option.some.injEq]at c b;subst c b;exact⟨AV ps ss,mN _,λa s'=>mN _⟩
   |succ i=>
    obtain⟨rest,e,f⟩:=d (by simpa using c) (by simpa using b);exact⟨Bc q t::rest,(kF _ e).trans (kK _ _ _),λa s'=>(kF _ (f a s')).trans (kK _ _ _)⟩
theorem E0 {ps:List (Option mT)}{ss:List Aa}{i:Nat}{p:Option mT}{s:Aa}(a:ps[i]? =some p) (b:ss[i]? =some s):
 ∃rest,(AV ps ss).Perm (Bc p s::rest)∧ ∀s',(AV ps (ss.set i s')).Perm (Bc p s'::rest):=by
 have⟨rest,c,d⟩:=JQ a b;refine⟨rest,c,λs'=> ?_⟩
 have:=d p s'
 have e:ps.set i p=ps:=mH λk=>by
  rw[List.getElem?_set];split
  ·rename_i h
   subst h;rw[a];split
   ·rfl
   ·rename_i h;rw[lU (by omega)]at a;cases a
  ·rfl
 rwa [e]at this
theorem Ls {ps:List (Option mT)}{ss:List Aa}(a:ps.length=ss.length) (p:Option mT) (s:Aa):AV (ps++ [p]) (ss++ [s])=AV ps ss++ [Bc p s]:=by unfold AV;rw[List.zipWith_append a];rfl
def fO:Ro Unit where
 sz:=0
 is φ cs _:=cs= [] ∧Glob φ
 len h:=by rw[h.1];rfl
 mono hs h:=⟨h.1,h.2.mono hs⟩
 plain h v hv:=by rw[h.1]at hv;cases hv
abbrev Zn:Chk:=⟨mO fO,[],()⟩
theorem Io (s:St φ (Zn::F) h):Glob φ∧St φ F h:=⟨(St.ro s).1.2,(St.ro s).2⟩
theorem Qu (g:Glob φ) (s:St φ F h):St φ (Zn::F) h:=St.unro s ⟨rfl,g⟩
structure OI where
 o:Slc
 ps:List (Option mT)
 ss:List Aa
 eq:ps.length=ss.length
abbrev OJ (c:Nat) (v:OI):List Chk:=Zn::⟨kO 140,[.pointer (jX c)],[.slice v.o.1 v.o.2.1 v.o.2.2]⟩::⟨kT 189 mI,[.slice v.o.1 v.o.2.1 v.o.2.2],v.ps⟩::AV v.ps v.ss
noncomputable def Qv (a:List Aa) (x to:Int):Option (List Aa):=(idx a x).bind λs=>(idx a to).bind λo=>need (OkS s∧OkS o)<|Ea a x (BN s o)
noncomputable def Pq (a:List Aa) (l:List Int):Option (List Aa):=(idx l 0).bind λb=>(forS 0 (((l.drop 1).length:Nat):Int) a λi a=>(idx (l.drop 1) i).bind λy=>Qv a b y).bind λa=>forS 0 (((l.drop 1).length:Nat):Int) a λi a=>(idx (l.drop 1) i).bind λy=>(idx a b).bind λs=>(DN s).bind λs=>Ea a y s
theorem JR {α β:Type}{ps:List α}{ss:List β}(d:ps.length=ss.length) {i:Int}{s:β}(h:idx ss i=some s):0≤i∧ss[i.toNat]? =some s∧ ∃p,ps[i.toNat]? =some p∧idx ps i=some p:=by
 have⟨b,e,c⟩:=CU h;have a:i.toNat<ps.length:=by omega
 exact⟨b,c,ps[i.toNat],kH a,by rw[JM b a]⟩
theorem Un {c:Nat}{v:OI}{x to:Int}{s o:Aa}{p q:Option mT}(m:v.ss[x.toNat]? =some s) (n:v.ss[to.toNat]? =some o) (t:v.ps[x.toNat]? =some p) (w:v.ps[to.toNat]? =some q) (y:OkS s) (z:OkS o)
 (A:St φ (OJ c v++F) h):CallsH bO 114 [.pointer p,.pointer q] h (Ae λu i=>∃(ψ:AD) (g:Bool),Sub φ ψ∧u=((.one aB):Sh).val g∧
  ∀a:OI,a.o=v.o→a.ps=v.ps→a.ss=v.ss.set x.toNat (BN s o)→St ψ (OJ c a++F) i):=by
 have⟨g,s1⟩:=Io A;have⟨d,j,C⟩:=E0 t m;have⟨D,b1,_⟩:=E0 w n;obtain⟨B,k⟩:∃B:List Chk,B= [⟨kO 140,[.pointer (jX c)],[.slice v.o.1 v.o.2.1 v.o.2.2]⟩,⟨kT 189 mI,[.slice v.o.1 v.o.2.1 v.o.2.2],v.ps⟩]:=⟨_,rfl⟩;have E:St φ (B++(AV v.ps v.ss++F)) h:=by rw[k];exact s1
 have b:∀(p:Option mT) (s:Aa) (r:List Chk) (L:List Chk),L.Perm (Bc p s::r)→(B++(L++F)).Perm (Bc p s::(B++(r++F))):=λp s r L G=>((kV B (hA F G)).trans kJ);have H:=E.perm (b p s d _ j);have f:=(b p s d _ j).symm.trans (b q o D _ b1);refine(YJ g y z f H).mono ?_;rintro e i ⟨u,rfl,ψ,I,le,rfl,J⟩;refine⟨_,rfl,ψ,I,le,rfl,?_⟩;rintro⟨O,K,M,N⟩ rfl rfl rfl;refine Qu (g.mono le) ?_;have l:=J.perm (b p (BN s o) d _ (C _)).symm;rw[k]at l;exact l
theorem V9 {c:Nat}{v:OI}{x to:Int}{t:List Aa}(hd:Qv v.ss x to=some t) (w:St φ (OJ c v++F) h):
 CallsH bO 118 [.int .i64 x,.int .i64 to,.pointer (jX c)] h (Ae λu y=>u= .tuple #[] ∧ ∃(ψ:AD) (v':OI),Sub φ ψ∧v'.ss=t∧St ψ (OJ c v'++F) y):=by unfold Qv at hd;have⟨s,z,hd⟩:=bD.1 hd;have⟨o,A,hd⟩:=bD.1 hd;obtain⟨⟨B,C⟩,hd⟩:=CQ hd;obtain⟨_,a,p,D,d⟩:=JR v.eq z;obtain⟨_,e,q,E,f⟩:=JR v.eq A;refine BF mixed func118 ?_;rw[MN];unfold H8;have s1:=(Io w).2;refine AA (b:=c) (j:=0) (x:=v.o) s1 rfl ?_;have⟨M,G,i,k,I,l⟩:=lF (s1.at1) d;refine AF _ i (Am k ?_);obtain rfl:=I;refine AL (x:=p) (l 0 _ rfl) rfl<|AA (b:=c) (j:=0) (x:=v.o) s1 rfl ?_;have⟨N,J,m,n,K,r⟩:=lF (s1.at1) f;refine AF _ m (Am n ?_);obtain rfl:=K;refine AL (x:=q) (r 0 _ rfl) rfl<|AE (Un a e D E B C w) ?_;rintro _ O ⟨ψ,g,le,rfl,H⟩;refine⟨g,rfl,?_⟩;obtain⟨P,L,rfl⟩:=Eb hd;exact AB ⟨rfl,ψ,⟨v.o,v.ps,v.ss.set x.toNat (BN s o),by rw[lG];exact v.eq⟩,le,rfl,H _ rfl rfl rfl⟩
theorem WA {c:Nat}{v:OI}{t:Slc}{l:List Int}{a':List Aa}(hd:Pq v.ss l=some a') (s0:St φ (⟨kT 3 (kI .i64),[.slice t.1 t.2.1 t.2.2],l⟩::(OJ c v++F)) h):
 CallsH bO 120 [.slice t.1 t.2.1 t.2.2,.pointer (jX c)] h (Ae λu h'=>u= .tuple #[] ∧ ∃(ψ:AD) (a:OI),Sub φ ψ∧a.ss=a'∧St ψ (OJ c a++F) h'):=by
 unfold Pq at hd;have⟨l0,D,hd⟩:=bD.1 hd;have⟨a1,a6,hd⟩:=bD.1 hd;obtain⟨ψ0,a7,k0,s1⟩:=s0.freezeRow;have W:=k0.length;have⟨_,c7,_⟩:=CU D;have X:cut l 1 (t.2.1:Int)=some (l.drop 1):=by
  unfold cut;rw[if_pos ⟨by omega,by omega,by omega⟩,lO,W,mJ];rfl
 have⟨q1,kt⟩:=k0.cut X (sz:=1) rfl;refine BF mixed func120 ?_;rw[MO];unfold H9;refine Am q1 ?_;have m:=kt.length;dsimp only at m;refine Av (λ(z:Int×Unit) w (g:List Aa)=>∃(ψ:AD) (a:OI),Sub ψ0 ψ∧a.ss=g∧St ψ (OJ c a++F) w) (g:=a1) ?_ ?_
 ·refine Cp a6 (λi (z:Int×Unit) w g=>z.1=i∧ ∃(ψ:AD) (a:OI),Sub ψ0 ψ∧a.ss=g∧St ψ (OJ c a++F) w) ((0:Int),()) rfl ⟨rfl,ψ0,v,kU _,rfl,s1⟩ ?_ ?_
  ·rintro i z w g e ⟨E,ψ,a,le,G,st⟩ d h0 hlt hw;subst E;subst G;refine Ai (by rw[m];exact decide_eq_true hlt) ?_;have⟨y,hy,d⟩:=bD.1 d;obtain⟨A1,a8,I,J,r1,K⟩:=(kt.mono le).get hy;refine AF _ I (Am J ?_);obtain rfl:=r1;refine AL (x:=y) (Aq st.sub (K 0 _ rfl)) rfl ?_;unfold Qv at d;have⟨s,hs,d⟩:=bD.1 d;have⟨o,ho,d⟩:=bD.1 d;obtain⟨⟨ks,ko⟩,d⟩:=CQ d;obtain⟨_,L,p,hp,M⟩:=JR a.eq hs;obtain⟨_,a9,q,hq,b0⟩:=JR a.eq ho;have f:=(Io st).2;refine AA (b:=c) (j:=0) (x:=a.o) f rfl ?_;obtain⟨A0,b1,N,O,r0,P⟩:=(k0.mono le).get D;refine AF _ N (Am O ?_);obtain rfl:=r0;refine AL (x:=l0) (Aq st.sub (P 0 _ rfl)) rfl ?_;have⟨A2,b2,Q,R,r2,S⟩:=lF (f.at1) M;refine AF _ Q (Am R ?_);obtain rfl:=r2;refine AL (x:=p) (S 0 _ rfl) rfl<|AA (b:=c) (j:=0) (x:=a.o) f rfl ?_;have⟨A3,c8,b3,b4,r3,b5⟩:=lF (f.at1) b0;refine AF _ b3 (Am b4 ?_);obtain rfl:=r3;refine AL (x:=q) (b5 0 _ rfl) rfl<|AE (Un L a9 hp hq ks ko st) ?_;rintro _ h1 ⟨A,g2,k,rfl,H⟩;refine⟨g2,rfl,?_⟩;obtain⟨c9,d0,rfl⟩:=Eb d;exact jZ rfl rfl ⟨hw,A,⟨a.o,a.ps,a.ss.set l0.toNat (BN s o),by rw[lG];exact a.eq⟩,le.trans k,rfl,H _ rfl rfl rfl⟩
  ·rintro i z w ⟨E,H⟩ hge;subst E;refine AW (by rw[m];exact decide_eq_false (kX.2 hge))<|AO (kB rfl H)
 ·rintro _ h2 ⟨ψ1,v1,Y,rfl,f⟩;refine Am q1<|Av (λ(z:Int×Unit) w (g:List Aa)=>∃(ψ:AD) (a:OI),Sub ψ1 ψ∧a.ss=g∧St ψ (OJ c a++F) w) (g:=a') ?_ ?_
  ·refine Cp hd (λi (z:Int×Unit) w g=>z.1=i∧ ∃(ψ:AD) (a:OI),Sub ψ1 ψ∧a.ss=g∧St ψ (OJ c a++F) w) ((0:Int),()) rfl ⟨rfl,ψ1,v1,kU _,rfl,f⟩ ?_ ?_
   ·rintro i z w g e ⟨E,ψ,a,Z,G,st⟩ d h0 hlt hw;have le:=Y.trans Z;subst E;subst G;refine Ai (by rw[m];exact decide_eq_true hlt) ?_;have⟨y,hy,d⟩:=bD.1 d;obtain⟨A1,a8,I,J,r1,K⟩:=(kt.mono le).get hy;refine AF _ I (Am J ?_);obtain rfl:=r1;refine AL (x:=y) (Aq st.sub (K 0 _ rfl)) rfl ?_;have⟨s,hs,d⟩:=bD.1 d;obtain⟨s',b6,d⟩:=bD.1 d;obtain⟨_,L,p,hp,M⟩:=JR a.eq hs;have⟨g0,r⟩:=Io st;refine AA (b:=c) (j:=0) (x:=a.o) r rfl<|AA (b:=c) (j:=0) (x:=a.o) r rfl ?_;obtain⟨A0,b1,N,O,r0,P⟩:=(k0.mono le).get D;refine AF _ N (Am O ?_);obtain rfl:=r0;refine AL (x:=l0) (Aq st.sub (P 0 _ rfl)) rfl ?_;have⟨A2,b2,Q,R,r2,S⟩:=lF (r.at1) M;refine AF _ Q (Am R ?_);obtain rfl:=r2;refine AL (x:=p) (S 0 _ rfl) rfl ?_;obtain⟨rr,b7,d1⟩:=E0 hp L;obtain⟨B,hB⟩:∃B:List Chk,B= [⟨kO 140,[.pointer (jX c)],[.slice a.o.1 a.o.2.1 a.o.2.2]⟩,⟨kT 189 mI,[.slice a.o.1 a.o.2.1 a.o.2.2],a.ps⟩]:=⟨_,rfl⟩;have T:St ψ (B++(AV a.ps a.ss++F)) w:=by rw[hB];exact r
    have mv:(B++(AV a.ps a.ss++F)).Perm (Bc p s::(B++(rr++F))):=(kV B (hA F b7)).trans kJ;refine AE (MQ (T.perm mv) b6) ?_;rintro _ h3 ⟨A,n,V,k,rfl,rfl,b8⟩;refine⟨n,rfl,?_⟩;have a0:St A (Bc n V::(B++(AV a.ps a.ss++F))) h3:=b8.perm (kF _ mv.symm);have U:St A (⟨kO 140,[.pointer (jX c)],[.slice a.o.1 a.o.2.1 a.o.2.2]⟩::⟨kT 189 mI,[.slice a.o.1 a.o.2.1 a.o.2.2],a.ps⟩::Bc n V::(AV a.ps a.ss++F)) h3:=by
     rw[hB]at a0;exact a0.perm ((kK _ _ _).trans (kF _ (kK _ _ _)))
    refine AI (U.cell rfl) ?_;obtain⟨y0,y1,rfl⟩:=Eb d;have b9:y.toNat<a.ps.length:=by have:=a.eq;omega
    have C:Ea a.ps y n=some (a.ps.set y.toNat n):=by unfold Ea;rw[if_pos ⟨y0,by have:=a.eq;omega⟩]
    have⟨A4,a2,q4⟩:=mQ (U.at1) C;refine AF _ a2 (Am q4 (Jq (U.at1) C (v:=.pointer n) rfl a2 ?_));intro h4 c0;have c3:a.ps[y.toNat]? =some a.ps[y.toNat]:=kH b9;have c4:a.ss[y.toNat]? =some (a.ss[y.toNat]'(by have:=a.eq;omega)):=kH _;have⟨r3,c1,c2⟩:=JQ c3 c4;refine jZ rfl rfl ⟨hw,A,⟨a.o,a.ps.set y.toNat n,a.ss.set y.toNat V,by rw[lG,lG];exact a.eq⟩,Z.trans k,rfl,?_⟩;refine Qu (g0.mono k) ?_;have c5:St A (Bc n V::(AV a.ps a.ss++(⟨kO 140,[.pointer (jX c)],[.slice a.o.1 a.o.2.1 a.o.2.2]⟩::⟨kT 189 mI,[.slice a.o.1 a.o.2.1 a.o.2.2],a.ps.set y.toNat n⟩::F))) h4:=by
     refine c0.perm<|((kF _ (kK _ _ _)).trans (kK _ _ _)).trans (kF _ ?_);refine(lH ?_ (kJ (l₁:=AV a.ps a.ss)).symm);refine(lH (kK _ _ _) (kF _ ?_));exact(kJ (l₁:=AV a.ps a.ss)).symm
    have c6:=c5.perm (kF _ (hA _ c1));have a3:=(c6.at 1).tail;have a4:=a3.perm (((hA _ (c2 n V)).symm:(Bc n V::r3++_).Perm _));refine a4.perm<|(kJ (l₁:=AV _ _)).trans (kF _ (kJ (l₁:=AV _ _)))
   ·rintro i z w ⟨E,H⟩ hge;subst E;refine AW (by rw[m];exact decide_eq_false (kX.2 hge))<|AO (kB rfl H)
  ·rintro _ h3 ⟨A,v2,k,a5,T⟩;exact AB ⟨rfl,A,v2,(a7.trans Y).trans k,a5,T⟩
end
theorem St.box {φ:AD}{h:AH}{Γ:List Chk}{ty:TypeId}{b:Nat}{v:mS}(H:St φ (⟨kO ty,[.pointer (jX b)],[v]⟩::Γ) h):∃ψ,Sub φ ψ∧EN ψ ⟨b,0,none⟩=some v∧St ψ Γ h:=by
 obtain⟨ψ,F,le,⟨f,e,a,c⟩,d,s⟩:=St.hide H;cases e;refine⟨ψ,le,?_,s⟩
 have:=d b ((c b).2 rfl)
 unfold EN;dsimp only;rw[this,a];rfl
noncomputable def eF (n vp:mS) (a:Option mT) (b c:Nat) (f:Int):T:=iP #[(.slice a b c)] 129 λo=>iP #[(.int .i64 f)] 3 λg=>iP #[n] 161 λp=>iP #[vp] 184 λq=>jA g 0 λt5=>T.sem (Instr.makeSlice 30 (.int .i64 t5) (.int .i64 t5)) (.one aS) λt6=>iP #[(.slice none 0 0)] 30 λh=>iX h 0 (.slice t6.1 t6.2.1 t6.2.2)<|iP #[(.slice none 0 0)] 30 λr=>iP #[.nilFunc] 88 λi=>iX i 0 (.func (.func 150) #[] #[(.pointer (jX r)),(.pointer (jX h)),(.pointer (jX o)),(.pointer (jX g)),(.pointer (jX i)),(.pointer (jX p)),(.pointer (jX q))])<|jA g 0 λj=>T.block 0 [aI] (T.loop [aI] [(.int .i64 0)] λd=>cond (decide (d.1<j)) (iN h 0 λe=>deref e.1 λk=>chk (0≤d.1∧d.1< (e.2.1:Nat))<|iW k d.1 1 λl=>T.join [] (cond (l==(0:Int)) (T.load .func ⟨i,0,none⟩ λm=>Hy false bO (BP.val .func m) #[(.int .i64 d.1)] λs=>T.out []) (T.out [])) λt=>T.out [(.int .i64 (mG .i64 (d.1+(1:Int))))]) (T.brk 0 [(.int .i64 d.1)])) λu=>T.ret (.tuple #[])
theorem gU:R9 bO 30 3 (.int .i64 0):=⟨underlying30,⟨t3,by kernel_rfl,rfl,⟨_,rfl,rfl⟩,by decide⟩⟩
section
variable {X A:Type}(K:X→List Chk) (al:X→A) (ledA:A→Int→Int→Option A) (partA:A→List Int→Option A) (gl gp:Nat) (bl bp:Array mS)
theorem Zo {φ:AD}{h:AH}{F:List Chk}{ll:List (List Int)}{n:Int}{t:Slc}{fuel:Nat}{v:X}{q:Dx A}(hl:Zj K al ledA gl bl) (hp:V7 K al partA gp bp) (cl:FJ gl) (cp:FJ gp)
 (D:AT bO f119 [.slice t.1 t.2.1 t.2.2,.int .i64 n,.func (.func gl) #[] bl,.func (.func gp) #[] bp] =eF (.func (.func gl) #[] bl) (.func (.func gp) #[] bp) t.1 t.2.1 t.2.2 n)
 (k:hC (lQ (kI .i64)) φ t ll) (hd:SF ll n ledA partA fuel (al v)=some q) (s0:St φ (K v++F) h):
 CallsH bO 119 [.slice t.1 t.2.1 t.2.2,.int .i64 n,.func (.func gl) #[] bl,.func (.func gp) #[] bp] h (Ae λu h'=>u= .tuple #[] ∧ ∃(ψ:AD) (C:X),Sub φ ψ∧al C=q.2.2∧St ψ (K C++F) h'):=by
 refine BF mixed func119 ?_;rw[D];unfold eF;unfold SF at hd;obtain⟨⟨N,O⟩,hd⟩:=CQ hd;refine AU (vs:=[.slice t.1 t.2.1 t.2.2]) s0 ?_;intro P h1 s1;have⟨φ1,Q,c1,s1⟩:=St.box s1;refine AU (vs:=[.int .i64 n]) s1 ?_;intro R h2 S;have⟨φ2,f,c2,S⟩:=St.box S;refine AU (vs:=[.func (.func gl) #[] bl]) S ?_;intro T h3 U;have⟨φ3,m,c3,U⟩:=St.box U;refine AU (vs:=[.func (.func gp) #[] bp]) U ?_;intro V h4 L;have⟨φ4,a,c4,L⟩:=St.box L;refine AL (x:=n) (Aq L.sub (Aq (m.trans a) c2)) rfl<|Kk (r:=kI .i64) (x:=(0:Int)) (l:=lJ n.toNat 0) gU L rfl rfl (by unfold GW;rw[if_pos ⟨N,O⟩]) ?_;intro o h5 s5;refine AU (vs:=[.slice none 0 0]) s5 ?_;intro p h6 s6;refine Cj (b:=p) (j:=0) (v:=.slice o.1 o.2.1 o.2.2) s6 rfl (kW 0) ?_;intro h7 s7;refine AU (vs:=[.slice none 0 0]) s7 ?_;intro s h8 s8;refine AU (vs:=[.nilFunc]) s8 ?_;intro M h9 s9;refine Cj (b:=M) (j:=0) (v:=.func (.func 150) #[] (HS s p P R M T V)) s9 rfl (kW 0) ?_;intro W Y;have⟨y,c,c9,Z⟩:=St.box Y;have B:Qt gl gp bl bp y t n s p P R M T V:=⟨Aq (((f.trans m).trans a).trans c) c1,Aq ((m.trans a).trans c) c2,c9,Aq (a.trans c) c3,Aq c c4⟩;have E:Sub φ y:=(((Q.trans f).trans m).trans a).trans c;have G:St y (He s p (none,0,0) o [] (lJ n.toNat 0) ++(K v++F)) W:=by
  have:=mR 3 (kI .i64) Z
  exact this.at1
 refine AL (x:=n) (Aq G.sub B.num) rfl<|Av (λ(z:Int×Unit) w g=>SI K al s p o F y w g) (g:=q) ?_ ?_
 ·refine Cp hd (λi (z:Int×Unit) w g=>z.1=i∧SI K al s p o F y w g) ((0:Int),()) rfl ⟨rfl,y,v,(none,0,0),kU _,rfl,G⟩ ?_ ?_
  ·rintro i z w g e ⟨hz,ψ,C,I,le,d,st⟩ he h0 hlt hw;subst hz;refine Ai (decide_eq_true hlt) ?_;have⟨e0,a0,he⟩:=bD.1 he;refine AA (b:=p) (j:=0) (x:=o) st.at2 rfl ?_;have⟨A2,a6,a1,a2,q2,a3⟩:=lF (st.at3) a0;refine AF _ a1 (Am a2 ?_);obtain rfl:=q2;refine AL (x:=e0) (a3 0 _ rfl) rfl<|Ad (λ(_:Unit) w g=>SI K al s p o F y w g) (g:=e) ?_ ?_
   ·refine kD he rfl (λhg=>?_) (λhg=>?_)
    ·refine AL (x:=some (.func 150,#[],HS s p P R M T V)) (Aq st.sub (Aq le B.visit)) rfl ?_;obtain⟨a7,a8,a9⟩:=e;obtain⟨b0,b1,b2⟩:=g;dsimp only at d;subst d;refine FJ.call Ul (Um K al ledA partA gl gp bl bp hl hp cl cp fuel (Qt.mono gl gp bl bp B le) (k.mono (E.trans le)) hg st) ?_ (λ_ _ hS=>hS.1);rintro h6 ⟨_,ψ2,v2,a4,f,J,a5⟩;exact jY rfl ⟨ψ2,v2,a4,le.trans f,J,a5⟩
    ·obtain rfl:=Option.some.inj hg;exact jY rfl ⟨ψ,C,I,le,d,st⟩
   ·rintro _ h6 H;exact jZ rfl rfl ⟨hw,H⟩
  ·rintro i z w ⟨hz,H⟩ hge;subst hz;refine AW (decide_eq_false (kX.2 hge))<|AO (kB rfl H)
 ·rintro z b3 ⟨ψ,C,I,le,d,st⟩;exact AB ⟨rfl,ψ,C,E.trans le,d,st.tail.tail.tail.tail⟩
end
theorem Zp:FJ 118:=⟨f118,func118,by decide,by kernel_rfl,by kernel_rfl⟩
theorem Zq:FJ 120:=⟨f120,func120,by decide,by kernel_rfl,by kernel_rfl⟩
theorem YK {φ:AD}{h:AH}{F:List Chk}{ll:List (List Int)}{n:Int}{t:Slc}{fuel:Nat}{c:Nat}{v:OI}{a:Dx (List Aa)}(k:hC (lQ (kI .i64)) φ t ll) (hd:SF ll n Qv Pq fuel v.ss=some a) (b:St φ (OJ c v++F) h):
 CallsH bO 119 [.slice t.1 t.2.1 t.2.2,.int .i64 n,.func (.func 118) #[] #[.pointer (jX c)],.func (.func 120) #[] #[.pointer (jX c)]] h (Ae λu d=>u= .tuple #[] ∧ ∃(ψ:AD) (v':OI),Sub φ ψ∧v'.ss=a.2.2∧St ψ (OJ c v'++F) d):=
 Zo (OJ c) OI.ss Qv Pq 118 120 #[.pointer (jX c)] #[.pointer (jX c)] (λhd s=>V9 hd s) (λhd s=>WA hd s) Zp Zq (NO _ _ _ _ _ _) k hd b
end Go.Proofs.YtnlkgidlfnefbaaGreatDoor.Dg
namespace Go.Proofs.YtnlkgidlfnefbaaGreatDoor
open Go Go.Eng
noncomputable def NT (s_0:C9):Option Int:=some (s_0.1)
theorem Ge {φ:AD}{h:AH}{F:List Chk}{c:Option mT}{a:C9}(f:St φ (cO 229 Em c a::F) h) {r:Int}(hd:NT a=some r):
 CallsH bO 116 [(.pointer c)] h (Ae λv g=>∃ψ:AD,∃y:Int,Sub φ ψ∧v=((.one aI):Sh).val y∧y=r∧St ψ (cO 229 Em c a::F) g):=by refine AN mixed func116 (K6 ..) ?_;obtain⟨d,e,rfl,b⟩:=N3 f;refine AF _ rfl<|AA (x:=(a.1)) b.at1 rfl ?_;exact AB ⟨φ,a.1,sb,rfl,iS hd,(JD (x0:=(a.1)) b.at1.at1)⟩
end Go.Proofs.YtnlkgidlfnefbaaGreatDoor
namespace Go.Proofs.YtnlkgidlfnefbaaGreatDoor.Dg
open Go Go.Eng
section
variable {φ:AD}{h:AH}{F:List Chk}
theorem SK:GU bO 140 140 189 1:=⟨lX,.inl lX,⟨t189,by kernel_rfl,rfl,⟨_,rfl,rfl⟩,by decide,by decide⟩,by decide⟩
theorem XB:GU bO 129 129 30 1:=⟨lY,.inl lY,⟨t30,by kernel_rfl,rfl,⟨_,rfl,rfl⟩,by decide,by decide⟩,by decide⟩
abbrev FW (t:Slc) (ps:List (Option mT)):Chk:=⟨kT 189 mI,[.slice t.1 t.2.1 t.2.2],ps⟩
abbrev WB (t:Slc) (ls:List (List Int)):Chk:=⟨kT 30 (lQ (kI .i64)),[.slice t.1 t.2.1 t.2.2],ls⟩
theorem OK {α β:Type}{l l':List α}{x:α}(h:app l [x] =some l') {m:List β}(c:m.length=l.length) (y:β):app m [y] =some (m++ [y])∧l'=l++ [x]:=by have⟨a,b⟩:=QX h;refine⟨?_,b⟩;unfold app;simp at a ⊢;omega
theorem Qw {ps:List (Option mT)}{ss:List Aa}{t:Slc}{p:Option mT}{s:Aa}(a:ps.length=ss.length) (H:St φ (FW t (ps++ [p])::Bc p s::(AV ps ss++F)) h):St φ (FW t (ps++ [p])::(AV (ps++ [p]) (ss++ [s]) ++F)) h:=by rw[Ls a,eE];exact H.perm (kF _ (kJ (l₁:=AV ps ss)).symm)
theorem Hf {ps:List (Option mT)}{ss:List Aa}{i:Nat}{p:Option mT}{s:Aa}(b:ps[i]? =some p) (c:ss[i]? =some s) (H:St φ (AV ps ss++F) h):
 ∃r,St φ (Bc p s::(r++F)) h∧ ∀(ψ:AD) (h':AH) (Γ:List Chk),St ψ (Γ++Bc p s::(r++F)) h'→St ψ (Γ++(AV ps ss++F)) h':=by have⟨r,a,_⟩:=E0 b c;exact⟨r,H.perm (hA F a),λψ h' Γ H'=>H'.perm (kV Γ (hA F a).symm)⟩
theorem eG (A B C:List Chk):(A++(B++C)).Perm (B++(A++C)):=by rw[←eE,←eE];exact hA _ hM
theorem OL {p:Option mT}{s:Aa}(c:Glob φ) (d:St φ (Bc p s::F) h) {r:List Int}(hd:Ju s=some r):
 CallsH bO 117 [.pointer p] h (Ae λv b=>∃(ψ:AD) (y:Slc),Sub φ ψ∧v=((.one aS):Sh).val y∧hC (kI .i64) ψ y r∧St ψ (Bc p s::F) b):=by refine(Ze c d hd).mono ?_;rintro e b ⟨v,rfl,ψ,y,l,le,rfl,rfl,s1⟩;obtain⟨f,a,g,i⟩:=s1.freezeRow;exact⟨_,rfl,f,y,le.trans a,rfl,g,i⟩
noncomputable def IT (ll:List (List Int)) (B:List Aa):Option (List Aa):=(forS 0 (B.length:Int) 0 λi w=>(idx B i).bind λs=>some (if s.1>w then s.1 else w)).bind λwide=>(forS 0 (B.length:Int) ([]:List Aa) λi b=>(idx B i).bind λs=>(Ju s).bind λl=>(DM wide l).bind λs'=>app b [s']).bind λall=>(SF ll (B.length:Int) Qv Pq B.length all).bind λst=>forS 0 (B.length:Int) ([]:List Aa) λi b=>(idx B i).bind λs=>(idx st.2.2 i).bind λa=>(Ju a).bind λl=>(DM s.1 l).bind λs'=>app b [s']
theorem SL {t b:Slc}{ll:List (List Int)}{B:List Aa}{ps:List (Option mT)}(gk:Glob φ) (k:hC (lQ (kI .i64)) φ t ll) (kb:hC mI φ b ps) (hl:ps.length=B.length) (s0:St φ (AV ps B++F) h) {r:List Aa}(hd:IT ll B=some r):
 CallsH bO 70 [.slice t.1 t.2.1 t.2.2,.slice b.1 b.2.1 b.2.2] h (Ae λv h'=>∃(ψ:AD) (y:Slc) (qs:List (Option mT)),Sub φ ψ∧v=((.one aS):Sh).val y∧qs.length=r.length∧St ψ (FW y qs::(AV qs r++(AV ps B++F))) h'):=by
 refine BF mixed func70 ?_;rw[N9];unfold Jt;unfold IT at hd;have⟨wide,c2,a9⟩:=bD.1 hd;clear hd;have⟨all,a1,b0⟩:=bD.1 a9;clear a9;obtain⟨m,b1,c3⟩:=bD.1 b0;clear b0;have nb:b.2.1=B.length:=kb.length.trans hl;refine Av (λ(z:Int×Int×Unit) w (g:Int)=>z.2.1=g∧ ∃ψ,Sub φ ψ∧St ψ (AV ps B++F) w) (g:=wide) ?_ ?_
 ·refine Cp c2 (λi (z:Int×Int×Unit) w (g:Int)=>z.1=i∧z.2.1=g∧ ∃ψ,Sub φ ψ∧St ψ (AV ps B++F) w) ((0:Int),(0:Int),()) rfl ⟨rfl,rfl,φ,kU _,s0⟩ ?_ ?_
  ·rintro i z w g e ⟨G,hg,ψ,le,st⟩ n h0 hlt hw;subst G;subst hg;refine Ai (by rw[nb];exact decide_eq_true hlt) ?_;have⟨s,hs,n⟩:=bD.1 n;obtain rfl:=Option.some.inj n;obtain⟨_,I,p,hp,J⟩:=JR hl hs;obtain⟨A1,b2,K,N,r1,O⟩:=(kb.mono le).get J;refine AF _ K (Am N ?_);obtain rfl:=r1;refine AL (x:=p) (Aq st.sub (O 0 _ rfl)) rfl ?_;have⟨rr,q1,q2⟩:=Hf hp I st;refine AE (Ge q1 (r:=s.1) rfl) ?_;rintro _ Z ⟨ψ1,y,a2,rfl,rfl,C⟩;refine⟨s.1,rfl,?_⟩;exact jZ rfl rfl ⟨hw,rfl,ψ1,le.trans a2,q2 ψ1 Z [] C⟩
  ·rintro i z w ⟨G,H⟩ hge;subst G;refine AW (by rw[nb];exact decide_eq_false (kX.2 hge))<|AO (kB rfl H)
 ·rintro z1 Z ⟨rfl,ψ1,a2,s1⟩;refine AU (vs:=[.slice none 0 0]) s1 ?_;intro u P s2;refine Av (λ(z:Int×Unit) w (g:List Aa)=>∃(ψ:AD) (o:Slc) (qs:List (Option mT)),Sub φ ψ∧qs.length=g.length∧St ψ (⟨kO 140,[.pointer (jX u)],[.slice o.1 o.2.1 o.2.2]⟩::FW o qs::(AV qs g++(AV ps B++F))) w) (g:=all) ?_ ?_
  ·refine Cp a1 (λi (z:Int×Unit) w (g:List Aa)=>z.1=i∧ ∃(ψ:AD) (o:Slc) (qs:List (Option mT)),Sub φ ψ∧qs.length=g.length∧St ψ (⟨kO 140,[.pointer (jX u)],[.slice o.1 o.2.1 o.2.2]⟩::FW o qs::(AV qs g++(AV ps B++F))) w) ((0:Int),()) rfl ⟨rfl,ψ1,(none,0,0),[],a2,rfl,(mR 189 mI s2).at1⟩ ?_ ?_
   ·rintro i z w g e ⟨G,ψ,o,qs,le,D,st⟩ n h0 hlt hw;subst G;refine Ai (by rw[nb];exact decide_eq_true hlt) ?_;have⟨s,hs,n⟩:=bD.1 n;have⟨l,a3,n⟩:=bD.1 n;obtain⟨s',a4,n⟩:=bD.1 n;obtain⟨_,I,p,hp,J⟩:=JR hl hs;obtain⟨A1,b2,K,N,r1,O⟩:=(kb.mono le).get J;refine AF _ K (Am N ?_);obtain rfl:=r1;refine AL (x:=p) (Aq st.sub (O 0 _ rfl)) rfl<|AA (b:=u) (j:=0) (x:=o) st rfl ?_;obtain⟨Γ,hΓ⟩:∃Γ:List Chk,Γ=(⟨kO 140,[.pointer (jX u)],[.slice o.1 o.2.1 o.2.2]⟩::FW o qs::AV qs g):=⟨_,rfl⟩;have C:St ψ (AV ps B++(Γ++F)) w:=by
     have:St ψ (Γ++(AV ps B++F)) w:=by rw[hΓ];exact st
     refine this.perm ?_;rw[←eE,←eE];exact hA F hM
    have⟨rr,q1,q2⟩:=Hf hp I C;refine AE (OL (gk.mono le) q1 a3) ?_;rintro _ h3 ⟨ψ2,y,Q,rfl,k2,a5⟩;refine⟨y,rfl,?_⟩;have back:∀ {ψ:AD} {h':AH} (Δ:List Chk),St ψ (Δ++(AV ps B++(Γ++F))) h'→St ψ (⟨kO 140,[.pointer (jX u)],[.slice o.1 o.2.1 o.2.2]⟩::FW o qs::(Δ++(AV qs g++(AV ps B++F)))) h':=λ{ψ h'} Δ H=>by
     rw[hΓ]at H;refine H.perm<|lH (l₂:=Δ++((⟨kO 140,[.pointer (jX u)],[.slice o.1 o.2.1 o.2.2]⟩::FW o qs::AV qs g) ++(AV ps B++F))) (kV Δ ?_) ?_
     ·rw[←eE,←eE];exact hA _ hM
     ·exact(kJ (l₁:=Δ)).trans (kF _ (kJ (l₁:=Δ)))
    have W:=back [] (q2 ψ2 h3 [] a5);refine AI (W.cell rfl)<|AE (Ez k2 W a4) ?_;rintro _ h4 ⟨ψ3,R,l3,a6,rfl,rfl,E⟩;refine⟨R,rfl,?_⟩;refine AI (E.at1.cell rfl)<|AU (vs:=[.pointer R]) E ?_;intro d4 S T;have cw:=mM T;refine AI (T.at2.cell rfl) ?_;obtain⟨a7,rfl⟩:=OK n D R;refine AZ (r:=mI) (ms:=[R]) SK (T.tail.at2) rfl cw (.cons (a:=[_]) rfl .nil) rfl a7 ?_;intro X h6 a8;refine Cj (b:=u) (j:=0) (v:=.slice X.1 X.2.1 X.2.2) (a8.at2) rfl (kW 0) ?_;intro h7 Y;exact jZ rfl rfl ⟨hw,ψ3,X,qs++ [R],(le.trans Q).trans a6,by simp[D],(Qw D (Y.tail) |>λH=>by
     rw[Ls D,eE];refine Y.perm (kF _ (kF _ ?_));exact(kJ (l₁:=AV qs g)).symm)⟩
   ·rintro i z w ⟨G,H⟩ hge;subst G;refine AW (by rw[nb];exact decide_eq_false (kX.2 hge))<|AO (kB rfl H)
  ·rintro z7 h3 ⟨ψ2,o,qs,Q,D,s3⟩;rw[←nb]at b1;have s4:St ψ2 (OJ u ⟨o,qs,all,D⟩ ++(AV ps B++F)) h3:=Qu (gk.mono Q) s3;refine AE (YK (v:=⟨o,qs,all,D⟩) (k.mono Q) b1 s4) ?_;rintro _ h4 ⟨rfl,ψ3,v',a6,b3,s5⟩;refine⟨(),rfl,?_⟩;obtain⟨f,d,d3,b4⟩:=v';dsimp only at b3 s5;subst b3;have⟨c4,s6⟩:=Io s5;have a0:=Q.trans a6;refine Av (λ(z:Int×Slc×Unit) w (g:List Aa)=>∃(ψ:AD) (A:List (Option mT)),Sub ψ3 ψ∧A.length=g.length∧St ψ (FW z.2.1 A::(AV A g++(⟨kO 140,[.pointer (jX u)],[.slice f.1 f.2.1 f.2.2]⟩::FW f d::(AV d m.2.2++(AV ps B++F))))) w) (g:=r) ?_ ?_
   ·refine Cp c3 (λi (z:Int×Slc×Unit) w (g:List Aa)=>z.1=i∧ ∃(ψ:AD) (A:List (Option mT)),Sub ψ3 ψ∧A.length=g.length∧St ψ (FW z.2.1 A::(AV A g++(⟨kO 140,[.pointer (jX u)],[.slice f.1 f.2.1 f.2.2]⟩::FW f d::(AV d m.2.2++(AV ps B++F))))) w) ((0:Int),((none,0,0):Slc),()) rfl ⟨rfl,ψ3,[],kU _,rfl,mR _ _ s6⟩ ?_ ?_
    ·rintro i z w g e ⟨G,ψ,A,le,U,st⟩ n h0 hlt hw;subst G;refine Ai (by rw[nb];exact decide_eq_true hlt) ?_;have⟨s,hs,n⟩:=bD.1 n;have⟨a,ha,n⟩:=bD.1 n;have⟨l,a3,n⟩:=bD.1 n;obtain⟨s',a4,n⟩:=bD.1 n;obtain⟨_,I,p,hp,J⟩:=JR hl hs;obtain⟨_,a1,q,hq,b5⟩:=JR b4 ha;obtain⟨A1,b2,K,N,r1,O⟩:=(kb.mono (a0.trans le)).get J;refine AF _ K (Am N ?_);obtain rfl:=r1;refine AL (x:=p) (Aq st.sub (O 0 _ rfl)) rfl ?_;obtain⟨X1,V⟩:∃X1:List Chk,X1=FW z.2.1 A::AV A g:=⟨_,rfl⟩;have C:St ψ (⟨kO 140,[.pointer (jX u)],[.slice f.1 f.2.1 f.2.2]⟩::FW f d::(AV d m.2.2++(AV ps B++(F++X1)))) w:=by
      have:St ψ (X1++(⟨kO 140,[.pointer (jX u)],[.slice f.1 f.2.1 f.2.2]⟩::FW f d::(AV d m.2.2++(AV ps B++F)))) w:=by rw[V];exact st
      have P:=this.perm hM;simp only[lB,eE]at P;exact P
     refine AA (b:=u) (j:=0) (x:=f) C rfl ?_;have⟨A2,d5,b6,c5,r2,c6⟩:=lF (C.at1) b5;refine AF _ b6 (Am c5 ?_);obtain rfl:=r2;refine AL (x:=q) (c6 0 _ rfl) rfl ?_;obtain⟨Y1,b7⟩:∃Y1:List Chk,Y1=(⟨kO 140,[.pointer (jX u)],[.slice f.1 f.2.1 f.2.2]⟩::FW f d::AV d m.2.2):=⟨_,rfl⟩;have a5:St ψ (AV ps B++(Y1++(F++X1))) w:=by
      have:St ψ (Y1++(AV ps B++(F++X1))) w:=by rw[b7];exact C
      exact this.perm (eG _ _ _)
     have⟨rr,q1,q2⟩:=Hf hp I a5;refine AE (Ge q1 (r:=s.1) rfl) ?_;rintro _ S ⟨ψ4,y4,b8,rfl,rfl,W⟩;refine⟨s.1,rfl,?_⟩;have E:St ψ4 (⟨kO 140,[.pointer (jX u)],[.slice f.1 f.2.1 f.2.2]⟩::FW f d::(AV d m.2.2++(AV ps B++(F++X1)))) S:=by
      have Z:=q2 ψ4 S [] W;have P:St ψ4 (Y1++(AV ps B++(F++X1))) S:=by
       exact St.perm Z (eG (AV ps B) Y1 (F++X1))
      rw[b7]at P;exact P
     obtain⟨A3,d6,c7,d7,rfl,c8⟩:=lF (E.at1) b5;have c9:A3=A2:=Option.some.inj (c7.symm.trans b6);subst c9;refine AI (c8 0 _ rfl) (AI (E.cell rfl) ?_);obtain⟨Z1,b9⟩:∃Z1:List Chk,Z1= [(⟨kO 140,[.pointer (jX u)],[.slice f.1 f.2.1 f.2.2]⟩:Chk),FW f d]:=⟨_,rfl⟩;have T:St ψ4 (AV d m.2.2++(Z1++(AV ps B++(F++X1)))) S:=by
      have:St ψ4 (Z1++(AV d m.2.2++(AV ps B++(F++X1)))) S:=by rw[b9];exact E
      refine this.perm ?_;rw[←eE,←eE (AV d m.2.2)];exact hA _ hM
     have⟨d8,w1,w2⟩:=Hf hq a1 T;refine AE (OL (c4.mono (le.trans b8)) w1 a3) ?_;rintro _ h6 ⟨ψ5,y5,d0,rfl,k5,a8⟩;refine⟨y5,rfl,?_⟩;have Y:St ψ5 (FW z.2.1 A::(AV A g++(⟨kO 140,[.pointer (jX u)],[.slice f.1 f.2.1 f.2.2]⟩::FW f d::(AV d m.2.2++(AV ps B++F))))) h6:=by
      have Z:=w2 ψ5 h6 [] a8;have P:St ψ5 (X1++(Z1++(AV d m.2.2++(AV ps B++F)))) h6:=by
       refine St.perm Z ?_;show(AV d m.2.2++(Z1++(AV ps B++(F++X1)))).Perm _;refine lH ?_ (hM (l₁:=Z1++(AV d m.2.2++(AV ps B++F))) (l₂:=X1));simp only[eE];rw[←eE,←eE Z1];exact hA _ hM
      rw[V,b9]at P;exact P
     refine AE (Ez k5 Y a4) ?_;rintro _ h7 ⟨ψ6,R,l3,d1,rfl,rfl,d2⟩;refine⟨R,rfl,?_⟩;refine AU (vs:=[.pointer R]) d2 ?_;intro d9 h8 c0;have cw:=mM c0;obtain⟨a7,rfl⟩:=OK n U R;refine AZ (r:=mI) (ms:=[R]) SK (c0.tail.at1) rfl cw (.cons (a:=[_]) rfl .nil) rfl a7 ?_;intro e0 h9 c1;exact jZ rfl rfl ⟨hw,ψ6,A++ [R],((le.trans b8).trans d0).trans d1,by simp[U],Qw U c1⟩
    ·rintro i z w ⟨G,H⟩ hge;subst G;refine AW (by rw[nb];exact decide_eq_false (kX.2 hge))<|AO (kB rfl H)
   ·rintro z S ⟨ψ,A,le,U,st⟩;refine AB ⟨ψ,z.2.1,A,a0.trans le,rfl,U,?_⟩;obtain⟨X1,V⟩:∃X1:List Chk,X1=FW z.2.1 A::AV A r:=⟨_,rfl⟩;have Z:St ψ (X1++(⟨kO 140,[.pointer (jX u)],[.slice f.1 f.2.1 f.2.2]⟩::FW f d::(AV d m.2.2++(AV ps B++F)))) S:=by rw[V];exact st
    have P:=(Z.perm (hM)).tail.tail;have h3:St ψ (AV d m.2.2++((AV ps B++F) ++X1)) S:=by rw[←eE];exact P
    have h4:∀(L:List Chk) {M:List Chk},St ψ (L++M) S→St ψ M S:=λL=>by
     induction L with
     |nil=>intro M H;exact H
     |cons c L ih=>intro M H;exact ih H.tail
    have h6:=(h4 _ h3).perm hM;rw[V]at h6;exact h6
end
end Go.Proofs.YtnlkgidlfnefbaaGreatDoor.Dg
namespace Go.Proofs.YtnlkgidlfnefbaaGreatDoor
open Go Go.Shelf Go.Proofs
def Er:Ren:=⟨λx=>bif kG x 129 then 168 else bif kG x 176 then 95 else bif kG x 249 then 135 else bif kG x 283 then 188 else bif kG x 284 then 189 else bif kG x 285 then 190 else bif kG x 286 then 191 else bif kG x 288 then 158 else bif kG x 317 then 200 else bif kG x 318 then 201 else bif kG x 319 then 202 else bif kG x 320 then 203 else bif kG x 337 then 206 else bif kG x 338 then 180 else 0,λx=>bif kG x 0 then 0 else bif kG x 2 then 2 else bif kG x 3 then 3 else bif kG x 4 then 4 else bif kG x 5 then 5 else bif kG x 9 then 9 else bif kG x 20 then 20 else bif kG x 37 then 22 else bif kG x 46 then 221 else bif kG x 51 then 250 else bif kG x 53 then 226 else bif kG x 171 then 263 else bif kG x 173 then 265 else bif kG x 212 then 277 else bif kG x 213 then 278 else bif kG x 232 then 283 else bif kG x 233 then 275 else 0,λx=>bif kG x 17 then 1 else bif kG x 18 then 2 else bif kG x 19 then 0 else 0⟩
theorem cb:Lays.n176 bO Er where
 mixed:=by kernel_rfl
 f129:=(func168).trans (congrArg some (show f168=Body.n129 Er by kernel_rfl))
 f176:=(func95).trans (congrArg some (show f95=Body.n176 Er by kernel_rfl))
 f249:=(func135).trans (congrArg some (show f135=Body.n249 Er by kernel_rfl))
 f283:=(func188).trans (congrArg some (show f188=Body.n283 Er by kernel_rfl))
 f284:=(func189).trans (congrArg some (show f189=Body.n284 Er by kernel_rfl))
 f285:=(func190).trans (congrArg some (show f190=Body.n285 Er by kernel_rfl))
 f286:=(func191).trans (congrArg some (show f191=Body.n286 Er by kernel_rfl))
 f288:=(func158).trans (congrArg some (show f158=Body.n288 Er by kernel_rfl))
 f317:=(func200).trans (congrArg some (show f200=Body.n317 Er by kernel_rfl))
 f318:=(func201).trans (congrArg some (show f201=Body.n318 Er by kernel_rfl))
 f319:=(func202).trans (congrArg some (show f202=Body.n319 Er by kernel_rfl))
 f320:=(func203).trans (congrArg some (show f203=Body.n320 Er by kernel_rfl))
 f337:=(func206).trans (congrArg some (show f206=Body.n337 Er by kernel_rfl))
 f338:=(func180).trans (congrArg some (show f180=Body.n338 Er by kernel_rfl))
 t0:=underlying0
 a0:=isAgg0
 z0:=sizeOf0
 v0:=zeroValue0
 t2:=underlying2
 a2:=isAgg2
 z2:=sizeOf2
 v2:=zeroValue2
 t3:=underlying3
 a3:=isAgg3
 z3:=sizeOf3
 v3:=zeroValue3
 t4:=underlying4
 a4:=isAgg4
 z4:=sizeOf4
 v4:=zeroValue4
 t5:=kQ
 a5:=isAgg5
 z5:=sizeOf5
 v5:=zeroValue5
 t9:=underlying9
 a9:=isAgg9
 z9:=sizeOf9
 v9:=zeroValue9
 t20:=underlying20
 a20:=isAgg20
 z20:=sizeOf20
 v20:=zeroValue20
 t37:=lA
 a37:=isAgg22
 z37:=sizeOf22
 v37:=zeroValue22
 t46:=underlying221
 a46:=isAgg221
 z46:=sizeOf221
 v46:=zeroValue221
 t51:=underlying250
 a51:=isAgg250
 z51:=sizeOf250
 v51:=zeroValue250
 t53:=lZ
 a53:=isAgg226
 z53:=sizeOf226
 v53:=zeroValue226
 t171:=underlying263
 a171:=isAgg263
 z171:=sizeOf263
 v171:=zeroValue263
 t173:=underlying265
 a173:=isAgg265
 z173:=sizeOf265
 v173:=zeroValue265
 t212:=mA
 a212:=isAgg277
 z212:=sizeOf277
 v212:=zeroValue277
 t213:=underlying278
 a213:=isAgg278
 z213:=sizeOf278
 t232:=underlying283
 a232:=isAgg283
 z232:=sizeOf283
 v232:=zeroValue283
 t233:=mB
 a233:=isAgg275
 z233:=sizeOf275
 v233:=zeroValue275
 g17:=by kernel_rfl
 g18:=by kernel_rfl
 g19:=by kernel_rfl
theorem Zr:LaysM.n176 bO Er:={cb with
 i0:=by kernel_rfl
 i2:=by kernel_rfl
 i3:=by kernel_rfl
 i4:=by kernel_rfl
 i5:=by kernel_rfl
 i9:=by kernel_rfl
 i20:=by kernel_rfl
 i37:=by kernel_rfl
 i46:=by kernel_rfl
 i51:=by kernel_rfl
 i53:=by kernel_rfl
 i171:=by kernel_rfl
 i173:=by kernel_rfl
 i212:=by kernel_rfl
 i232:=by kernel_rfl
 i233:=by kernel_rfl
 m17:=by kernel_rfl
 m18:=by kernel_rfl
 m19:=by kernel_rfl
 }
end Go.Proofs.YtnlkgidlfnefbaaGreatDoor
namespace Go.Proofs.YtnlkgidlfnefbaaGreatDoor
open Go Go.Eng Go.RowKit
def Glob (φ:AD):Prop:= ∃g t f,Tryz.prog.globalNamed "internal/strconv.uint64pow10" =some g∧φ g=some (.cells (Lib.pow10Tab.map fun z=>Value.int .u64 z).toArray t f)
theorem Glob.mono {φ ψ:AD}(H:Glob φ) (a:Sub φ ψ):Glob ψ:=by obtain⟨g,t,f,b,c⟩:=H;exact⟨g,t,f,b,a _ _ c⟩
def Cr (i:Int):List Int:=(Lib.itoa i).map λb=>(b.toNat:Int)
def ET (l:List Int) (i b:Int):Option (List Int):=if b=10∧ -9223372036854775808≤i∧i≤9223372036854775807∧l.length≤1000000 then some (l++Cr i) else none
theorem TO (i:Int):Lib.byteCells (Lib.itoa i)=(Cr i).map (mP .u8).val:=by unfold Lib.byteCells Cr;rw[List.map_map];rfl
class cc (G:List Chk):Prop where
 off:∀c∈G,∀φ h F,Chk.on φ h F c→ ∀k,F k→ ∃o:Obj,h[k]? =some o∧ ∀cs f,o≠.cells cs 5 f
instance iC:cc []:=⟨λc hc=>by cases hc⟩
instance gV {b:Nat}{vs:List mS}{G:List Chk}[H:cc G]:cc (⟨kO 124,[.pointer (jX b)],vs⟩::G):=⟨λc hc φ h F hon k hk=>by
 rcases List.mem_cons.1 hc with rfl | hc
 ·obtain⟨b',e,hb,hF⟩:=hon;have hkb:=(hF k).1 hk;subst hkb;exact⟨_,hb,λcs f e=>by cases e⟩
 ·exact H.off c hc φ h F hon k hk⟩
theorem Uo {φ:AD}{h i:AH}{X X':FE}(a:∀(k:Nat) (o:Obj),h[k]? =some o→(∀cs f,o≠.cells cs 5 f)→i[k]? =some o) (q:∀k,X' k→ ∃cs f,i[k]? =some (.cells cs 5 f)) (r:Sub φ (BZ i)):
 ∀ {G:List Chk} {Y:FE},(∀c∈G,∀φ h F,Chk.on φ h F c→ ∀k,F k→ ∃o:Obj,h[k]? =some o∧ ∀cs f,o≠.cells cs 5 f)→StX φ h G (λk=>X k∨Y k)→StX φ i G (λk=>X' k∨Y k):=by
 intro G
 induction G with
 |nil=>intro Y _ _;exact r
 |cons c G s=>
  intro Y m ⟨F,n,p,H⟩;have d:=m c (by simp) φ h F n;refine⟨F,c.R.loc (λk e=> ?_) n,λk e=>⟨(p k e).1,λg=> ?_⟩,(s (Y:=λk=>Y k∨F k) (λc j=>m c (by simp[j])) (H.less λk a=> ?_)).less λk a=> ?_⟩
  ·have⟨o,l,b⟩:=d k e;rw[l];exact a k o l b
  ·rcases g with g | g
   ·have⟨o,l,b⟩:=d k e;have⟨cs,f,j⟩:=q k g;rw[a k o l b]at j;exact b cs f (Option.some.inj j)
   ·exact(p k e).2 (.inr g)
  ·rcases a with a | a | a
   ·exact .inl (.inl a)
   ·exact .inl (.inr a)
   ·exact .inr a
  ·rcases a with(a | a)|a
   ·exact .inl a
   ·exact .inr (.inl a)
   ·exact .inr (.inr a)
theorem Mw {d h:AH}{G:List Chk}[hG:cc G] {t:Slc}{l:List Int}{i b:Int}(gk:Glob (BZ d)) (s0:St (BZ d) (⟨kT 5 (kI .u8),[.slice t.1 t.2.1 t.2.2],l⟩::G) h) {r:List Int}(hd:ET l i b=some r):
 CallsH bO 95 [(.slice t.1 t.2.1 t.2.2),(.int .i64 i),(.int .i64 b)] h (Ae λv h'=>∃ψ:AD,∃y:Slc,∃l':List Int,Sub (BZ d) ψ∧ψ=BZ d∧v=((.one aS):Sh).val y∧l'=r∧St ψ (⟨kT 5 (kI .u8),[.slice y.1 y.2.1 y.2.2],l'⟩::G) h'):=by
 unfold ET at hd;split at hd
 ·rename_i C
  obtain⟨rfl,K,h2,a3⟩:=C;cases hd;obtain⟨F,⟨p,n,c,vs,e,L,hc,hf,J,ha,hF⟩,hX,H⟩:=s0;have L:l.length=n:=L;have M:vs=l.map (mP .u8).val:=DH ha;simp only[List.cons.injEq,Value.slice.injEq,and_true]at e;obtain⟨e1,e2,e3⟩:=e;rw[e1,e2,e3];have Z:Sub (BZ d) (BZ h):=H.sub;have hB:d.size≤h.size:=by
   rcases Nat.lt_or_ge h.size d.size with g | g
   ·have K:BZ d h.size=some d[h.size]:=lL g
    have:=BC (Z _ _ K)
    omega
   ·exact g
  have N:∀k,k<d.size→(BZ d) k≠none:=λk m g=>by
   have K:BZ d k=some d[k]:=lL m;rw[K]at g;cases g
  have a0:World.ownsRow (D3 h) d.size 5 1 (.slice p n c) n vs:=by
   refine⟨by rw[M,List.length_map,L,Nat.mul_one],?_⟩;rcases J with⟨rfl,rfl,rfl,rfl⟩|⟨b,off,D,rfl,u,U,V,g3,g4⟩
   ·exact .inl ⟨rfl,rfl⟩
   ·have⟨q1,q2⟩:=hf _ _ _ rfl;subst q1;have E:=q2 _ _ _ u;have E:D.size=c *1:=E;have U:vs.length=n *1:=U;refine .inr ⟨b,c,D,rfl,?_,u,V,hc,E,?_⟩
    ·rcases Nat.lt_or_ge b d.size with g | g
     ·exact absurd (hX b ((hF b).2 (by simp[blk]))).1 (N b g)
     ·exact g
    ·refine mH λi=> ?_;rw[mC];split
     ·rename_i hi
      have O:i<vs.length:=by omega
      have:=g4 i vs[i] (kH O)
      rw[kH O];simpa using this
     ·rw[lU (by omega)]
  intro w hw;subst hw;refine(Any.strconv_AppendInt_10 Zr d.size n i K h2 (.slice p n c) vs w a0 hB (by omega) (λP u=> ?_)).mono ?_
  ·obtain⟨g,t',f,U,V⟩:=gk;have C:w.heap[g]? =some (.cells (Lib.pow10Tab.map λz=>kZ .u64 z).toArray t' f):=Z _ _ V;have I:=BC (h:=d) V;show(prog.globalNamed _).bind _=_;rw[U];show(match P.heap[g]? with | some (.cells cs _ _)=>some cs | _=>none)=_
   rw[u.block g I,C]
  ·rintro e P ⟨v',rfl,Q,u,R⟩;have q:∀(k:Nat) (o:Obj),w.heap[k]? =some o→(∀cs f,o≠.cells cs 5 f)→P.heap[k]? =some o:=λk o J a1=>R k o J (by simp) a1;refine⟨⟨u.os,u.tape,u.output,u.size⟩,v',rfl,BZ d,?_⟩;obtain⟨k1,k2⟩:=Q;have A:Sub (BZ d) (BZ P.heap):=λi o J=>by
    have I:=BC (h:=d) J;show P.heap[i]? =some o;rw[u.block i I];exact Z i o J
   have a2:vs++Lib.byteCells (Lib.itoa i)=(l++Cr i).map (mP .u8).val:=by rw[List.map_append,M,TO]
   have S:(Cr i).length=(Lib.itoa i).length:=by unfold Cr;simp
   have T:∀(l:List Int),(kI .u8).All (BZ d) (l.map (mP .u8).val) l:=λl=>by
    induction l with
    |nil=>exact .nil
    |cons x l ih=>exact .cons (a:=[_]) rfl ih
   rcases k2 with⟨rfl,hz⟩|⟨g,cap,cur,rfl,hBg,C,hle,hm,hcs,hcur⟩
   ·refine⟨(none,0,0),l++Cr i,kU _,rfl,rfl,rfl,λ_=>False,⟨none,0,0,[],rfl,(by rw[mD,S,L];exact hz),Nat.zero_le _,(λ_ _ _ h=>by cases h),.inl ⟨rfl,rfl,rfl,rfl⟩,?_,λi=>by simp[blk]⟩,λ_ m=>m.elim,(Uo (X:=F) (X':=λ_=>False) (Y:=λ_=>False) q (λ_ g=>g.elim) A hG.off (H.less λk m=>m.elim .inr .inl)).less λk m=>m.elim (λg=>.inl g) (λg=>.inl g)⟩
    have:l++Cr i= []:=List.eq_nil_of_length_eq_zero (by rw[mD,S,L];exact hz)
    show(kI .u8).All (BZ d) [] (l++Cr i);rw[this];exact .nil
   ·refine⟨(some ⟨g,0,none⟩,n+(Lib.itoa i).length,cap),l++Cr i,kU _,rfl,rfl,rfl,λk=>k=g,⟨_,_,cap,(l++Cr i).map (mP .u8).val,rfl,by simp;omega,hm,(λb' off s e=>by cases e;exact⟨rfl,λD ty f B=>by
     rw[C]at B;cases B;exact hcs⟩),.inr ⟨g,0,cur,rfl,C,by show _=_ *1;simp;omega,hle,by show 0+cap *1≤_;omega,λj v W=> ?_⟩,T _,λk=>by simp[blk]⟩,λk m=>⟨?_,λg=>g⟩,(Uo (X:=F) (X':=λk=>k=g) (Y:=λ_=>False) q (λk m=>by subst m;exact⟨_,_,C⟩) A hG.off (H.less λk m=>m.elim .inr .inl)).less λk m=>m.elim (λg=>.inr g) (λg=>.inl g)⟩
    ·rw[←a2,←hcur,mC]at W;split at W
     ·simpa using W
     ·cases W
    ·subst m;exact Array.getElem?_eq_none hBg
 ·cases hd
end Go.Proofs.YtnlkgidlfnefbaaGreatDoor
namespace Go.Proofs.YtnlkgidlfnefbaaGreatDoor
open Go Go.Eng Dg
structure Jv (φ:AD):Prop where
 a:Glob φ
 b:Dg.Glob φ
theorem Jv.mono {φ ψ:AD}(H:Jv φ) (c:Sub φ ψ):Jv ψ:=⟨H.a.mono c,H.b.mono c⟩
noncomputable def TP (s o:Aa):Option (Bool×Aa):=need (OkS s∧OkS o)<|some (Fo s o,BN s o)
noncomputable def SM (s:Aa):Option (List Int):=Ju s
section
variable {φ:AD}{h:AH}{F:List Chk}
theorem WC {s_0 c:Option mT}{b a:Aa}(f:Dg.Glob φ) (g:St φ (Bc s_0 b::Bc c a::F) h) {r:Bool×Aa}(hd:TP b a=some r):
 CallsH bO 114 [.pointer s_0,.pointer c] h (Ae λv d=>∃ψ:AD,∃y:Bool,∃l:Aa,Sub φ ψ∧v=((.one aB):Sh).val y∧(y,l)=r∧St ψ (Bc s_0 l::Bc c a::F) d):=by obtain⟨⟨i,j⟩,hd⟩:=CQ hd;obtain rfl:=Option.some.inj hd;refine(JP f i j (kK _ _ _) g).mono ?_;rintro e d ⟨u,rfl,ψ,le,rfl,k⟩;exact⟨_,rfl,ψ,_,_,le,rfl,rfl,k⟩
theorem PB {b:Option mT}{a:Aa}(d:Dg.Glob φ) (f:St φ (Bc b a::F) h) {r:List Int}(hd:SM a=some r):
 CallsH bO 117 [.pointer b] h (Ae λv c=>∃ψ:AD,∃y:Slc,∃l:List Int,Sub φ ψ∧v=((.one aS):Sh).val y∧l=r∧hC (kI .i64) ψ y l∧St ψ (Bc b a::F) c):=by refine(OL d f hd).mono ?_;rintro e c ⟨u,rfl,ψ,y,le,rfl,k,g⟩;exact⟨_,rfl,ψ,_,_,le,rfl,rfl,k,g⟩
theorem XC {ps:List (Option mT)}{ss:List Aa}{x y:Nat}{p q:Option mT}{s o:Aa}(g:Dg.Glob φ) (i:ss[x]? =some s) (j:ss[y]? =some o) (l:ps[x]? =some p) (m:ps[y]? =some q) (k:OkS s∧OkS o) (n:St φ (AV ps ss++F) h):
 CallsH bO 114 [.pointer p,.pointer q] h (Ae λv d=>∃ψ:AD,Sub φ ψ∧v=((.one aB):Sh).val (Fo s o)∧St ψ (AV ps (ss.set x (BN s o)) ++F) d):=by have⟨b,f,t⟩:=E0 l i;have⟨w,b1,_⟩:=E0 m j;have a:∀(p:Option mT) (s:Aa) (r:List Chk) (L:List Chk),L.Perm (Bc p s::r)→(L++F).Perm (Bc p s::(r++F)):=λp s r L z=>hA F z;have c:=(a p s b _ f).symm.trans (a q o w _ b1);refine(JP g k.1 k.2 c (n.perm (a p s b _ f))).mono ?_;rintro e d ⟨u,rfl,ψ,le,rfl,A⟩;exact⟨_,rfl,ψ,le,rfl,A.perm (a p _ b _ (t _)).symm⟩
theorem Up {ps:List (Option mT)}{ss:List Aa}{x:Nat}{p q:Option mT}{s o:Aa}(d:Dg.Glob φ) (f:ss[x]? =some s) (g:ps[x]? =some p) (k:OkS s∧OkS o) (i:St φ (Bc q o::(AV ps ss++F)) h):
 CallsH bO 114 [.pointer p,.pointer q] h (Ae λv a=>∃ψ:AD,Sub φ ψ∧v=((.one aB):Sh).val (Fo s o)∧St ψ (Bc q o::(AV ps (ss.set x (BN s o)) ++F)) a):=by have⟨b,j,l⟩:=E0 g f;have c:∀(s:Aa) (L:List Chk),L.Perm (Bc p s::b)→(Bc q o::(L++F)).Perm (Bc p s::(Bc q o::(b++F))):=λs L m=>(kF _ (hA F m)).trans (kK _ _ _);refine(JP d k.1 k.2 (kK _ _ _) (i.perm (c s _ j))).mono ?_;rintro e a ⟨u,rfl,ψ,le,rfl,n⟩;exact⟨_,rfl,ψ,le,rfl,n.perm (c _ _ (l _)).symm⟩
end
end Go.Proofs.YtnlkgidlfnefbaaGreatDoor
namespace Go.Proofs.YtnlkgidlfnefbaaGreatDoor
open Go Go.Eng
theorem glob_of {W:World}(c:laidMetH bO Rows.engineQuotasRow.laid W):Jv (BZ W.heap):=by
 rw[MakeChecks.laidMetH_plain _ _ _ (by kernel_rfl)]at c;refine⟨?_,?_⟩
 ·have d:laidMet Tryz.prog (("internal/strconv.uint64pow10",Lib.tabData .u64 Lib.pow10Tab):: []) W:=c.tail.tail;have b:Tryz.prog.globalNamed "internal/strconv.uint64pow10" =some 1:=by kernel_rfl
  have a:=Lib.tabIs_of_head b (by kernel_rfl) mA lZ (by kernel_rfl) (by kernel_rfl) d;unfold Lib.TabIs World.var? at a;rw[b,mK]at a;cases hb:W.heap[1]? with
  |none=>rw[hb]at a;cases a
  |some o=>
   rw[hb]at a;cases o with
   |cells cs t f=>cases a;exact⟨1,t,f,b,hb⟩
   |_=>cases a
 ·have d:laidMet Tryz.prog (("math/bits.deBruijn64tab",Lib.tabData .u8 (Lib.deBruijn64tab.map fun (z:Nat)=>(z:Int)))::("internal/strconv.uint64pow10",Lib.tabData .u64 Lib.pow10Tab):: []) W:=c.tail;have b:Tryz.prog.globalNamed "math/bits.deBruijn64tab" =some 0:=by kernel_rfl
  have a:=Lib.tabIs_of_head b (by kernel_rfl) mB kQ (by kernel_rfl) (by kernel_rfl) d;unfold Lib.TabIs World.var? at a;rw[b,mK]at a;cases hb:W.heap[0]? with
  |none=>rw[hb]at a;cases a
  |some o=>
   rw[hb]at a;cases o with
   |cells cs t f=>
    refine⟨t,f,?_⟩;show W.heap[0]? =_;rw[hb];have e:=Option.some.inj a;rw[e,List.map_map];rfl
   |_=>cases a
theorem wf8 {x:Int}(h:(Lit.int .u8 x).wf=true):0≤x∧x<256:=by simp only[Lit.wf,Bool.and_eq_true,decide_eq_true_eq]at h;have a:IntKind.min .u8=0:=rfl;have b:IntKind.max .u8=255:=rfl;omega
theorem iG {α:Type}{cs:List α}(h:cs.length=7):∃a b c d e f g,cs= [a,b,c,d,e,f,g]:=by
 match cs,h with
 | [a,b,c,d,e,f,g],_=>exact⟨a,b,c,d,e,f,g,rfl⟩
section
variable {h:AH}
theorem Lu {n:Nat}{cs:List mS}(a:ES bO h n 22 cs):∃(t:Slc) (l:List Int),cs= [.slice t.1 t.2.1 t.2.2] ∧hC (kI .u8) (BZ h) t l∧l.length≤9223372036854775807∧ ∀x∈l,0≤x∧x<256:=by obtain⟨l,⟨t,e,b⟩,c,d⟩:=(GP lA (by kernel_rfl) (LF kQ)) n cs a;exact⟨t,l,e,b,c,λx f=>wf8 (d x f)⟩
theorem Qx {n:Nat}{p:Option mT}{len cap:Nat}(a:ES bO h n 22 [.slice p len cap]):∃l,hC (kI .u8) (BZ h) (p,len,cap) l∧ ∀x∈l,0≤x∧x<256:=by obtain⟨l,b,_,c⟩:=Za (GP lA (by kernel_rfl) (LF kQ)) a;exact⟨l,b,λx d=>wf8 (c x d)⟩
theorem Zs {n:Nat}{cs:List mS}(a:ES bO h n 23 cs):∃(t:Slc) (l:List (List Int)),cs= [.slice t.1 t.2.1 t.2.2] ∧hC (lQ (kI .u8)) (BZ h) t l∧l.length≤9223372036854775807∧ ∀r∈l,r.length≤9223372036854775807∧ ∀x∈r,0≤x∧x<256:=by obtain⟨l,⟨t,e,c⟩,d,b⟩:=(GP underlying23 (by kernel_rfl) (GP lA (by kernel_rfl) (LF kQ))) n cs a;exact⟨t,l,e,c,d,λr a=>⟨(b r a).1,λx f=>wf8 ((b r a).2 x f)⟩⟩
theorem Qy {n:Nat}{cs:List mS}(H:ES bO h n 25 cs):∃(x:Int×Int×Slc×Slc×Slc×Slc×Slc×Unit) (A:List Int) (B:List (List Int)) (C D E:List Int),
 cs= [.int .u8 x.1,.int .u8 x.2.1,sv x.2.2.1,sv x.2.2.2.1,sv x.2.2.2.2.1,sv x.2.2.2.2.2.1,sv x.2.2.2.2.2.2.1] ∧hC (kI .u8) (BZ h) x.2.2.1 A∧hC (lQ (kI .u8)) (BZ h) x.2.2.2.1 B∧
 hC (kI .u8) (BZ h) x.2.2.2.2.1 C∧hC (kI .u8) (BZ h) x.2.2.2.2.2.1 D∧hC (kI .u8) (BZ h) x.2.2.2.2.2.2.1 E∧SmG (x.1,x.2.1,A,B,C,D,E):=by
 cases n with
 |zero=>exact H.elim
 |succ n=>
  unfold ES at H;rw[underlying25]at H;obtain⟨i,j⟩:=H;have i:cs.length=7:=i.trans (by kernel_rfl);obtain⟨a,b,c,d,e,f,g,rfl⟩:=iG i;have F:prog.cellsOf 5=1:=by kernel_rfl
  have G:prog.cellsOf 22=1:=by kernel_rfl
  have I:prog.cellsOf 23=1:=by kernel_rfl
  have s:=j _ (.head _);have t:=j _ (.tail _ (.head _));have u:=j _ (.tail _ (.tail _ (.head _)));have v:=j _ (.tail _ (.tail _ (.tail _ (.head _))));have w:=j _ (.tail _ (.tail _ (.tail _ (.tail _ (.head _)))));have y:=j _ (.tail _ (.tail _ (.tail _ (.tail _ (.tail _ (.head _))))));have z:=j _ (.tail _ (.tail _ (.tail _ (.tail _ (.tail _ (.tail _ (.head _)))))));dsimp only at s t u v w y z;rw[F]at s t;rw[G]at u w y z;rw[I]at v;have⟨x0,k,w0⟩:=PA kQ s;have⟨x1,l,J⟩:=PA kQ t;have⟨t2,K,m,L,M,N⟩:=Lu u;have⟨t3,O,o,P,Q,R⟩:=Zs v;have⟨t4,S,p,T,U,V⟩:=Lu w;have⟨t5,W,q,X,Y,Z⟩:=Lu y;have⟨t6,l6,r,s6,n6,w6⟩:=Lu z;have k: [a] =_:=k;have l: [b] =_:=l;have m: [c] =_:=m;have o: [d] =_:=o;have p: [e] =_:=p;have q: [f] =_:=q;have r: [g] =_:=r;simp only[List.cons.injEq,and_true]at k l m o p q r;exact⟨(x0,x1,t2,t3,t4,t5,t6,()),K,O,S,W,l6,by rw[k,l,m,o,p,q,r],L,P,T,X,s6,⟨wf8 w0,wf8 J,⟨M,N⟩,⟨Q,R⟩,⟨U,V⟩,⟨Y,Z⟩,⟨n6,w6⟩⟩⟩
end
def cloneD {α:Type}(l:List α):Option (List α):=if l.length≤1073741824 then some l else none
theorem cloneD_some {α:Type}{l r:List α}(h:cloneD l=some r):l.length≤1073741824∧r=l:=by
 unfold cloneD at h;split at h
 ·rename_i g;exact⟨g,(Option.some.inj h).symm⟩
 ·cases h
theorem iH:GU bO 114 114 124 2:=⟨kY,.inl kY,⟨t124,by kernel_rfl,rfl,⟨_,rfl,rfl⟩,by decide,by decide⟩,by decide⟩
theorem gW:GU bO 118 118 128 2:=⟨mE,.inl mE,⟨t128,by kernel_rfl,rfl,⟨_,rfl,rfl⟩,by decide,by decide⟩,by decide⟩
section
variable {φ:AD}{h:AH}{F:List Chk}
theorem Ps {t:Slc}{l r:List BQ}(k:hC Bx φ t l) (c:St φ F h) (hd:cloneD l=some r):
 CallsH bO 96 [.slice t.1 t.2.1 t.2.2] h (Ae λv e=>∃ψ:AD,∃y:Slc,∃l1:List BQ,Sub φ ψ∧v=((.one aS):Sh).val y∧l1=r∧St ψ (cR 124 Bx y l1::F) e):=by
 obtain⟨f,rfl⟩:=cloneD_some hd;refine BF mixed func96 ?_;rw[FH];unfold DJ;cases hp:t.1 with
 |none=>
  rw[k.2.2.2.1 hp];exact AB ⟨φ,(none,0,0),[],kU _,rfl,rfl,c.nil _ _⟩
 |some a=>
  rw[mF];refine AU (vs:=[]) c λb m s1=> ?_;have g:=St.lit (r:=Bx) (l:=[]) (n:=0) s1 .nil rfl (by decide);have⟨o,i,d⟩:=k.heap s1.sub;rw[hp]at d;refine AZ (r:=Bx) (ms:=r) (l':=r) iH g rfl d i k.length.symm (by unfold app;rw[if_pos (by have:=f;simp;omega)];rfl) λy p j=>AB ⟨φ,y,_,kU _,rfl,rfl,j⟩
theorem Uq {t:Slc}{l r:List Jr}(k:hC HX φ t l) (c:St φ F h) (hd:cloneD l=some r):
 CallsH bO 146 [.slice t.1 t.2.1 t.2.2] h (Ae λv e=>∃ψ:AD,∃y:Slc,∃l1:List Jr,Sub φ ψ∧v=((.one aS):Sh).val y∧l1=r∧St ψ (cR 128 HX y l1::F) e):=by
 obtain⟨f,rfl⟩:=cloneD_some hd;refine BF mixed func146 ?_;rw[FI];unfold DK;cases hp:t.1 with
 |none=>
  rw[k.2.2.2.1 hp];exact AB ⟨φ,(none,0,0),[],kU _,rfl,rfl,c.nil _ _⟩
 |some a=>
  rw[mF];refine AU (vs:=[]) c λb m s1=> ?_;have g:=St.lit (r:=HX) (l:=[]) (n:=0) s1 .nil rfl (by decide);have⟨o,i,d⟩:=k.heap s1.sub;rw[hp]at d;refine AZ (r:=HX) (ms:=r) (l':=r) gW g rfl d i k.length.symm (by unfold app;rw[if_pos (by have:=f;simp;omega)];rfl) λy p j=>AB ⟨φ,y,_,kU _,rfl,rfl,j⟩
end
section
variable {φ:AD}{h:AH}{F:List Chk}
theorem OM:GU bO 114 114 124 2:=⟨kY,.inl kY,⟨t124,by kernel_rfl,rfl,⟨_,rfl,rfl⟩,by decide,by decide⟩,by decide⟩
noncomputable def CY (a_0:IK) (a:List BQ) (c:Int):Option (List BQ):=(forS (σ:=List BQ) 0 (a.length:Int) ([]:List BQ) λd g=>(idx a d).bind λb=>(B8 a_0 (b.1,b.2)).bind λh=>(cond (h==c) ((app g ([(b.1,(mG .i64 (b.2+1)))]:List BQ)).bind λe=>some e) (some g)).bind λf=>some f).bind λi=>some i
theorem LI {B:Option mT}{e:IK}{A:Slc}{i:List BQ}{C:Int}(l:hC Bx φ A i) (G:St φ (cO 112 (mO Ca) B e::F) h) {r:(List BQ)}(hd:CY e i C=some r):
 CallsH bO 64 [(.pointer B),(sv A),(.int .i64 C)] h (Ae λv H=>∃ψ:AD,∃y:Slc,∃m:List BQ,Sub φ ψ∧v=((.one aS):Sh).val y∧m=r∧hC Bx ψ y m∧St ψ (cO 112 (mO Ca) B e::F) H):=by
 refine AN mixed func64 (Ks ..) ?_;have n:A.2.1=List.length i:=l.length;have⟨b7,u,hd⟩:=bS hd;refine Bb u (λw y D g=>∃ψ:AD,∃o:List BQ,Sub φ ψ∧y.1=w∧o=g∧St ψ (cR 124 Bx y.2.1 o::cO 112 (mO Ca) B e::F) D) ((0:Int),((none,0,0):Slc),()) rfl ⟨φ,[],sb,rfl,rfl,(((G.nil 124 Bx).at1).at1)⟩ ?_ ?_ ?_
 ·rintro _ I b8 _ _ ⟨b9,x,ba,rfl,rfl,p⟩ c bb z a0;refine Ai (dT n z)<|YC l c p λb c=>AU (vs:=[.int .i64 (0:Int),.int .i64 (0:Int)]) p λJ bd K=>AG K rfl rfl λbf L=>AG L rfl rfl λbg j=>AA j rfl<|AA j rfl ?_;have⟨bi,M,c⟩:=bS c;refine AE (Do (A:=(b.1,b.2,())) j.at2 M) ?_;rintro _ bj ⟨k,N,bl,rfl,rfl,f⟩;refine⟨N,rfl,?_⟩;have⟨O,d,c⟩:=bS c;refine Ad (λy D g=>∃ψ:AD,∃q:List BQ,Sub k ψ∧q=g∧St ψ (cR 124 Bx y.1 q::cO 112 (mO Ca) B e::cW 124 J [.int .i64 b.1,.int .i64 b.2]::F) D) (g:=O) ?_ ?_
  ·refine kD d rfl (λd=>?_) (λd=>?_)
   ·refine AA f.at1 rfl<|AA f.at1 rfl<|AU (vs:=[.int .i64 b.1,.int .i64 (wN b.2)]) f λP bp s=> ?_;have⟨Q,R,d⟩:=bS d;refine AZ (r:=Bx) (ms:=([(b.1,(wN b.2))]:List BQ)) OM s.tail.at2 rfl (mM s) (.cons (a:=[_,_]) ⟨[_],_,rfl,rfl,rfl⟩ .nil) rfl R ?_;intro S bs T;exact jY rfl ⟨k,Q,sb,iS d,T.at2.at2.at2⟩
   exact jY rfl ⟨k,x,sb,iS d,f.at2.at2.at2.at2⟩
  rintro U bt ⟨V,W,bw,rfl,X⟩;obtain rfl:=iS c;exact jZ rfl rfl ⟨V,W,sb,a0,rfl,X.at2.tail.at1.at1⟩
 ·rintro _ I bx ⟨al,ap,bz,rfl,rfl,Y⟩ b1;refine AW (dF n b1)<|AO (kB rfl ⟨_,al,ap,sb,rfl,rfl,Y.at1.at1⟩)
 rintro E c0 ⟨_,c1,Z,c2,_,rfl,b3⟩;have⟨b4,c3,b5,b6⟩:=St.freezeRow (t:=E.2.1) b3;exact AB ⟨b4,E.2.1,Z,sb,rfl,iS hd,b5,b6⟩
noncomputable def Bv (a_0:D5) (b:Int):Option (List BQ×List BQ×List Jr×Int×Int):=(cond (decide (b< 0)) (some true) (some (decide (b≥ (a_0.2.2.2.2.2.2.1.length:Int))))).bind λc=>cond c (some (([]:List BQ),([]:List BQ),([]:List Jr),0,0)) ((idx a_0.2.2.2.2.2.2.1 b).bind λa=>some (a.1,a.2.1,a.2.2.1,a.2.2.2.1,a.2.2.2.2))
theorem FK {A:Option mT}{k:D5}{B:Int}(l:Pt F4 φ A k) (C:St φ F h) {r:(List BQ×List BQ×List Jr×Int×Int)}(hd:Bv k B=some r):
 CallsH bO 127 [(.pointer A),(.int .i64 B)] h (Ae λv D=>∃ψ:AD,∃y:Slc×Slc×Slc×Int×Int×Unit,∃m:List BQ,∃n:List BQ,∃o:List Jr,Sub φ ψ∧v=((.one (.agg [.slice,.slice,.slice,(.int .i64),(.int .i64)])):Sh).val y∧(m,n,o,y.2.2.2.1,y.2.2.2.2.1)=r∧hC Bx ψ y.1 m∧hC Bx ψ y.2.1 n∧hC HX ψ y.2.2.1 o∧St ψ F D):=by
 refine AN mixed func127 (NE ..)<|AU (vs:=[.slice none 0 0,.slice none 0 0,.slice none 0 0,.int .i64 (0:Int),.int .i64 (0:Int)]) C λE U j=> ?_;have⟨t,f,hd⟩:=bS hd;refine Ad (λy G g=>∃ψ:AD,Sub φ ψ∧y.1=g∧St ψ (Wq6 E::F) G) (g:=t) ?_ ?_
 ·refine kD f rfl (λf=>?_) (λf=>?_)
  ·exact jY rfl ⟨φ,sb,iS f,j⟩
  refine pfR QG l j λu w=> ?_;have z:=w.length;obtain rfl:=iS f;exact jY rfl ⟨φ,sb,(by rw[z]),j⟩
 rintro V W ⟨c,X,rfl,a⟩;refine kD hd rfl (λhd=>?_) (λhd=>?_)
 ·refine AG a rfl rfl λY a0=>AG a0 rfl rfl λZ H=>AG H rfl rfl λbj I=>AG I rfl rfl λbl J=>AG J rfl rfl λbp d=>AA (x:=((none,0,0):Slc)) d rfl<|AA (x:=((none,0,0):Slc)) d rfl<|AA (x:=((none,0,0):Slc)) d rfl<|AA (x:=(0:Int)) d rfl<|AA (x:=(0:Int)) d rfl ?_;exact AB ⟨c,(((none,0,0):Slc),((none,0,0):Slc),((none,0,0):Slc),(0:Int),(0:Int),()),[],[],[],sb,rfl,iS hd,(lK Bx c),(lK Bx c),(lK HX c),d.tail⟩
 refine pfR QG l a λbs K=> ?_;have⟨b,L,hd⟩:=bS hd;obtain⟨bt,bw,M,N,O,i⟩:=(K.up (ψ:=c)).get L;refine AF _ M (Am N ?_);obtain⟨_,_,rfl,⟨p,rfl,al⟩,⟨_,_,rfl,⟨q,rfl,b1⟩,⟨_,_,rfl,⟨s,rfl,P⟩,⟨_,_,rfl,rfl,rfl⟩⟩⟩⟩:=O;refine AL (x:=p) (AM (lV sb a.sub) (i 0 _ rfl)) rfl<|AL (x:=q) (by rw[Ac];exact(AM (lV sb a.sub) (i 1 _ rfl))) rfl<|AL (x:=s) (by rw[Ac];exact(AM (lV sb a.sub) (i 2 _ rfl))) rfl<|AL (x:=b.2.2.2.1) (by rw[Ac];exact(AM (lV sb a.sub) (i 3 _ rfl))) rfl<|AL (x:=b.2.2.2.2) (by rw[Ac];exact(AM (lV sb a.sub) (i 4 _ rfl))) rfl<|AG a rfl rfl λbx Q=>AG Q rfl rfl λbz R=>AG R rfl rfl λc0 S=>AG S rfl rfl λc1 T=>AG T rfl rfl λc2 e=>AA e rfl<|AA e rfl<|AA e rfl<|AA e rfl<|AA e rfl ?_;exact AB ⟨c,(p,q,s,b.2.2.2.1,b.2.2.2.2,()),b.1,b.2.1,b.2.2.1,sb,rfl,iS hd,al,b1,P,e.tail⟩
noncomputable def CI (a_0:D5):Option Int:=some (a_0.2.2.2.2.2.2.1.length:Int)
theorem DW {f:Option mT}{a:D5}(b:Pt F4 φ f a) (g:St φ F h) {r:Int}(hd:CI a=some r):
 CallsH bO 32 [(.pointer f)] h (Ae λv i=>∃ψ:AD,∃y:Int,Sub φ ψ∧v=((.one aI):Sh).val y∧y=r∧St ψ F i):=by refine AN mixed func32 (L9 ..)<|pfR QG b g λc d=> ?_;have e:=d.length;obtain rfl:=iS hd;exact AB ⟨φ,(c.2.1:Int),sb,rfl,(by rw[e]),g⟩
noncomputable def Ay (a_0:D5) (e:Int) (a:Int):Option Int:=
 (Bv a_0 e).bind λt1=>
 (DF (σ:=Unit) (β:=Int) 0 (t1.2.2.1.length:Int) () λb g=>
  (idx t1.2.2.1 b).bind λc=>
  cond (c.1==a)
  (some (AY.done c.2))
  (some (AY.next ()))).bind λd=>match d with
 |.next h=>
  some (-1:Int)
 |.done f=>some f
theorem Dr {B:Option mT}{c:D5}{C:Int}{A:Int}(k:Pt F4 φ B c) (D:St φ F h) {r:Int}(hd:Ay c C A=some r):
 CallsH bO 73 [(.pointer B),(.int .i64 C),(.int .i64 A)] h (Ae λv E=>∃ψ:AD,∃y:Int,Sub φ ψ∧v=((.one aI):Sh).val y∧y=r∧St ψ F E):=by
 refine AN mixed func73 (NC ..) ?_;have⟨L,l,hd⟩:=bS hd;refine AE (FK k D l) ?_;rintro _ M ⟨d,t1,N,O,P,Q,rfl,rfl,R,al,e,m⟩;refine⟨t1,rfl,?_⟩;have f:=e.length;have⟨ap,n,hd⟩:=bS hd;refine BR n (λo y G g=>∃ψ:AD,Sub d ψ∧y.1=o∧()=g∧St ψ F G) ((0:Int),(0:Int),()) rfl ⟨d,sb,rfl,rfl,m⟩ ?_ ?_ ?_
 ·rintro _ H S _ _ ⟨i,b1,rfl,rfl,j⟩ a T p q s;refine Ai (dT f p)<|YC e a j λt a=>AU (vs:=[.int .i64 (0:Int),.int .i64 (0:Int)]) j λU V u=>AG u rfl rfl λW w=>AG w rfl rfl λX b=>AA b rfl<|kD a rfl (λa=>?_) (λa=>?_)
  ·refine AA b rfl ?_;obtain rfl:=iS a;obtain rfl:=s _ rfl;obtain rfl:=iS hd;exact Ak (Al (AB ⟨i,t.2,sb,rfl,rfl,b.tail⟩))
  obtain rfl:=iS a;exact jZ rfl rfl ⟨i,sb,q,rfl,b.tail⟩
 ·rintro _ H Y _ ⟨x,Z,rfl,rfl,z⟩ a0 I;subst I;refine AW (dF f a0)<|AO (kB rfl ⟨_,rfl,_,x,sb,rfl,rfl,z⟩)
 rintro z2 b8 ⟨_,rfl,_,J,b9,_,rfl,K⟩;exact AB ⟨J,(-1:Int),sb,rfl,iS hd,K⟩
noncomputable def C1 (a_0:D5) (b:Int) (a:List Int):Option Int:=(cond (decide (b< 0)) (some true) (some (decide (b≥ (a_0.2.2.2.2.2.2.1.length:Int))))).bind λe=>cond e (some (-1:Int)) (((DF (σ:=Int) (β:=Int) 0 (a.length:Int) b λc f=>(idx a c).bind λd=>(Ay a_0 f d).bind λt8=>cond (decide (t8< 0)) (some (AY.done t8)) (some (AY.next t8))).map AY.get).bind λg=>some g)
theorem Gf {C:Option mT}{e:D5}{B:Int}{A:Slc}{d:List Int}(f:Pt F4 φ C e) (i:hC (kI .i64) φ A d) (E:St φ F h) {r:Int}(hd:C1 e B d=some r):
 CallsH bO 113 [(.pointer C),(.int .i64 B),(sv A)] h (Ae λv G=>∃ψ:AD,∃y:Int,Sub φ ψ∧v=((.one aI):Sh).val y∧y=r∧St ψ F G):=by
 refine AN mixed func113 (Kq ..) ?_;have j:A.2.1=List.length d:=i.length;have⟨o,b,hd⟩:=bS hd;refine Ad (λy D g=>∃ψ:AD,Sub φ ψ∧y.1=g∧St ψ F D) (g:=o) ?_ ?_
 ·refine kD b rfl (λb=>?_) (λb=>?_)
  ·exact jY rfl ⟨φ,sb,iS b,E⟩
  refine pfR QG f E λp q=> ?_;have s:=q.length;obtain rfl:=iS b;exact jY rfl ⟨φ,sb,(by rw[s]),E⟩
 rintro T al ⟨c,ap,rfl,k⟩;refine kD hd rfl (λhd=>?_) (λhd=>?_)
 ·exact AB ⟨c,(-1:Int),sb,rfl,iS hd,k⟩
 have⟨U,t,hd⟩:=bS hd;have⟨u,w,x⟩:=Option.map_eq_some_iff.1 t;subst x;refine Av (λy D g=>∃ψ:AD,Sub c ψ∧y.2.1=g∧St ψ F D) (g:=(AY.get u)) ?_ ?_
 ·refine Kh w (λz y D g=>∃ψ:AD,Sub c ψ∧y.1=z∧y.2.1=g∧St ψ F D) ((0:Int),B,()) rfl ⟨c,sb,rfl,rfl,k⟩ ?_ ?_
  ·rintro _ H b1 _ _ ⟨V,W,rfl,rfl,l⟩ a X a0 I J;refine Ai (dT j a0)<|gx i a l λY a=> ?_;have⟨Z,K,a⟩:=bS a;refine AE (Dr f.up l K) ?_;rintro _ b7 ⟨m,t8,b8,rfl,rfl,n⟩;refine⟨t8,rfl,?_⟩;refine kD a rfl (λa=>?_) (λa=>?_)
   ·obtain rfl:=iS a;obtain rfl:=J _ rfl;exact AO (kB rfl ⟨m,sb,rfl,n⟩)
   obtain rfl:=iS a;exact jZ rfl rfl ⟨m,sb,I,rfl,n⟩
  ·rintro _ H b9 _ ⟨L,ba,rfl,rfl,M⟩ N O;subst O;refine AW (dF j N)<|AO (kB rfl ⟨L,sb,rfl,M⟩)
 rintro P bb ⟨Q,bd,R,S⟩;rw[←R]at hd;exact AB ⟨Q,P.2.1,sb,rfl,iS hd,S⟩
end
end Go.Proofs.YtnlkgidlfnefbaaGreatDoor
