/- The parts ArenaB to En2, put together. Conditions: each tells its own. -/
import Derived.Test.YtnlkgidlfnefbaaGreatDoorKc17
import Derived.Test.YtnlkgidlfnefbaaGreatDoorKc5
import Derived.Test.YtnlkgidlfnefbaaGreatDoorKc9
import Derived.Test.YtnlkgidlfnefbaaGreatDoorKc15
import Derived.Test.YtnlkgidlfnefbaaGreatDoorKc8
import Derived.KernelRfl
import Derived.Test.YtnlkgidlfnefbaaGreatDoorKc11
set_option linter.unusedVariables false
set_option maxRecDepth 100000
set_option maxHeartbeats 4000000
open Go.IntKind renaming wrap → bD
open Go.Eng.Ro renaming SliceIs → bO,int → hA,str → kZ
open Go.Proofs.Tryz renaming prog → eE,underlying36 → kO
open Go.Eng.St renaming cell → hC,freezeRow → kF,cells → kJ,blk → lH,get → lI,lit → lJ
open Go.Eng.Sub renaming trans → hM,refl → kV
open List renaming length → kG,getElem?_eq_getElem → kI,getElem?_eq_some_iff → kU,ext_getElem? → lA,getElem?_set → lB,getElem?_map → lC
open Option renaming bind_some → kH
open Go.Eng.Ro.All renaming one → kK
open Go.Eng.Ro.SliceIs renaming nil → kL
open Go.Eng.AY renaming done → kQ,next → kT
open Int renaming toNat → kW,tmod → kY,not_lt → lD
open Nat renaming zero_add → kX
open Go.Eng.Rep renaming ro → lF
open Go.Eng.T renaming store → lG
open Go renaming Value → lK,Addr → lL
open Go.Proofs.Tryz
namespace Go.Proofs.YtnlkgidlfnefbaaGreatDoor
open Go Go.Eng
theorem Pw {φ:AD}{a0 a b c d n:Int}{u:Slc}{l:List Int}{e f:Bool}(k:bO (hA .i64) φ u l):
 Ro.is Js φ [.int .i64 a0,.int .i64 a,.int .i64 b,.int .i64 c,.int .i64 d,sv u,.bool e,.bool f,.int .i64 n] (a0,a,b,c,d,l,e,f,n):=
 ⟨[_],_,rfl,rfl,[_],_,rfl,rfl,[_],_,rfl,rfl,[_],_,rfl,rfl,[_],_,rfl,rfl,[_],_,rfl,⟨u,rfl,k⟩,[_],_,rfl,rfl,[_],_,rfl,rfl,rfl⟩
theorem Px {φ:AD}{cs:List lK}{a0 a b c d n:Int}{l:List Int}{e f:Bool}(h:Ro.is Js φ cs (a0,a,b,c,d,l,e,f,n)):
 ∃u,bO (hA .i64) φ u l∧cs= [.int .i64 a0,.int .i64 a,.int .i64 b,.int .i64 c,.int .i64 d,sv u,.bool e,.bool f,.int .i64 n]:=by obtain⟨_,_,rfl,rfl,_,_,rfl,rfl,_,_,rfl,rfl,_,_,rfl,rfl,_,_,rfl,rfl,_,_,rfl,⟨u,rfl,g⟩,_,_,rfl,rfl,_,_,rfl,rfl,rfl⟩:=h;exact⟨u,g,rfl⟩
section
variable {P:Program}{Q:Bs→AH→Prop}{φ:AD}{h:AH}{Γ:List Chk}{tl:Slc}{L:List Ds}{k:Int}
theorem Lb {x x':Ds}{j:Nat}{v:lK}{K:T}{a A:lL}(H:St φ (cR 165 Js tl (L.set k.toNat x)::Γ) h) (c:0≤k) (d:k< (L.length:Int)) (e:tl.1=some a) (f:A=a.add (k.toNat *9+j))
 (g:∀cs,Ro.is Js φ cs x→Ro.is Js φ (cs.set j v) x') (l:Nat.blt j 9=true) (b:Value.plain v=true)
 (n:∀h',St φ (cR 165 Js tl (L.set k.toNat x')::Γ) h'→K.wp P Q h'):(lG A v K).wp P Q h:=by
 have o:k.toNat<L.length:=by omega
 refine Qb (i:=k) (x:=x) (x':=x') (m:=L.set k.toNat x') (j:=j) H ?_ ?_ g l b e f n
 ·unfold idx;rw[if_pos c,List.getElem?_set_self (by simpa using o)]
 ·unfold Ea;rw[if_pos ⟨c,by rw[List.length_set];exact d⟩,List.set_set]
end
section
variable {φ:AD}{h:AH}{F:List Chk}{ap mp:Nat}{tl:Slc}{lim:Int}{X:TS}
theorem bH {k:Int}{y:NdS}{x:RY}{t0:Ds}(J:Yl φ y x) (K:St φ (arC ap mp tl lim X F) h) (w:idx X.L k=some t0):
 CallsH eE 130 [.pointer (jX ap),.int .i64 k,.agg (ndV y).toArray] h
 (Ae λv M=>v= .bool true∧St φ (arC ap mp tl lim ⟨X.L.set k.toNat (VI x t0.2.2.2.2.2.2.2.2),X.cells,X.used,X.mo⟩ F) M):=by
 obtain⟨f,l,o,p,q,s,r,t,⟨⟩⟩:=y;obtain⟨x0,x1,x2,x3,x4,x5,R,S⟩:=x;obtain⟨z,B,C,D,E,G,H,I⟩:=J;dsimp only at z B C D E G H I;subst z B C D E H I;have⟨m,g,N⟩:=CU w;refine AN mixed func130 (Gp _ _ (f,l,o,p,q,s,r,t,()))<|AU (vs:=ndV (f,l,o,p,q,s,r,t,())) K λT g s1=>AE (Xd s1.tail) ?_;rintro _ _ ⟨rfl,rfl⟩;refine⟨isB X k,rfl,?_⟩;have O:isB X k=true:=by unfold isB;rw[decide_eq_true m,decide_eq_true g];rfl
 rw[O];refine AW rfl<|AF _ rfl (AA (b:=ap) (j:=1) (x:=tl) s1.at1 rfl ?_);refine AA s1 rfl (AA s1 rfl (AA s1 rfl (AA s1 rfl (AA s1 rfl (AA (x:=s) s1 rfl (AA s1 rfl (AA s1 rfl ?_)))))));have⟨A,cs,n,P,_,_⟩:=lI s1.at2 w;refine AF _ n (Am P ?_);obtain⟨t0,t1,t2,t3,t4,t5,t6,t7,t8⟩:=t0;have a:=s1.tail.at1;have Q:X.L.set k.toNat (t0,t1,t2,t3,t4,t5,t6,t7,t8)=X.L:=by
  refine lA λi=> ?_;rw[lB];split
  ·rename_i e;subst e;rw[N,if_pos (by omega)]
  ·rfl
 rw[←Q]at a;refine Lb (j:=0) (x':=(f,t1,t2,t3,t4,t5,t6,t7,t8)) a m g n rfl (λcs c=>by obtain⟨u,d,rfl⟩:=Px c;exact Pw d) rfl rfl λ_ a=>Lb (j:=1) (x':=(f,l,t2,t3,t4,t5,t6,t7,t8)) a m g n (by rw[Ac]) (λcs c=>by obtain⟨u,d,rfl⟩:=Px c;exact Pw d) rfl rfl λ_ a=>Lb (j:=2) (x':=(f,l,o,t3,t4,t5,t6,t7,t8)) a m g n (by rw[Ac]) (λcs c=>by obtain⟨u,d,rfl⟩:=Px c;exact Pw d) rfl rfl λ_ a=>Lb (j:=3) (x':=(f,l,o,p,t4,t5,t6,t7,t8)) a m g n (by rw[Ac]) (λcs c=>by obtain⟨u,d,rfl⟩:=Px c;exact Pw d) rfl rfl λ_ a=>Lb (j:=4) (x':=(f,l,o,p,q,t5,t6,t7,t8)) a m g n (by rw[Ac]) (λcs c=>by obtain⟨u,d,rfl⟩:=Px c;exact Pw d) rfl rfl λ_ a=>Lb (j:=5) (x':=(f,l,o,p,q,x5,t6,t7,t8)) a m g n (by rw[Ac]) (λcs c=>by obtain⟨u,d,rfl⟩:=Px c;exact Pw G) rfl rfl λ_ a=>Lb (j:=6) (x':=(f,l,o,p,q,x5,r,t7,t8)) a m g n (by rw[Ac]) (λcs c=>by obtain⟨u,d,rfl⟩:=Px c;exact Pw d) rfl rfl λ_ a=>Lb (j:=7) (x':=(f,l,o,p,q,x5,r,t,t8)) a m g n (by rw[Ac]) (λcs c=>by obtain⟨u,d,rfl⟩:=Px c;exact Pw d) rfl rfl λ_ a=>AB ⟨rfl,a.at1⟩
end
abbrev trC (tp ap mp:Nat) (tl:Slc) (lim:Int) (X:TS) (F:List Chk):List Chk:=cW 79 tp [.pointer (jX ap)]::arC ap mp tl lim X F
noncomputable def bI (lim:Int) (X:TS) (a:dtT):Option ((Int×Int)×TS):=putD lim X (-1,a.1,a.1,a.2.1,a.2.2,[],true,false) 1
def bel (x:Ds):Bool:=x.2.2.2.2.2.2.2.1
def BA (x:Ds):Ds:=(x.1,x.2.1,x.2.2.1,x.2.2.2.1,x.2.2.2.2.1,x.2.2.2.2.2.1,x.2.2.2.2.2.2.1,true,x.2.2.2.2.2.2.2.2)
noncomputable def VL (lim:Int) (X:TS) (a sym:Int) (kids:List Int):Option ((Int×Int)×TS):=
 (DF (σ:=Unit) (β:=Unit) 0 (kids.length:Int) () λi _=>(idx kids i).bind λk=>cond (!(isB X k)) (some (kQ ())) (some (kT ()))).bind λe=>match e with
 |.done _=>some ((0,2),X)
 |.next _=>(DF (σ:=Unit) (β:=Unit) 0 (kids.length:Int) () λi _=>(idx kids i).bind λk=>(idx X.L k).bind λx=>
  (cond (bel x) (some true) ((cut kids 0 i).bind λc=>Au c k)).bind λb=>cond b (some (kQ ())) (some (kT ()))).bind λe=>match e with
  |.done _=>some ((0,15),X)
  |.next _=>(Dg.cloneD kids).bind λd=>(putD lim X (a,sym,0,0,0,d,false,false) (bD .i64 (1 +(kids.length:Int)))).bind λr=>
   cond (r.1.2 !=0) (some ((0,r.1.2),r.2))<|
   (forS (σ:=List Ds) 0 (kids.length:Int) r.2.L λi L=>(idx kids i).bind λk=>(idx L k).bind λx=>some (L.set k.toNat (BA x))).bind λL=>
   some ((r.1.1,0),⟨L,r.2.cells,r.2.used,r.2.mo⟩)
section
variable {φ:AD}{h:AH}{F:List Chk}{tp ap mp:Nat}{tl:Slc}{lim:Int}{X:TS}
theorem Tz (a:St φ (trC tp ap mp tl lim X F) h):CallsH eE 23 [.pointer (jX tp)] h (Ae λv c=>v= .int .i64 (X.L.length:Int)∧c=h):=by refine AN mixed func23 (IG ..)<|AF _ rfl (AA (b:=tp) (j:=0) (x:=some ⟨ap,0,none⟩) a rfl ?_);refine AE (bG a.tail) ?_;rintro _ _ ⟨rfl,rfl⟩;exact⟨_,rfl,AB ⟨rfl,rfl⟩⟩
theorem Ym {y:Int×Int×Int×Unit}{r:(Int×Int)×TS}(c:St φ (trC tp ap mp tl lim X F) h) (hd:bI lim X (y.1,y.2.1,y.2.2.1)=some r):
 CallsH eE 80 [.pointer (jX tp),.agg #[.int .i64 y.1,.int .i64 y.2.1,.int .i64 y.2.2.1]] h
 (Ae λv d=>v= .tuple #[.int .i64 r.1.1,.int .i64 r.1.2] ∧ ∃(ψ:AD) (a:Slc),Sub φ ψ∧St ψ (trC tp ap mp a lim r.2 F) d):=by refine AN mixed func80 (Na ..)<|AU (vs:=[.int .i64 y.1,.int .i64 y.2.1,.int .i64 y.2.2.1]) c λi e s1=>AF _ rfl (AA (b:=tp) (j:=0) (x:=some ⟨ap,0,none⟩) s1.at1 rfl ?_);refine AA s1 rfl (AA s1 rfl (AA s1 rfl (AA s1 rfl ?_)));have f:St φ (arC ap mp tl lim X (cW 79 tp [.pointer (jX ap)]::F)) e:=s1.tail.at3.at3.at3;refine AE (VK (y:=(-1,y.1,y.1,y.2.1,y.2.2.1,((none,0,0):Slc),true,false,())) ⟨rfl,rfl,rfl,rfl,rfl,kL _ _,rfl,rfl⟩ f hd) ?_;rintro _ k ⟨rfl,ψ,a,le,g⟩;exact⟨(r.1.1,r.1.2,()),rfl,AB ⟨rfl,ψ,a,le,g.at3⟩⟩
theorem Xf (a:St φ (trC tp ap mp tl lim X F) h):St φ (arC ap mp tl lim X (cW 79 tp [.pointer (jX ap)]::F)) h:=a.at3.at3.at3
theorem Yn {kv:Slc}{B:List Int}{l sym:Int}{r:(Int×Int)×TS}(T:Holds F kv B) (n:B.length=kv.2.1) (U:kv.2.1≤kv.2.2) (V:St φ (trC tp ap mp tl lim X F) h) (hd:VL lim X l sym B=some r):
 CallsH eE 82 [.pointer (jX tp),.int .i64 l,.int .i64 sym,.slice kv.1 kv.2.1 kv.2.2] h
 (Ae λv O=>v= .tuple #[.int .i64 r.1.1,.int .i64 r.1.2] ∧ ∃(ψ:AD) (tl':Slc),Sub φ ψ∧St ψ (trC tp ap mp tl' lim r.2 F) O):=by
 have q:∀ {ψ:AD} {w:AH} {tl:Slc} {X:TS},St ψ (trC tp ap mp tl lim X F) w→Cx w kv B:=λ{ψ w tl X} st=>T (Γ:=[_,_,_,_]) st;refine AN mixed func82 (Nb ..) ?_;have⟨W,D,hd⟩:=bS hd;refine Av (λ(z:Int×Int×Int×Unit) w (g:AY Unit Unit)=>g= .next ()∧St φ (trC tp ap mp tl lim X F) w) (g:=W) ?_ ?_
 ·refine Kh D (λi (z:Int×Int×Int×Unit) w _=>z.1=i∧St φ (trC tp ap mp tl lim X F) w) ((0:Int),(0:Int),(0:Int),()) rfl ⟨rfl,V⟩ ?_ ?_
  ·rintro _ z w _ e ⟨rfl,st⟩ a P hlt hw A;refine Ai (by rw[←n];exact decide_eq_true hlt) ?_;have⟨k,m,a⟩:=bS a;refine Tw (q st) n m<|AF _ rfl (AA (b:=tp) (j:=0) (x:=some ⟨ap,0,none⟩) st rfl ?_);refine AE (Tx (k:=k) (Xf st)) ?_;rintro _ Q ⟨st,y,rfl,E,_⟩;refine⟨y,rfl,?_⟩;refine AU (vs:=[.int .i64 0,.int .i64 0,.int .i64 0,.int .i64 0,.int .i64 0,.slice none 0 0,.bool false,.bool false]) st λR G s1=>AG s1 rfl rfl λ_ s1=>AG s1 rfl rfl λ_ s1=>AG s1 rfl rfl λ_ s1=>AG s1 rfl rfl λ_ s1=>AG s1 rfl rfl λ_ s1=>AG s1 rfl rfl λ_ s1=>AG s1 rfl rfl λ_ s1=>AG s1 rfl rfl λ_ s1=>kD a (by rw[E]) (λa=>?_) (λa=>?_)
   ·obtain rfl:=iS a;obtain rfl:=A _ rfl;obtain rfl:=iS hd;exact Ak (Al (AB ⟨rfl,φ,tl,sb,s1.tail.at3⟩))
   ·obtain rfl:=iS a;exact jZ rfl rfl ⟨hw,s1.tail.at3⟩
  ·rintro _ z w _ ⟨rfl,st⟩ hge hr;subst hr;refine AW (by rw[←n];exact decide_eq_false (lD.2 hge))<|AO (kB rfl ⟨rfl,st⟩)
 rintro S w1 ⟨rfl,st⟩;dsimp only at hd;have⟨Y,H,hd⟩:=bS hd;refine Av (λ(z:Int×Int×Int×Unit) w (g:AY Unit Unit)=>g= .next ()∧St φ (trC tp ap mp tl lim X F) w) (g:=Y) ?_ ?_
 ·refine Kh H (λi (z:Int×Int×Int×Unit) w _=>z.1=i∧St φ (trC tp ap mp tl lim X F) w) ((0:Int),S.2.1,S.2.2.1,()) rfl ⟨rfl,st⟩ ?_ ?_
  ·clear st;rintro _ z w _ e ⟨rfl,st⟩ a P hlt hw A;refine Ai (by rw[←n];exact decide_eq_true hlt) ?_;have⟨k,m,a⟩:=bS a;have⟨x,C,a⟩:=bS a;have⟨b,d,a⟩:=bS a;refine Tw (q st) n m<|AF _ rfl (AA (b:=tp) (j:=0) (x:=some ⟨ap,0,none⟩) st rfl ?_);refine AE (Tx (k:=k) (Xf st)) ?_;rintro _ Q ⟨st,y,rfl,E,f⟩;have f:=f x C;refine⟨y,rfl,?_⟩;refine AU (vs:=[.int .i64 0,.int .i64 0,.int .i64 0,.int .i64 0,.int .i64 0,.slice none 0 0,.bool false,.bool false]) st λR G s1=>AG s1 rfl rfl λ_ s1=>AG s1 rfl rfl λ_ s1=>AG s1 rfl rfl λ_ s1=>AG s1 rfl rfl λ_ s1=>AG s1 rfl rfl λ_ s1=>AG s1 rfl rfl λ_ s1=>AG s1 rfl rfl λ_ s1=>AG s1 rfl rfl λZ s1=>Ad (λ(y:Bool×Unit) w g=>y.1=g∧w=Z) (g:=b) ?_ ?_
   ·refine AA s1 rfl<|kD d f.h7 (λd=>?_) (λd=>?_)
    ·obtain rfl:=iS d;exact jY rfl ⟨rfl,rfl⟩
    ·have⟨c,hc,d⟩:=bS d;obtain⟨_,I,J,rfl⟩:=Ny hc;refine Am ⟨Int.le_refl _,I,Int.le_trans J (by omega)⟩<|AE (VH (t:=VG kv z.1) (fq (q s1.tail.at3)) (by rw[Wc,List.length_take];dsimp only;omega) d) ?_;rintro _ _ ⟨rfl,rfl⟩;exact⟨b,rfl,jY rfl ⟨rfl,rfl⟩⟩
   rintro⟨y,u⟩ w ⟨rfl,rfl⟩;refine kD a rfl (λa=>?_) (λa=>?_)
   ·obtain rfl:=iS a;obtain rfl:=A _ rfl;obtain rfl:=iS hd;exact Ak (Al (AB ⟨rfl,φ,tl,sb,s1.tail.at3⟩))
   ·obtain rfl:=iS a;exact jZ rfl rfl ⟨hw,s1.tail.at3⟩
  ·clear st;rintro _ z w _ ⟨rfl,st⟩ hge hr;subst hr;refine AW (by rw[←n];exact decide_eq_false (lD.2 hge))<|AO (kB rfl ⟨rfl,st⟩)
 clear st;rintro z2 w2 ⟨rfl,st⟩;dsimp only at hd;obtain⟨a0,K,hd⟩:=bS hd;obtain⟨A,rfl⟩:=Dg.cloneD_some K;have⟨p,M,hd⟩:=bS hd;refine AF _ rfl (AA (b:=tp) (j:=0) (x:=some ⟨ap,0,none⟩) st rfl ?_);refine AE (Dg.clone46_core st n (λO s=>q s) (λM=>(q st).nil M) A) ?_;rintro _ G ⟨y,rfl,st⟩;refine⟨y,rfl,?_⟩;refine AI (hC (b:=tp) (j:=0) st.at1 rfl) ?_;obtain⟨ψ3,a1,ky,st⟩:=st.freezeRow;rw[←n];refine AE (VK (y:=(l,sym,0,0,0,y,false,false,())) ⟨rfl,rfl,rfl,rfl,rfl,ky,rfl,rfl⟩ (Xf st) M) ?_;rintro _ h4 ⟨rfl,N,o,a2,st⟩;refine⟨(p.1.1,p.1.2,()),rfl,?_⟩;refine kD hd rfl (λhd=>?_) (λhd=>?_)
 ·obtain rfl:=iS hd;exact AB ⟨rfl,N,o,sb,st.at3⟩
 have⟨L,hL,hd⟩:=bS hd;obtain rfl:=iS hd;refine Bb hL (λi (z:Int×Unit) w (g:List Ds)=>z.1=i∧St N (trC tp ap mp o lim ⟨g,p.2.cells,p.2.used,p.2.mo⟩ F) w) ((0:Int),()) rfl ⟨rfl,st.at3⟩ ?_ ?_ ?_
 ·clear st;rintro _ z w g e ⟨rfl,st⟩ a P hlt hw;refine Ai (decide_eq_true hlt) ?_;have⟨k,m,a⟩:=bS a;have⟨x,C,a⟩:=bS a;obtain rfl:=iS a;rw[n];refine Tw (q st) n m<|AF _ rfl (AA (b:=tp) (j:=0) (x:=some ⟨ap,0,none⟩) st rfl ?_);refine AE (Tx (k:=k) (Xf st)) ?_;rintro _ Q ⟨st,y,rfl,E,f⟩;have f:=f x C;refine⟨y,rfl,?_⟩;refine AU (vs:=[.int .i64 0,.int .i64 0,.int .i64 0,.int .i64 0,.int .i64 0,.slice none 0 0,.bool false,.bool false]) st λR G s1=>AG s1 rfl rfl λ_ s1=>AG s1 rfl rfl λ_ s1=>AG s1 rfl rfl λ_ s1=>AG s1 rfl rfl λ_ s1=>AG s1 rfl rfl λ_ s1=>AG s1 rfl rfl λ_ s1=>AG s1 rfl rfl λ_ s1=>AG s1 rfl rfl λ_ s1=>AG s1 rfl rfl λ_ s1=>AF _ rfl (AA (b:=tp) (j:=0) (x:=some ⟨ap,0,none⟩) s1.at4 rfl ?_);refine AA s1 rfl (AA s1 rfl (AA s1 rfl (AA s1 rfl (AA s1 rfl (AA (x:=y.1.2.2.2.2.2.1) s1 rfl (AA s1 rfl (AA (x:=true) s1 rfl ?_)))))));refine AE (bH (k:=k) (y:=(y.1.1,y.1.2.1,y.1.2.2.1,y.1.2.2.2.1,y.1.2.2.2.2.1,y.1.2.2.2.2.2.1,y.1.2.2.2.2.2.2.1,true,())) (x:=((VJ x).1,(VJ x).2.1,(VJ x).2.2.1,(VJ x).2.2.2.1,(VJ x).2.2.2.2.1,(VJ x).2.2.2.2.2.1,(VJ x).2.2.2.2.2.2.1,true)) ⟨f.h0,f.h1,f.h2,f.h3,f.h4,f.h5,f.h6,rfl⟩ s1.tail C) ?_;rintro _ h5 ⟨rfl,s2⟩;refine⟨true,rfl,?_⟩;exact jZ rfl rfl ⟨hw,s2.at3⟩
 ·clear st;rintro _ z w ⟨rfl,st⟩ hge;refine AW (decide_eq_false (lD.2 hge))<|AO (kB rfl ⟨_,rfl,st⟩)
 ·clear st;rintro z w ⟨_,rfl,st⟩;exact AB ⟨rfl,N,o,sb,st⟩
end
theorem hO:GU eE 36 36 73 3:=⟨kO,.inl kO,⟨t73,by kernel_rfl,rfl,⟨_,rfl,rfl⟩,by decide,by decide⟩,by decide⟩
theorem Nh {φ:AD}{h:AH}{F:List Chk}{t:Slc}{l r:List DI}(k:bO Fe φ t l) (c:St φ F h) (hd:cloneD l=some r):
 CallsH eE 76 [.slice t.1 t.2.1 t.2.2] h (Ae λv e=>∃ψ:AD,∃y:Slc,∃l1:List DI,Sub φ ψ∧v=((.one aS):Sh).val y∧l1=r∧St ψ (cR 73 Fe y l1::F) e):=by
 obtain⟨f,rfl⟩:=cloneD_some hd;refine BF mixed func76 ?_;rw[Ft];unfold De;cases hp:t.1 with
 |none=>
  rw[k.2.2.2.1 hp];exact AB ⟨φ,(none,0,0),[],kV _,rfl,rfl,c.nil _ _⟩
 |some a=>
  rw[Option.isNone_some];refine AU (vs:=[]) c λb m s1=> ?_;have g:=lJ (r:=Fe) (l:=[]) (n:=0) s1 .nil rfl (by decide);have⟨o,i,d⟩:=k.heap s1.sub;rw[hp]at d;refine AZ (r:=Fe) (ms:=r) (l':=r) hO g rfl d i k.length.symm (by unfold app;rw[if_pos (by have:=f;simp;omega)];rfl) λy p j=>AB ⟨φ,y,_,kV _,rfl,rfl,j⟩
section
variable {φ:AD}{h:AH}{F:List Chk}
theorem Hq:GU eE 36 36 73 3:=⟨kO,.inl kO,⟨t73,by kernel_rfl,rfl,⟨_,rfl,rfl⟩,by decide,by decide⟩,by decide⟩
noncomputable def EZ (a_0:Int) (b_1:Int):Option Int:=(Cq a_0).bind λt1=>(Cq b_1).bind λt2=>(Cq (bD .i64 (t1+t2))).bind λt3=>some t3
theorem M0 {u:Int}{w:Int}(x:St φ F h) {r:Int}(hd:EZ u w=some r):
 CallsH eE 40 [(.int .i64 u),(.int .i64 w)] h (Ae λv z=>∃ψ:AD,∃y:Int,Sub φ ψ∧v=((.one aI):Sh).val y∧y=r∧St ψ F z):=by refine AN mixed func40 (Rt ..) ?_;have⟨i,a,hd⟩:=bS hd;refine AE (Fj x a) ?_;rintro _ j ⟨k,t1,l,rfl,rfl,b⟩;refine⟨t1,rfl,?_⟩;have⟨m,c,hd⟩:=bS hd;refine AE (Fj b c) ?_;rintro _ n ⟨o,t2,p,rfl,rfl,d⟩;refine⟨t2,rfl,?_⟩;have⟨q,e,hd⟩:=bS hd;refine AE (Fj d e) ?_;rintro _ s ⟨f,t3,t,rfl,rfl,g⟩;refine⟨t3,rfl,?_⟩;exact AB ⟨f,t3,sb,rfl,iS hd,g⟩
noncomputable def GM (x_0:DI):Option Bool:=some (x_0.1==0)
theorem Ni {c:Int×Int×Int×Unit}(d:St φ F h) {r:Bool}(hd:GM (c.1,c.2.1,c.2.2.1)=some r):
 CallsH eE 75 [(.agg #[(.int .i64 c.1),(.int .i64 c.2.1),(.int .i64 c.2.2.1)])] h (Ae λv e=>∃ψ:AD,∃y:Bool,Sub φ ψ∧v=((.one aB):Sh).val y∧y=r∧St ψ F e):=by refine AN mixed func75 (NZ ..)<|AU (vs:=[.int .i64 c.1,.int .i64 c.2.1,.int .i64 c.2.2.1]) d λf b a=>AA a rfl ?_;exact AB ⟨φ,(c.1==(0:Int)),sb,rfl,iS hd,a.tail⟩
noncomputable def Bw (s_0:List DI):Option Int:=
 (DF (σ:=Unit) (β:=Int) 0 (s_0.length:Int) () λa e=>
  (idx s_0 a).bind λb=>
  (GM (b.1,b.2.1,b.2.2)).bind λt7=>
  cond t7
  (some (kQ a))
  (some (kT ()))).bind λc=>match c with
 |.next f=>
  some (-1:Int)
 |.done d=>some d
theorem EK {A:Slc}{b:List DI}(d:bO Fe φ A b) (C:St φ F h) {r:Int}(hd:Bw b=some r):
 CallsH eE 74 [(sv A),(.func (.func 75) #[] #[])] h (Ae λv D=>∃ψ:AD,∃y:Int,Sub φ ψ∧v=((.one aI):Sh).val y∧y=r∧St ψ F D):=by
 refine AN mixed func74 (EJ ..) ?_;have e:A.2.1=kG b:=d.length;have⟨z,k,hd⟩:=bS hd;refine BR k (λl y E g=>∃ψ:AD,Sub φ ψ∧y.1=l∧()=g∧St ψ F E) ((0:Int),(0:Int),()) rfl ⟨φ,sb,rfl,rfl,C⟩ ?_ ?_ ?_
 ·rintro _ B a0 _ _ ⟨G,H,rfl,rfl,f⟩ a I m n o;refine Ai (dT e m)<|cC d a f λc a=> ?_;have⟨J,p,a⟩:=bS a;refine AE (Ni (c:=(c.1,c.2.1,c.2.2,())) f p) ?_;rintro _ K ⟨i,t7,L,rfl,rfl,j⟩;refine⟨t7,rfl,?_⟩;refine kD a rfl (λa=>?_) (λa=>?_)
  ·obtain rfl:=iS a;obtain rfl:=o _ rfl;obtain rfl:=iS hd;exact Ak (Al (AB ⟨i,B.1,sb,rfl,rfl,j⟩))
  obtain rfl:=iS a;exact jZ rfl rfl ⟨i,sb,n,rfl,j⟩
 ·rintro _ B M _ ⟨q,N,rfl,rfl,s⟩ t u;subst u;refine AW (dF e t)<|AO (kB rfl ⟨_,rfl,_,q,sb,rfl,rfl,s⟩)
 rintro O P ⟨_,rfl,_,w,Q,_,rfl,x⟩;exact AB ⟨w,(-1:Int),sb,rfl,iS hd,x⟩
noncomputable def Fu (a:List DI):Option (List DI):=(Bw a).bind λt1=>cond (decide (t1≥ 0)) ((cut a 0 (bD .i64 (t1+1))).bind λb=>(cloneD b).bind λt2=>some t2) ((cond (decide ((a.length:Int) >0)) ((idx a (bD .i64 ((a.length:Int) - 1))).bind λc=>(idx a (bD .i64 ((a.length:Int) - 1))).bind λd=>some (0,c.2.2,d.2.2)) (some (0,0,0))).bind λe=>(cloneD a).bind λf=>(app f ([(e.1,e.2.1,e.2.2)]:List DI)).bind λg=>some g)
theorem PZ {A:Slc}{m:List DI}(e:bO Fe φ A m) (J:St φ F h) {r:(List DI)}(hd:Fu m=some r):
 CallsH eE 39 [(sv A)] h (Ae λv K=>∃ψ:AD,∃y:Slc,∃q:List DI,Sub φ ψ∧v=((.one aS):Sh).val y∧q=r∧bO Fe ψ y q∧St ψ F K):=by
 refine AN mixed func39 (PS ..) ?_;have n:A.2.1=kG m:=e.length;have⟨d4,L,hd⟩:=bS hd;refine AE (EK e J L) ?_;rintro _ d5 ⟨f,t1,d6,rfl,rfl,s⟩;refine⟨t1,rfl,?_⟩;refine kD hd rfl (λhd=>?_) (λhd=>?_)
 ·have⟨d7,M,hd⟩:=bS hd;obtain⟨N,O⟩:=(e.up (ψ:=f)).cut (sz:=3) M rfl;refine Am N ?_;have⟨d8,P,hd⟩:=bS hd;have u:=Nh O s P;dsimp only at u;refine AE u ?_;rintro _ d9 ⟨dd,t2,Q,dg,rfl,rfl,R⟩;refine⟨t2,rfl,?_⟩;have⟨S,dk,al,ap⟩:=kF (t:=t2) R;exact AB ⟨S,t2,Q,sb,rfl,iS hd,al,ap⟩
 refine AU (vs:=[.int .i64 (0:Int),.int .i64 (0:Int),.int .i64 (0:Int)]) s λB dl T=>AG T rfl rfl λdp b1=>AG b1 rfl rfl λds U=>AG U rfl rfl λdx V=> ?_;have k:=St.shutR (r:=Fe) (x:=((0:Int),(0:Int),(0:Int))) V ⟨[_],_,rfl,rfl,⟨[_],_,rfl,rfl,rfl⟩⟩;have⟨W,d,hd⟩:=bS hd;refine Ad (λy X g=>∃ψ:AD,∃w:DI,Sub f ψ∧w=g∧St ψ (cO 73 (lF Fe) (jX B) w::F) X) (g:=W) ?_ ?_
 ·refine kD d (by rw[n] <;>rfl) (λd=>?_) (λd=>?_)
  ·have⟨o,z,d⟩:=bS d;rw[←n]at z;obtain⟨dy,e0,Y,Z,b7,b8⟩:=(e.up (ψ:=f)).get z;refine AF _ Y (Am Z ?_);obtain⟨_,_,rfl,rfl,⟨_,_,rfl,rfl,rfl⟩⟩:=b7;refine AL (x:=o.2.2) (by rw[Ac];exact(AM (hM sb k.sub) (b8 2 _ rfl))) rfl ?_;have⟨p,a0,d⟩:=bS d;rw[←n]at a0;obtain⟨e1,e2,bf,bg,bi,bj⟩:=(e.up (ψ:=f)).get a0;refine AF _ bf (Am bg ?_);obtain⟨_,_,rfl,rfl,⟨_,_,rfl,rfl,rfl⟩⟩:=bi;refine AL (x:=p.2.2) (by rw[Ac];exact(AM (hM sb k.sub) (bj 2 _ rfl))) rfl ?_;obtain⟨bw,e3,bx,⟨_,_,rfl,rfl,_,_,rfl,rfl,rfl⟩,bz⟩:=St.openR k;obtain rfl:B=bw:=by simpa using bx
   refine AG bz rfl rfl λe4 c0=>AG c0 rfl rfl λe5 c1=>AG c1 rfl rfl λe6 c2=> ?_;have c3:=St.shutR (r:=Fe) (x:=((0:Int),o.2.2,p.2.2)) c2 ⟨[_],_,rfl,rfl,⟨[_],_,rfl,rfl,rfl⟩⟩;exact jY rfl ⟨f,((0:Int),o.2.2,p.2.2),sb,iS d,c3⟩
  exact jY rfl ⟨f,((0:Int),(0:Int),(0:Int)),sb,iS d,k⟩
 rintro z4 e7 ⟨e8,c,e9,rfl,c4⟩;obtain⟨c5,ea,c6,⟨_,_,rfl,rfl,_,_,rfl,rfl,rfl⟩,i⟩:=St.openR c4;obtain rfl:B=c5:=by simpa using c6
 refine AA (x:=(c.1)) i rfl<|AA (x:=(c.2.1)) i rfl<|AA (x:=(c.2.2)) i rfl<|Dk ?_ ?_
 ·have⟨ec,c7,hd⟩:=bS hd;refine AE (Nh e.up i c7) ?_;rintro _ ed ⟨ee,E,ef,eg,rfl,rfl,l⟩;refine⟨E,rfl,?_⟩;refine AI (hC (b:=B) (j:=0) l.at1 rfl)<|AI (hC (b:=B) (j:=1) l.at1 rfl)<|AI (hC (b:=B) (j:=2) l.at1 rfl)<|AU (vs:=[.int .i64 c.1,.int .i64 c.2.1,.int .i64 c.2.2]) l λb9 ek H=> ?_;have⟨c8,c9,hd⟩:=bS hd;refine AZ (r:=Fe) (ms:=([(c.1,c.2.1,c.2.2)]:List DI)) Hq H.tail rfl (kJ H) (.cons (a:=[_,_,_]) ⟨[_],_,rfl,rfl,⟨[_],_,rfl,rfl,rfl⟩⟩ .nil) rfl c9 ?_;intro C el ch;have⟨cl,em,cm,cp⟩:=kF (t:=C) ch;exact AB ⟨cl,C,c8,sb,rfl,iS hd,cm,cp.tail⟩
 ·refine AU (vs:=[.int .i64 c.1,.int .i64 c.2.1,.int .i64 c.2.2]) i λf0 en cs=> ?_;have⟨eo,cu,hd⟩:=bS hd;refine AE (Nh e.up cs cu) ?_;rintro _ er ⟨es,G,ev,ew,rfl,rfl,I⟩;refine⟨G,rfl,?_⟩;have⟨cw,cx,hd⟩:=bS hd;refine AZ (r:=Fe) (ms:=([(c.1,c.2.1,c.2.2)]:List DI)) Hq I.at1.tail rfl (kJ I.at1) (.cons (a:=[_,_,_]) ⟨[_],_,rfl,rfl,⟨[_],_,rfl,rfl,rfl⟩⟩ .nil) rfl cx ?_;intro D ex d0;have⟨d1,ey,d2,d3⟩:=kF (t:=D) d0;exact AB ⟨d1,D,cw,sb,rfl,iS hd,d2,d3.tail⟩
noncomputable def DY (a_0:List Int) (b_1:List Int):Option Bool:=
 cond ((a_0.length:Int) !=(b_1.length:Int))
 (some false)
 ((DF (σ:=Unit) (β:=Bool) 0 (a_0.length:Int) () λa f=>
  (idx a_0 a).bind λc=>
  (idx b_1 a).bind λd=>
  cond (c !=d)
  (some (kQ false))
  (some (kT ()))).bind λb=>match b with
  |.next g=>
   some true
  |.done e=>some e)
theorem KV {A:Slc}{c:List Int}{B:Slc}{d:List Int}(f:bO (hA .i64) φ A c) (i:bO (hA .i64) φ B d) (C:St φ F h) {r:Bool}(hd:DY c d=some r):
 CallsH eE 38 [(sv A),(sv B)] h (Ae λv D=>∃ψ:AD,∃y:Bool,Sub φ ψ∧v=((.one aB):Sh).val y∧y=r∧St ψ F D):=by
 refine AN mixed func38 (KH ..) ?_;have e:A.2.1=kG c:=f.length;have k:B.2.1=kG d:=i.length;refine kD hd (by rw[e,k] <;>rfl) (λhd=>?_) (λhd=>?_)
 ·exact AB ⟨φ,false,sb,rfl,iS hd,C⟩
 have⟨z,l,hd⟩:=bS hd;refine BR l (λm y E g=>∃ψ:AD,Sub φ ψ∧y.1=m∧()=g∧St ψ F E) ((0:Int),false,()) rfl ⟨φ,sb,rfl,rfl,C⟩ ?_ ?_ ?_
 ·rintro _ G a0 _ _ ⟨j,H,rfl,rfl,b⟩ a I n o p;refine Ai (dT e n)<|gx f a b λJ a=>gx i a b λK a=>kD a rfl (λa=>?_) (λa=>?_)
  ·obtain rfl:=iS a;obtain rfl:=p _ rfl;obtain rfl:=iS hd;exact Ak (Al (AB ⟨j,false,sb,rfl,rfl,b⟩))
  obtain rfl:=iS a;exact jZ rfl rfl ⟨j,sb,o,rfl,b⟩
 ·rintro _ G L _ ⟨q,M,rfl,rfl,s⟩ t u;subst u;refine AW (dF e t)<|AO (kB rfl ⟨_,rfl,_,q,sb,rfl,rfl,s⟩)
 rintro N O ⟨_,rfl,_,w,P,_,rfl,x⟩;exact AB ⟨w,true,sb,rfl,iS hd,x⟩
noncomputable def Bf (a_0:gN) (b_1:gN):Option Bool:=(cond (a_0.1==b_1.1) (cond (a_0.2.1==b_1.2.1) (cond (a_0.2.2.1==b_1.2.2.1) ((DY a_0.2.2.2 b_1.2.2.2).bind λa=>some a) (some false)) (some false)) (some false)).bind λb=>some b
theorem C6 {z:Int×Int×Int×Slc×Unit}{c:List Int}{A:Int×Int×Int×Slc×Unit}{d:List Int}(e:bO (hA .i64) φ z.2.2.2.1 c) (f:bO (hA .i64) φ A.2.2.2.1 d) (C:St φ F h) {r:Bool}(hd:Bf (z.1,z.2.1,z.2.2.1,c) (A.1,A.2.1,A.2.2.1,d)=some r):
 CallsH eE 17 [(.agg #[(.int .i64 z.1),(.int .i64 z.2.1),(.int .i64 z.2.2.1),(sv z.2.2.2.1)]),(.agg #[(.int .i64 A.1),(.int .i64 A.2.1),(.int .i64 A.2.2.1),(sv A.2.2.2.1)])] h (Ae λv D=>∃ψ:AD,∃y:Bool,Sub φ ψ∧v=((.one aB):Sh).val y∧y=r∧St ψ F D):=by
 refine AN mixed func17 (KO ..)<|AU (vs:=[.int .i64 z.1,.int .i64 z.2.1,.int .i64 z.2.2.1,sv z.2.2.2.1]) C λE p i=>AU (vs:=[.int .i64 A.1,.int .i64 A.2.1,.int .i64 A.2.2.1,sv A.2.2.2.1]) i λG q b=> ?_;have⟨j,a,hd⟩:=bS hd;refine Ad (λy H g=>∃ψ:AD,Sub φ ψ∧y.1=g∧St ψ (gO G A::gO E z::F) H) (g:=j) ?_ ?_
 ·refine AA b.at1 rfl<|AA b rfl<|kD a rfl (λa=>?_) (λa=>?_)
  ·refine AA b.at1 rfl<|AA b rfl<|kD a rfl (λa=>?_) (λa=>?_)
   ·refine AA b.at1 rfl<|AA b rfl<|kD a rfl (λa=>?_) (λa=>?_)
    ·refine AA b.at1 rfl<|AA b rfl ?_;have⟨s,k,a⟩:=bS a;refine AE (KV e f b k) ?_;rintro _ t ⟨l,B,u,rfl,rfl,m⟩;refine⟨B,rfl,?_⟩;exact jY rfl ⟨l,sb,iS a,m.at1.at1⟩
    exact jY rfl ⟨φ,sb,iS a,b.at1.at1⟩
   exact jY rfl ⟨φ,sb,iS a,b.at1.at1⟩
  exact jY rfl ⟨φ,sb,iS a,b.at1.at1⟩
 rintro I w ⟨n,x,rfl,o⟩;exact AB ⟨n,I.1,sb,rfl,iS hd,o.tail.tail⟩
noncomputable def DZ (a_0:List DI) (b_1:List DI):Option Bool:=
 cond ((a_0.length:Int) !=(b_1.length:Int))
 (some false)
 ((DF (σ:=Unit) (β:=Bool) 0 (a_0.length:Int) () λa f=>
  (idx a_0 a).bind λb=>
  (idx b_1 a).bind λc=>
  cond (!((b.1==c.1) && ((b.2.1==c.2.1) && ((b.2.2==c.2.2) && true))))
  (some (kQ false))
  (some (kT ()))).bind λd=>match d with
  |.next g=>
   some true
  |.done e=>some e)
theorem KW {A:Slc}{c:List DI}{B:Slc}{d:List DI}(f:bO Fe φ A c) (i:bO Fe φ B d) (C:St φ F h) {r:Bool}(hd:DZ c d=some r):
 CallsH eE 26 [(sv A),(sv B)] h (Ae λv D=>∃ψ:AD,∃y:Bool,Sub φ ψ∧v=((.one aB):Sh).val y∧y=r∧St ψ F D):=by
 refine AN mixed func26 (KN ..) ?_;have e:A.2.1=kG c:=f.length;have k:B.2.1=kG d:=i.length;refine kD hd (by rw[e,k] <;>rfl) (λhd=>?_) (λhd=>?_)
 ·exact AB ⟨φ,false,sb,rfl,iS hd,C⟩
 have⟨z,l,hd⟩:=bS hd;refine BR l (λm y E g=>∃ψ:AD,Sub φ ψ∧y.1=m∧()=g∧St ψ F E) ((0:Int),false,()) rfl ⟨φ,sb,rfl,rfl,C⟩ ?_ ?_ ?_
 ·rintro _ G a0 _ _ ⟨j,H,rfl,rfl,b⟩ a I n o p;refine Ai (dT e n)<|cC f a b λJ a=>cC i a b λK a=>kD a rfl (λa=>?_) (λa=>?_)
  ·obtain rfl:=iS a;obtain rfl:=p _ rfl;obtain rfl:=iS hd;exact Ak (Al (AB ⟨j,false,sb,rfl,rfl,b⟩))
  obtain rfl:=iS a;exact jZ rfl rfl ⟨j,sb,o,rfl,b⟩
 ·rintro _ G L _ ⟨q,M,rfl,rfl,s⟩ t u;subst u;refine AW (dF e t)<|AO (kB rfl ⟨_,rfl,_,q,sb,rfl,rfl,s⟩)
 rintro N O ⟨_,rfl,_,w,P,_,rfl,x⟩;exact AB ⟨w,true,sb,rfl,iS hd,x⟩
noncomputable def BW (p_0:As) (b:List Int):Option (List DI×List Int):=(forS (σ:=(List Int×List DI)) 0 (b.length:Int) (([]:List Int),([]:List DI)) λa f=>(idx b a).bind λc=>need ((bD .i64 ((p_0.1.length:Int) - 1))≠0)<|(app f.2 ([((bD .i64 (1 +(kY (bD .i64 c) (bD .i64 ((p_0.1.length:Int) - 1))))),a,(bD .i64 (a+1)))]:List DI)).bind λt8=>(app f.1 ([(bD .i64 (1 +(kY (bD .i64 c) (bD .i64 ((p_0.1.length:Int) - 1)))))]:List Int)).bind λd=>some (d,t8)).bind λg=>(app g.2 ([(0,(b.length:Int),(b.length:Int))]:List DI)).bind λe=>some (e,g.1)
theorem B2 {B:Pl6}{A:As}{C:Slc}{c:List Int}(s:Gw φ B A) (j:bO (hA .u8) φ C c) (H:St φ F h) {r:(List DI×List Int)}(hd:BW A c=some r):
 CallsH eE 9 [(aG B),(sv C)] h (Ae λv I=>∃ψ:AD,∃y:Slc×Slc×Unit,∃k:List DI,∃l:List Int,Sub φ ψ∧v=((.tuple [aS,aS]):Sh).val y∧(k,l)=r∧bO Fe ψ y.1 k∧bO (hA .i64) ψ y.2.1 l∧St ψ F I):=by
 refine AN mixed func9 (KM ..) ?_;have f:B.1.2.1=kG A.1:=s.k0.length;have d:C.2.1=kG c:=j.length;refine Db (t:=B) H λJ ba u=> ?_;have⟨bb,w,hd⟩:=bS hd;refine Bb w (λx y K g=>∃ψ:AD,∃m:List Int,∃n:List DI,Sub φ ψ∧y.1=x∧(m,n)=g∧St ψ (cR 3 (hA .i64) y.2.1 m::cR 73 Fe y.2.2.1 n::Wq2 J B::F) K) ((0:Int),((none,0,0):Slc),((none,0,0):Slc),()) rfl ⟨φ,[],[],sb,rfl,rfl,(((((u.nil 3 (hA .i64)).nil 73 Fe).at2).at1).at2)⟩ ?_ ?_ ?_
 ·rintro _ D bd _ _ ⟨z,bf,bg,bi,rfl,rfl,i⟩ b bj a0 L;refine Ai (dT d a0)<|gx j b i λe b=>AA i.at2 rfl<|Cv b (by rw[f];exact id) λbl b=>AU (vs:=[.int .i64 (bD .i64 ((1:Int)+(kY (bD .i64 e) (bD .i64 ((B.1.2.1:Int) - (1:Int)))))),.int .i64 D.1,.int .i64 (wN D.1)]) i λr7 bp o=> ?_;have⟨M,N,b⟩:=bS b;refine AZ (r:=Fe) (ms:=([((bD .i64 ((1:Int)+(kY (bD .i64 e) (bD .i64 ((A.1.length:Int) - (1:Int)))))),D.1,(wN D.1))]:List DI)) Hq o.tail.at1 rfl (kJ o) (.cons (a:=[_,_,_]) ⟨[_],_,rfl,(show _=_ by rw[f];rfl),⟨[_],_,rfl,rfl,rfl⟩⟩ .nil) rfl N ?_;intro t8 bs O;refine AU (vs:=[.int .i64 (bD .i64 ((1:Int)+(kY (bD .i64 e) (bD .i64 ((B.1.2.1:Int) - (1:Int))))))]) O λr9 bt p=> ?_;have⟨P,Q,b⟩:=bS b;refine AZ (r:=(hA .i64)) (ms:=([(bD .i64 ((1:Int)+(kY (bD .i64 e) (bD .i64 ((A.1.length:Int) - (1:Int))))))]:List Int)) Ci p.tail.at1 rfl (kJ p) (.cons (a:=[_]) (show _=_ by rw[f];rfl) .nil) rfl Q ?_;intro R bw S;obtain rfl:=iS b;exact jZ rfl rfl ⟨z,P,M,sb,L,rfl,S.at1.at2.at1.at2⟩
 ·rintro _ D bx ⟨T,U,V,bz,rfl,rfl,al⟩ ap;refine AW (dF d ap)<|AO (kB rfl ⟨_,T,U,V,sb,rfl,rfl,al.at1.at2.at1.at2⟩)
 rintro G c0 ⟨_,c1,W,c2,c3,_,rfl,b1⟩;refine AU (vs:=[.int .i64 (0:Int),.int .i64 (C.2.1:Int),.int .i64 (C.2.1:Int)]) b1 λX c4 q=> ?_;have⟨Y,Z,hd⟩:=bS hd;refine AZ (r:=Fe) (ms:=([((0:Int),(c.length:Int),(c.length:Int))]:List DI)) Hq q.tail.at1 rfl (kJ q) (.cons (a:=[_,_,_]) ⟨[_],_,rfl,rfl,⟨[_],_,rfl,(show _=_ by rw[d];rfl),(show _=_ by rw[d];rfl)⟩⟩ .nil) rfl Z ?_;intro E c5 b4;have⟨c6,c7,b5,b6⟩:=kF (t:=E) b4;have⟨b7,c8,b8,b9⟩:=kF (t:=G.2.1) b6;exact AB ⟨b7,(E,G.2.1,()),Y,W,sb,rfl,iS hd,b5.up,b8,b9.tail⟩
end
section
variable {φ:AD}{h:AH}{F:List Chk}
noncomputable def CM (g_0:Bt) (p_1:As) (a:List Int) (b:Int):Option (List Int):=(EZ b 0).bind λt2=>(forS (σ:=List Int) 0 (p_1.1.length:Int) ([]:List Int) λc g=>(cond (decide ((a.length:Int) >0)) ((Xc g_0 (p_1.1,p_1.2.1,p_1.2.2.1,p_1.2.2.2.1,p_1.2.2.2.2.1,p_1.2.2.2.2.2) a c t2).bind λd=>some d) (some false)).bind λh=>(cond h ((app g ([c]:List Int)).bind λe=>some e) (some g)).bind λf=>some f).bind λi=>some i
theorem Mp {D:Option lL}{l:Bt}{A:Pl6}{f:As}{B:Slc}{i:List Int}{C:Int}(K:Pt GY φ D l) (b:Gw φ A f) (m:bO (hA .i64) φ B i) (L:St φ F h) {r:(List Int)}(hd:CM l f i C=some r):
 CallsH eE 79 [(.pointer D),(aG A),(sv B),(.int .i64 C)] h (Ae λv M=>∃ψ:AD,∃y:Slc,∃n:List Int,Sub φ ψ∧v=((.one aS):Sh).val y∧n=r∧bO (hA .i64) ψ y n∧St ψ F M):=by
 refine AN mixed func79 (Mj ..) ?_;have o:A.1.2.1=kG f.1:=b.k0.length;have N:B.2.1=kG i:=m.length;refine Db (t:=A) L λH bj O=> ?_;have⟨bl,P,hd⟩:=bS hd;refine AE (M0 O P) ?_;rintro _ bp ⟨p,t2,bs,rfl,rfl,q⟩;refine⟨t2,rfl,?_⟩;refine AA q rfl ?_;have⟨bt,Q,hd⟩:=bS hd;refine Bb Q (λR y E g=>∃ψ:AD,∃s:List Int,Sub p ψ∧y.1=R∧s=g∧St ψ (cR 3 (hA .i64) y.2.1 s::Wq2 H A::F) E) ((0:Int),((none,0,0):Slc),()) rfl ⟨p,[],sb,rfl,rfl,(((q.nil 3 (hA .i64)).at1).at1)⟩ ?_ ?_ ?_
 ·rintro _ G bw _ _ ⟨u,w,bx,rfl,rfl,j⟩ e bz S T;refine Ai (dT o S) ?_;have⟨U,c,e⟩:=bS e;refine Ad (λy E g=>∃ψ:AD,Sub u ψ∧y.1=g∧St ψ (cR 3 (hA .i64) G.2.1 w::Wq2 H A::F) E) (g:=U) ?_ ?_
  ·refine kD c (by rw[N] <;>rfl) (λc=>?_) (λc=>?_)
   ·refine Bi (t:=A) j.at1 ?_;have⟨c0,V,c⟩:=bS c;refine AE (bB (a:=(A.1,A.2.1,A.2.2.1,A.2.2.2.1,A.2.2.2.2.1,A.2.2.2.2.2.1,())) K.up b.k0.up b.k1.up b.k2.up b.k3.up b.k4.up b.k5.up m.up j V) ?_;rintro _ c1 ⟨al,I,c2,rfl,rfl,ap⟩;refine⟨I,rfl,?_⟩;exact jY rfl ⟨al,sb,iS c,ap.at1.at1⟩
   exact jY rfl ⟨u,sb,iS c,j.at1.at1⟩
  rintro z6 c3 ⟨k,c4,rfl,x⟩;have⟨W,d,e⟩:=bS e;refine Ad (λy E g=>∃ψ:AD,∃z:List Int,Sub k ψ∧z=g∧St ψ (cR 3 (hA .i64) y.1 z::Wq2 H A::F) E) (g:=W) ?_ ?_
  ·refine kD d rfl (λd=>?_) (λd=>?_)
   ·refine AU (vs:=[.int .i64 G.1]) x λX c5 a0=> ?_;have⟨b1,Y,d⟩:=bS d;refine AZ (r:=(hA .i64)) (ms:=([G.1]:List Int)) Ci a0.tail rfl (kJ a0) (.cons (a:=[_]) rfl .nil) rfl Y ?_;intro Z c6 b3;exact jY rfl ⟨k,b1,sb,iS d,b3.at1.at1⟩
   exact jY rfl ⟨k,w,sb,iS d,x.at1.at1⟩
  rintro d0 c7 ⟨b4,b5,c8,rfl,b6⟩;obtain rfl:=iS e;exact jZ rfl rfl ⟨b4,b5,sb,T,rfl,b6.at1.at1⟩
 ·rintro _ G c9 ⟨b7,b8,ch,rfl,rfl,b9⟩ ba;refine AW (dF o ba)<|AO (kB rfl ⟨_,b7,b8,sb,rfl,rfl,b9.at1.at1⟩)
 rintro J cl ⟨_,cm,bb,cp,_,rfl,bd⟩;have⟨bf,cs,bg,bi⟩:=kF (t:=J.2.1) bd;exact AB ⟨bf,J.2.1,bb,sb,rfl,iS hd,bg,bi.tail⟩
noncomputable def CW (a:Ko):Option CD:=some a.2.2.2.2.2.2.2.2.2.2.2.2.2.1
theorem Cg {f:Option lL}{a:Ko}(c:Pt Ri φ f a) (g:St φ F h) {r:CD}(hd:CW a=some r):
 CallsH eE 11 [(.pointer f)] h (Ae λv i=>∃ψ:AD,∃y:Option lL,∃b:CD,Sub φ ψ∧v=((.one aP):Sh).val y∧b=r∧Pt (Ro.at El) ψ y b∧St ψ F i):=by refine AN mixed func11 (FS ..)<|pfR cN c g λd e=> ?_;exact AB ⟨φ,d,a.2.2.2.2.2.2.2.2.2.2.2.2.2.1,sb,rfl,iS hd,e,g⟩
noncomputable def Ao (a:Ko):Option (Int×Int×Int×List Int):=(Dg.cloneD a.2.2.2.2.2.2.2.2.2.2.2.2.2.2.2.2.2.1).bind λb=>some (a.2.2.2.2.2.2.2.2.2.2.2.2.2.2.1,a.2.2.2.2.2.2.2.2.2.2.2.2.2.2.2.1,a.2.2.2.2.2.2.2.2.2.2.2.2.2.2.2.2.1,b)
theorem Ar {A:Option lL}{a:Ko}(i:Pt Ri φ A a) (C:St φ F h) {r:(Int×Int×Int×List Int)}(hd:Ao a=some r):
 CallsH eE 12 [(.pointer A)] h (Ae λv D=>∃ψ:AD,∃y:Int×Int×Int×Slc×Unit,∃f:List Int,Sub φ ψ∧v=((.one (.agg [(.int .i64),(.int .i64),(.int .i64),.slice])):Sh).val y∧(y.1,y.2.1,y.2.2.1,f)=r∧bO (hA .i64) ψ y.2.2.2.1 f∧St ψ F D):=by refine AN mixed func12 (EY ..)<|AU (vs:=[.int .i64 (0:Int),.int .i64 (0:Int),.int .i64 (0:Int),.slice none 0 0]) C λI J b=> ?_;obtain⟨K,L,j,⟨_,_,rfl,⟨M,rfl,N⟩,_,_,rfl,⟨O,rfl,P⟩,_,_,rfl,⟨al,rfl,ap⟩,_,_,rfl,⟨Q,rfl,b1⟩,_,_,rfl,⟨R,rfl,S⟩,_,_,rfl,⟨T,rfl,U⟩,_,_,rfl,⟨V,rfl,W⟩,_,_,rfl,⟨X,rfl,Y⟩,_,_,rfl,rfl,_,_,rfl,rfl,_,_,rfl,⟨Z,rfl,bb⟩,_,_,rfl,⟨bd,rfl,bf⟩,_,_,rfl,⟨bg,rfl,bi⟩,_,_,rfl,⟨bj,rfl,bl⟩,_,_,rfl,rfl,_,_,rfl,rfl,_,_,rfl,rfl,_,_,rfl,⟨k,rfl,l⟩,_,_,rfl,rfl,rfl⟩,e⟩:=id i;refine AF _ j<|AL (x:=a.2.2.2.2.2.2.2.2.2.2.2.2.2.2.1) (AM (hM sb b.sub) (e.at 14 rfl)) rfl<|AL (x:=a.2.2.2.2.2.2.2.2.2.2.2.2.2.2.2.1) (by rw[Ac];exact AM (hM sb b.sub) (e.at 15 rfl)) rfl<|AL (x:=a.2.2.2.2.2.2.2.2.2.2.2.2.2.2.2.2.1) (by rw[Ac];exact AM (hM sb b.sub) (e.at 16 rfl)) rfl<|AL (x:=k) (by rw[Ac];exact AM (hM sb b.sub) (e.at 17 rfl)) rfl<|AU (vs:=[.int .i64 (0:Int),.int .i64 (0:Int),.int .i64 (0:Int),.slice none 0 0]) b λr7 bp m=>AG m rfl rfl λbs n=>AG n rfl rfl λbt o=>AG o rfl rfl λbw p=>AG p rfl rfl λbx g=>AA g rfl ?_;have⟨bz,q,hd⟩:=bS hd;refine AE (Dg.clone46_ro l g q) ?_;rintro _ c0 ⟨c1,B,s,c2,rfl,rfl,u⟩;refine⟨B,rfl,?_⟩;refine AG u.at1 rfl rfl λc3 c=>AA c rfl<|AA c rfl<|AA c rfl<|AA c rfl<|AG c.at2 rfl rfl λc4 w=>AG w rfl rfl λc5 z=>AG z rfl rfl λc6 a0=>AG a0 rfl rfl λc7 d=>AA d rfl<|AA d rfl<|AA d rfl<|AA d rfl ?_;have⟨E,c8,G,H⟩:=kF (t:=B) d.at2;exact AB ⟨E,(a.2.2.2.2.2.2.2.2.2.2.2.2.2.2.1,a.2.2.2.2.2.2.2.2.2.2.2.2.2.2.2.1,a.2.2.2.2.2.2.2.2.2.2.2.2.2.2.2.2.1,B,()),s,sb,rfl,iS hd,G,H.tail.tail⟩
noncomputable def BB (a:Ko):Option Int:=some a.2.2.2.2.2.2.2.2.2.2.2.2.2.2.2.2.2.2.2
theorem A9 {c:Option lL}{a:Ko}(b:Pt Ri φ c a) (d:St φ F h) {r:Int}(hd:BB a=some r):
 CallsH eE 13 [(.pointer c)] h (Ae λv e=>∃ψ:AD,∃y:Int,Sub φ ψ∧v=((.one aI):Sh).val y∧y=r∧St ψ F e):=by refine AN mixed func13 (FU ..)<|pfS cQ b d ?_;exact AB ⟨φ,a.2.2.2.2.2.2.2.2.2.2.2.2.2.2.2.2.2.2.2,sb,rfl,iS hd,d⟩
noncomputable def CN (a:Ko):Option Int:=some a.2.2.2.2.2.2.2.2.2.2.2.2.2.2.2.2.2.2.1
theorem CZ {c:Option lL}{a:Ko}(b:Pt Ri φ c a) (d:St φ F h) {r:Int}(hd:CN a=some r):
 CallsH eE 20 [(.pointer c)] h (Ae λv e=>∃ψ:AD,∃y:Int,Sub φ ψ∧v=((.one aI):Sh).val y∧y=r∧St ψ F e):=by refine AN mixed func20 (E1 ..)<|pfS cP b d ?_;exact AB ⟨φ,a.2.2.2.2.2.2.2.2.2.2.2.2.2.2.2.2.2.2.1,sb,rfl,iS hd,d⟩
noncomputable def C2 (a_0:CD) (a:Int):Option Bool:=(cond (decide (a≥ 0)) (some (decide (a< (a_0.2.1.length:Int)))) (some false)).bind λb=>some b
theorem G1 {n:Option lL}{b:CD}{o:Int}(c:Pt El φ n b) (p:St φ F h) {r:Bool}(hd:C2 b o=some r):
 CallsH eE 90 [(.pointer n),(.int .i64 o)] h (Ae λv q=>∃ψ:AD,∃y:Bool,Sub φ ψ∧v=((.one aB):Sh).val y∧y=r∧St ψ F q):=by
 refine AN mixed func90 (D1 ..) ?_;have⟨d,a,hd⟩:=bS hd;refine Ad (λy s g=>∃ψ:AD,Sub φ ψ∧y.1=g∧St ψ F s) (g:=d) ?_ ?_
 ·refine kD a rfl (λa=>?_) (λa=>?_)
  ·refine pfR S9 c p λe f=> ?_;have i:=f.length;obtain rfl:=iS a;exact jY rfl ⟨φ,sb,(by rw[i]),p⟩
  exact jY rfl ⟨φ,sb,iS a,p⟩
 rintro t l ⟨j,m,rfl,k⟩;exact AB ⟨j,t.1,sb,rfl,iS hd,k⟩
noncomputable def Ax (a_0:CD) (b:Int):Option (Int×Int×Int×Int×Int×List Int×Bool×Bool×Bool):=(C2 a_0 b).bind λt2=>cond (!t2) (some (0,0,0,0,0,([]:List Int),false,false,false)) ((idx a_0.2.1 b).bind λa=>some (a.1,a.2.1,a.2.2.1,a.2.2.2.1,a.2.2.2.2.1,a.2.2.2.2.2.1,a.2.2.2.2.2.2.1,a.2.2.2.2.2.2.2.1,true))
theorem BO {A:Option lL}{g:CD}{B:Int}(i:Pt El φ A g) (C:St φ F h) {r:(Int×Int×Int×Int×Int×List Int×Bool×Bool×Bool)}(hd:Ax g B=some r):
 CallsH eE 51 [(.pointer A),(.int .i64 B)] h (Ae λv D=>∃ψ:AD,∃y:(Int×Int×Int×Int×Int×Slc×Bool×Bool×Unit)×Bool×Unit,∃j:List Int,Sub φ ψ∧v=((.tuple [(.agg [(.int .i64),(.int .i64),(.int .i64),(.int .i64),(.int .i64),.slice,.bool,.bool]),aB]):Sh).val y∧(y.1.1,y.1.2.1,y.1.2.2.1,y.1.2.2.2.1,y.1.2.2.2.2.1,j,y.1.2.2.2.2.2.2.1,y.1.2.2.2.2.2.2.2.1,y.2.1)=r∧bO (hA .i64) ψ y.1.2.2.2.2.2.1 j∧St ψ F D):=by
 refine AN mixed func51 (Dz ..)<|AU (vs:=[.int .i64 (0:Int),.int .i64 (0:Int),.int .i64 (0:Int),.int .i64 (0:Int),.int .i64 (0:Int),.slice none 0 0,.bool false,.bool false]) C λP Q l=> ?_;have⟨R,m,hd⟩:=bS hd;refine AE (G1 i l m) ?_;rintro _ S ⟨f,t2,bl,rfl,rfl,a⟩;refine⟨t2,rfl,?_⟩;refine kD hd rfl (λhd=>?_) (λhd=>?_)
 ·refine AA (x:=(0:Int)) a rfl<|AA (x:=(0:Int)) a rfl<|AA (x:=(0:Int)) a rfl<|AA (x:=(0:Int)) a rfl<|AA (x:=(0:Int)) a rfl<|AA (x:=((none,0,0):Slc)) a rfl<|AA a rfl<|AA a rfl<|AG a rfl rfl λbp n=>AG n rfl rfl λT o=>AG o rfl rfl λU p=>AG p rfl rfl λbw q=>AG q rfl rfl λV s=>AG s rfl rfl λbz t=>AG t rfl rfl λW u=>AG u rfl rfl λc1 c=>AA (x:=(0:Int)) c rfl<|AA (x:=(0:Int)) c rfl<|AA (x:=(0:Int)) c rfl<|AA (x:=(0:Int)) c rfl<|AA (x:=(0:Int)) c rfl<|AA (x:=((none,0,0):Slc)) c rfl<|AA c rfl<|AA c rfl ?_;exact AB ⟨f,(((0:Int),(0:Int),(0:Int),(0:Int),(0:Int),((none,0,0):Slc),false,false,()),false,()),[],sb,rfl,iS hd,(kL (hA .i64) f),c.tail⟩
 refine pfR S9 i a λc2 w=> ?_;have⟨b,z,hd⟩:=bS hd;obtain⟨X,Y,a0,E,G,e⟩:=(w.up (ψ:=f)).get z;refine AF _ a0 (Am E ?_);obtain⟨_,_,rfl,rfl,⟨_,_,rfl,rfl,⟨_,_,rfl,rfl,⟨_,_,rfl,rfl,⟨_,_,rfl,rfl,⟨_,_,rfl,⟨k,rfl,H⟩,⟨_,_,rfl,rfl,⟨_,_,rfl,rfl,rfl⟩⟩⟩⟩⟩⟩⟩⟩:=G;refine AL (x:=b.1) (AM (hM sb a.sub) (e 0 _ rfl)) rfl<|AL (x:=b.2.1) (by rw[Ac];exact(AM (hM sb a.sub) (e 1 _ rfl))) rfl<|AL (x:=b.2.2.1) (by rw[Ac];exact(AM (hM sb a.sub) (e 2 _ rfl))) rfl<|AL (x:=b.2.2.2.1) (by rw[Ac];exact(AM (hM sb a.sub) (e 3 _ rfl))) rfl<|AL (x:=b.2.2.2.2.1) (by rw[Ac];exact(AM (hM sb a.sub) (e 4 _ rfl))) rfl<|AL (x:=k) (by rw[Ac];exact(AM (hM sb a.sub) (e 5 _ rfl))) rfl<|AL (x:=b.2.2.2.2.2.2.1) (by rw[Ac];exact(AM (hM sb a.sub) (e 6 _ rfl))) rfl<|AL (x:=b.2.2.2.2.2.2.2.1) (by rw[Ac];exact(AM (hM sb a.sub) (e 7 _ rfl))) rfl<|AG a rfl rfl λZ I=>AG I rfl rfl λc6 J=>AG J rfl rfl λc7 K=>AG K rfl rfl λc8 L=>AG L rfl rfl λc9 M=>AG M rfl rfl λch N=>AG N rfl rfl λcl O=>AG O rfl rfl λcm d=>AA d rfl<|AA d rfl<|AA d rfl<|AA d rfl<|AA d rfl<|AA d rfl<|AA d rfl<|AA d rfl ?_;exact AB ⟨f,((b.1,b.2.1,b.2.2.1,b.2.2.2.1,b.2.2.2.2.1,k,b.2.2.2.2.2.2.1,b.2.2.2.2.2.2.2.1,()),true,()),b.2.2.2.2.2.1,sb,rfl,iS hd,H,d.tail⟩
noncomputable def EG (a_0:CD):Option Int:=some (a_0.2.1.length:Int)
theorem Gs {f:Option lL}{a:CD}(b:Pt El φ f a) (g:St φ F h) {r:Int}(hd:EG a=some r):
 CallsH eE 47 [(.pointer f)] h (Ae λv i=>∃ψ:AD,∃y:Int,Sub φ ψ∧v=((.one aI):Sh).val y∧y=r∧St ψ F i):=by refine AN mixed func47 (Di ..)<|pfR S9 b g λc d=> ?_;have e:=d.length;obtain rfl:=iS hd;exact AB ⟨φ,(c.2.1:Int),sb,rfl,(by rw[e]),g⟩
noncomputable def Dj (a_0:CD):Option Int:=some a_0.2.2
theorem F3 {c:Option lL}{a:CD}(b:Pt El φ c a) (d:St φ F h) {r:Int}(hd:Dj a=some r):
 CallsH eE 36 [(.pointer c)] h (Ae λv e=>∃ψ:AD,∃y:Int,Sub φ ψ∧v=((.one aI):Sh).val y∧y=r∧St ψ F e):=by refine AN mixed func36 (F0 ..)<|pfS cJ b d ?_;exact AB ⟨φ,a.2.2,sb,rfl,iS hd,d⟩
noncomputable def G2 (a:CD):Option Int:=(EG a).bind λt3=>some t3
theorem IH {p:Option lL}{a:CD}(b:Pt (Ro.at El) φ p a) (q:St φ F h) {r:Int}(hd:G2 a=some r):
 CallsH eE 23 [(.pointer p)] h (Ae λv s=>∃ψ:AD,∃y:Int,Sub φ ψ∧v=((.one aI):Sh).val y∧y=r∧St ψ F s):=by refine AN mixed func23 (IG ..) ?_;obtain⟨k,l,c,⟨d,rfl,e⟩,f⟩:=id b;refine AF _ c<|AL (x:=d) (AM (hM sb q.sub) (f.at 0 rfl)) rfl ?_;have⟨m,g,hd⟩:=bS hd;refine AE (Gs e q g) ?_;rintro _ n ⟨i,t3,o,rfl,rfl,j⟩;refine⟨t3,rfl,?_⟩;exact AB ⟨i,t3,sb,rfl,iS hd,j⟩
noncomputable def Fv (a:CD):Option Int:=(Dj a).bind λt3=>some t3
theorem HB {p:Option lL}{a:CD}(b:Pt (Ro.at El) φ p a) (q:St φ F h) {r:Int}(hd:Fv a=some r):
 CallsH eE 14 [(.pointer p)] h (Ae λv s=>∃ψ:AD,∃y:Int,Sub φ ψ∧v=((.one aI):Sh).val y∧y=r∧St ψ F s):=by refine AN mixed func14 (Mk ..) ?_;obtain⟨k,l,c,⟨d,rfl,e⟩,f⟩:=id b;refine AF _ c<|AL (x:=d) (AM (hM sb q.sub) (f.at 0 rfl)) rfl ?_;have⟨m,g,hd⟩:=bS hd;refine AE (F3 e q g) ?_;rintro _ n ⟨i,t3,o,rfl,rfl,j⟩;refine⟨t3,rfl,?_⟩;exact AB ⟨i,t3,sb,rfl,iS hd,j⟩
end
structure MK where
 p:As
 g:dtG
 toks:List dtT
 bound:Int
 lim:Int
structure MS where
 pos:Int
 S:List Int
 N:List Int
 C:List Int
 X:TS
 kind:Int
 root:Int
 oat:Int
 exp:List Int
 steps:Int
 most:Int
structure MA where
 t:Slc×Slc×Slc×Slc×Slc×Slc×Unit
 gp:Option lL
 ts:Slc
 tp:Nat
 ap:Nat
 mp:Nat
abbrev mV (A:MA) (K:MK) (ss ns cs es:Slc) (s:MS):List lK:=[sv A.t.1,sv A.t.2.1,sv A.t.2.2.1,sv A.t.2.2.2.1,sv A.t.2.2.2.2.1,sv A.t.2.2.2.2.2.1,.pointer A.gp,sv A.ts,.int .i64 s.pos,.int .i64 K.bound,sv ss,sv ns,sv cs,.pointer (some ⟨A.tp,0,none⟩),.int .i64 s.kind,.int .i64 s.root,.int .i64 s.oat,sv es,.int .i64 s.steps,.int .i64 s.most]
abbrev mcC (m:Nat) (A:MA) (K:MK) (ss ns cs es tl:Slc) (s:MS) (F:List Chk):List Chk:=
 cW 75 m (mV A K ss ns cs es s)::cR 3 (hA .i64) ss s.S::cR 3 (hA .i64) ns s.N::trC A.tp A.ap A.mp tl K.lim s.X F
structure MF (φ:AD) (A:MA) (K:MK):Prop where
 k0:bO kZ φ A.t.1 K.p.1
 k1:bO kZ φ A.t.2.1 K.p.2.1
 k2:bO CB φ A.t.2.2.1 K.p.2.2.1
 k3:bO (hA .i64) φ A.t.2.2.2.1 K.p.2.2.2.1
 k4:bO (hA .i64) φ A.t.2.2.2.2.1 K.p.2.2.2.2.1
 k5:bO kZ φ A.t.2.2.2.2.2.1 K.p.2.2.2.2.2
 kg:Pt GY φ A.gp K.g
 kt:bO Fe φ A.ts K.toks
theorem MF.mono {φ ψ:AD}{A:MA}{K:MK}(H:MF φ A K) (a:Sub φ ψ):MF ψ A K:=⟨H.k0.mono a,H.k1.mono a,H.k2.mono a,H.k3.mono a,H.k4.mono a,H.k5.mono a,H.kg.mono a,H.kt.mono a⟩
def MOk (φ:AD) (m:Nat) (A:MA) (K:MK) (s:MS) (F:List Chk) (h:AH):Prop:=
 ∃ss ns cs es tl:Slc,bO (hA .i64) φ cs s.C∧bO (hA .i64) φ es s.exp∧St φ (mcC m A K ss ns cs es tl s F) h
def E5 (s:MS) (k r a:Int) (e:List Int):MS:={s with kind:=k,root:=r,oat:=a,exp:=e}
def Hr (s:MS):MS:=E5 s 3 0 0 []
noncomputable def VM (s:MS) (b a:Int):Option MS:=(app s.N [b]).bind λN=>(app s.S [a]).bind λS=>some {s with N:=N,S:=S,most:=if(N.length:Int) >s.most then(N.length:Int) else s.most}
noncomputable def T0 (K:MK) (s:MS) (a:Int):Option MS:=cond (decide ((s.N.length:Int) ≥K.bound)) (some (Hr s))<|(idx K.toks s.pos).bind λb=>(bI K.lim s.X b).bind λr=>cond (r.1.2 !=0) (some (Hr {s with X:=r.2}))<|(VM {s with X:=r.2} r.1.1 a).bind λs=>(Dg.cloneD s.S).bind λc=>some {s with pos:=bD .i64 (s.pos+1),C:=c}
noncomputable def Ot (K:MK) (s:MS) (a:Int):Option MS:=(idx K.p.2.2.1 a).bind λr=>cond (decide (bD .i64 ((s.N.length:Int) - (r.2.1.length:Int)) ≥K.bound)) (some (Hr s))<|(cut s.N (bD .i64 ((s.N.length:Int) - (r.2.1.length:Int))) (s.N.length:Int)).bind λc=>(VL K.lim s.X a r.1 c).bind λx=>cond (x.1.2 !=0) (some (Hr {s with X:=x.2}))<|(cut s.N 0 (bD .i64 ((s.N.length:Int) - (r.2.1.length:Int)))).bind λN=>(cut s.S 0 (bD .i64 (bD .i64 ((s.N.length:Int) - (r.2.1.length:Int))+1))).bind λS=>(idx S (bD .i64 ((s.N.length:Int) - (r.2.1.length:Int)))).bind λb=>(Cf K.g b r.1).bind λv=>VM {s with X:=x.2,N:=N,S:=S} x.1.1 v
noncomputable def QL (s:MS):Option MS:=(idx s.N (bD .i64 ((s.N.length:Int) - 1))).bind λr=>some (E5 s 1 r 0 [])
noncomputable def T1 (K:MK) (s:MS):Option MS:=(CM K.g K.p s.C K.bound).bind λe=>some (E5 s 2 0 s.pos e)
theorem Holds.cons {F:List Chk}{t:Slc}{l:List Int}(c:Chk) (H:Holds F t l):Holds (c::F) t l:=λ{ψ h Γ} st=>H (Γ:=Γ++ [c]) (by rw[List.append_assoc];exact st)
section
variable {φ:AD}{h:AH}{F:List Chk}{m:Nat}{A:MA}{K:MK}{s:MS}
theorem RZ {x:Int×Int×Int×Slc×Unit}{e:List Int}(a:bO (hA .i64) φ x.2.2.2.1 e) (H:MOk φ m A K s F h):
 CallsH eE 78 [.pointer (jX m),.agg #[.int .i64 x.1,.int .i64 x.2.1,.int .i64 x.2.2.1,.slice x.2.2.2.1.1 x.2.2.2.1.2.1 x.2.2.2.1.2.2]] h
 (Ae λv c=>v= .tuple #[] ∧MOk φ m A K (E5 s x.1 x.2.1 x.2.2.1 e) F c):=by obtain⟨ss,ns,cs,es,tl,d,_,st⟩:=H;refine AN mixed func78 (Jk ..)<|AU (vs:=[.int .i64 x.1,.int .i64 x.2.1,.int .i64 x.2.2.1,sv x.2.2.2.1]) st λf g s1=>AA s1 rfl (AA s1 rfl (AA s1 rfl (AA (x:=x.2.2.2.1) s1 rfl ?_)));refine AF _ rfl (AG (b:=m) (j:=14) s1.tail rfl rfl λ_ s1=>AG (b:=m) (j:=15) s1 rfl rfl λ_ s1=>AG (b:=m) (j:=16) s1 rfl rfl λ_ s1=>AG (b:=m) (j:=17) s1 rfl rfl λ_ s1=> ?_);exact AB ⟨rfl,ss,ns,cs,x.2.2.2.1,tl,d,a,s1⟩
theorem Jm (H:MOk φ m A K s F h):CallsH eE 78 [.pointer (jX m),.agg #[.int .i64 (3:Int),.int .i64 (0:Int),.int .i64 (0:Int),.slice none 0 0]] h
 (Ae λv a=>v= .tuple #[] ∧MOk φ m A K (Hr s) F a):=RZ (x:=(3,0,0,((none,0,0):Slc),())) (kL _ _) H
theorem VN {n:Int}{s':MS}(H:MOk φ m A K s F h) (hd:QL s=some s'):
 CallsH eE 45 [.pointer (jX m),.int .i64 n] h (Ae λv a=>v= .tuple #[] ∧ ∃ψ,Sub φ ψ∧MOk ψ m A K s' F a):=by refine AN mixed func45 (Hx ..) ?_;have c:=H;obtain⟨ss,ns,cs,es,tl,f,g,st⟩:=c;unfold QL at hd;have d:=st.at2.rowLen;rw[←d]at hd;have⟨r,e,hd⟩:=bS hd;obtain rfl:=iS hd;refine AF _ rfl (AA (b:=m) (j:=11) (x:=ns) st rfl ?_);refine AF _ rfl (AA (b:=m) (j:=11) (x:=ns) st rfl ?_);refine Qc st.at2 e<|AE (RZ (x:=(1,r,0,((none,0,0):Slc),())) (kL _ _) H) ?_;rintro _ i ⟨rfl,H⟩;exact⟨(),rfl,AB ⟨rfl,φ,sb,H⟩⟩
theorem VO {n:Int}{s':MS}(M:MF φ A K) (H:MOk φ m A K s F h) (hd:T1 K s=some s'):
 CallsH eE 42 [.pointer (jX m),.int .i64 n] h (Ae λv c=>v= .tuple #[] ∧ ∃ψ,Sub φ ψ∧MOk ψ m A K s' F c):=by refine AN mixed func42 (Hv ..) ?_;obtain⟨ss,ns,cs,es,tl,a,d,st⟩:=H;unfold T1 at hd;have⟨e,f,hd⟩:=bS hd;obtain rfl:=iS hd;refine AF _ rfl (AA (b:=m) (j:=8) (x:=s.pos) st rfl ?_);refine AF _ rfl (AA (b:=m) (j:=6) (x:=A.gp) st rfl ?_);refine AF _ rfl (AA (b:=m) (j:=0) (x:=A.t.1) st rfl (AA (b:=m) (j:=1) (x:=A.t.2.1) st rfl (AA (b:=m) (j:=2) (x:=A.t.2.2.1) st rfl (AA (b:=m) (j:=3) (x:=A.t.2.2.2.1) st rfl (AA (b:=m) (j:=4) (x:=A.t.2.2.2.2.1) st rfl (AA (b:=m) (j:=5) (x:=A.t.2.2.2.2.2.1) st rfl ?_))))));refine AF _ rfl (AA (b:=m) (j:=12) (x:=cs) st rfl ?_);refine AF _ rfl (AA (b:=m) (j:=9) (x:=K.bound) st rfl ?_);refine AE (Mp (A:=A.t) M.kg ⟨M.k0,M.k1,M.k2,M.k3,M.k4,M.k5⟩ a st f) ?_;rintro _ g ⟨ψ,y,l,le,rfl,rfl,k,st⟩;refine⟨y,rfl,?_⟩;refine AI (hC (b:=m) (j:=8) st rfl)<|AE (RZ (s:=s) (x:=(2,0,s.pos,y,())) k ⟨ss,ns,cs,es,tl,a.mono le,d.mono le,st⟩) ?_;rintro _ i ⟨rfl,H⟩;exact⟨(),rfl,AB ⟨rfl,ψ,le,H⟩⟩
noncomputable def hQ (m:Option lL) (t6 t8:Slc):T:=deref m λg=>lG (g.add 11) (.slice t6.1 t6.2.1 t6.2.2)<|deref m λc=>lG (c.add 10) (.slice t8.1 t8.2.1 t8.2.2)<|deref m λd=>jJ d 19 λa=>deref m λe=>iU e 11 λb=>deref m λf=>lG (f.add 19) (.int .i64 (if(b.2.1:Int) >a then(b.2.1:Int) else a))<|T.ret (.tuple #[])
theorem Pa {ss ns cs es tl t6 t8:Slc}{S N:List Int}(a:bO (hA .i64) φ cs s.C) (c:bO (hA .i64) φ es s.exp)
 (st:St φ (cW 75 m (mV A K ss ns cs es s)::cR 3 (hA .i64) t8 S::cR 3 (hA .i64) t6 N::trC A.tp A.ap A.mp tl K.lim s.X F) h):
 (hQ (jX m) t6 t8).wp eE (Kf (Ae λv d=>v= .tuple #[] ∧MOk φ m A K {s with N:=N,S:=S,most:=if(N.length:Int) >s.most then(N.length:Int) else s.most} F d)) h:=by refine AF _ rfl (AG (b:=m) (j:=11) st rfl rfl λ_ st=> ?_);refine AF _ rfl (AG (b:=m) (j:=10) st rfl rfl λ_ st=> ?_);refine AF _ rfl (AA (b:=m) (j:=19) (x:=s.most) st rfl ?_);refine AF _ rfl (AA (b:=m) (j:=11) (x:=t6) st rfl ?_);rw[st.at2.rowLen];refine AF _ rfl (AG (b:=m) (j:=19) st rfl rfl λ_ st=> ?_);exact AB ⟨rfl,t8,t6,cs,es,tl,a,c,st⟩
theorem Sf {c a:Int}{s':MS}(H:MOk φ m A K s F h) (hd:VM s c a=some s'):
 CallsH eE 81 [.pointer (jX m),.int .i64 c,.int .i64 a] h (Ae λv n=>v= .tuple #[] ∧MOk φ m A K s' F n):=by
 refine AN mixed func81 (I4 ..) ?_;obtain⟨ss,ns,cs,es,tl,d,e,st⟩:=H;have⟨N,f,hd⟩:=bS hd;have⟨S,g,hd⟩:=bS hd;obtain rfl:=iS hd;refine AF _ rfl (AA (b:=m) (j:=11) (x:=ns) st rfl ?_);refine AF _ rfl (AA (b:=m) (j:=10) (x:=ss) st rfl ?_);refine Dk ?_ ?_
 ·refine AU (vs:=[.int .i64 c]) st λu o st=>AI (hC (b:=m) (j:=10) st.at1 rfl) (AI (hC (b:=m) (j:=11) st.at1 rfl) ?_);refine Dk ?_ ?_
  ·refine AZ (r:=hA .i64) (ms:=[c]) Dg.app28 st.tail.at2 rfl (kJ st) (kK rfl) rfl f λt6 i st=>AI (hC (b:=m) (j:=10) st.at1 rfl)<|AU (vs:=[.int .i64 a]) st λw k st=>AI (hC (b:=m) (j:=10) st.at2 rfl)<|AZ (r:=hA .i64) (ms:=[a]) Dg.app28 st.tail.at2 rfl (kJ st) (kK rfl) rfl g λt8 l st=>Pa d e st.at2
  ·refine AU (vs:=[.int .i64 a]) st λp i st=>AI (hC (b:=m) (j:=10) st.at2 rfl) (AI (hC (b:=m) (j:=11) st.at2 rfl) ?_);refine AZ (r:=hA .i64) (ms:=[c]) Dg.app28 st.at1.tail.at3 rfl (kJ st.at1) (kK rfl) rfl f λt6 k st=>AI (hC (b:=m) (j:=10) st.at2 rfl)<|AZ (r:=hA .i64) (ms:=[a]) Dg.app28 st.at1.tail.at2 rfl (kJ st.at1) (kK rfl) rfl g λt8 l st=>Pa d e st.at2
 ·refine AU (vs:=[.int .i64 a]) st λq o st=>AI (hC (b:=m) (j:=10) st.at1 rfl) (AI (hC (b:=m) (j:=11) st.at1 rfl) ?_);refine AU (vs:=[.int .i64 c]) st λt i st=>AI (hC (b:=m) (j:=10) st.at2 rfl) (AI (hC (b:=m) (j:=11) st.at2 rfl) ?_);refine AZ (r:=hA .i64) (ms:=[c]) Dg.app28 st.tail.at3 rfl (kJ st) (kK rfl) rfl f λt6 k st=>AI (hC (b:=m) (j:=10) st.at2 rfl)<|AZ (r:=hA .i64) (ms:=[a]) Dg.app28 st.at1.tail.at2 rfl (kJ st.at1) (kK rfl) rfl g λt8 l st=>Pa d e st.at2
end
section
variable {φ:AD}{h:AH}{F:List Chk}{m:Nat}{A:MA}{K:MK}{s:MS}{ss ns cs es tl:Slc}
theorem bJ (st:St φ (mcC m A K ss ns cs es tl s F) h):St φ (trC A.tp A.ap A.mp tl K.lim s.X (cW 75 m (mV A K ss ns cs es s)::cR 3 (hA .i64) ss s.S::cR 3 (hA .i64) ns s.N::F)) h:=st.at6.at6.at6.at6
theorem eM {X:TS}{a:Slc}(st:St φ (trC A.tp A.ap A.mp a K.lim X (cW 75 m (mV A K ss ns cs es s)::cR 3 (hA .i64) ss s.S::cR 3 (hA .i64) ns s.N::F)) h):St φ (mcC m A K ss ns cs es a {s with X:=X} F) h:=st.at6.at6.at6
theorem Wd {e:Int}{s':MS}(M:MF φ A K) (H:MOk φ m A K s F h) (hd:T0 K s e=some s'):
 CallsH eE 43 [.pointer (jX m),.int .i64 e] h (Ae λv w=>v= .tuple #[] ∧ ∃ψ,Sub φ ψ∧MOk ψ m A K s' F w):=by
 refine AN mixed func43 (IW ..) ?_;have z:=H;obtain⟨ss,ns,cs,es,tl,t,i,st⟩:=z;unfold T0 at hd;have B:=st.at2.rowLen;rw[←B]at hd;refine AF _ rfl (AA (b:=m) (j:=11) (x:=ns) st rfl ?_);refine AF _ rfl (AA (b:=m) (j:=9) (x:=K.bound) st rfl ?_);refine kD hd rfl (λhd=>?_) (λhd=>?_)
 ·obtain rfl:=iS hd;refine AE (Jm H) ?_;rintro _ u ⟨rfl,H⟩;exact⟨(),rfl,AB ⟨rfl,φ,sb,H⟩⟩
 have⟨d,g,hd⟩:=bS hd;have⟨r,C,hd⟩:=bS hd;refine AF _ rfl (AA (b:=m) (j:=13) (x:=some ⟨A.tp,0,none⟩) st rfl ?_);refine AF _ rfl (AA (b:=m) (j:=7) (x:=A.ts) st rfl ?_);refine AF _ rfl (AA (b:=m) (j:=8) (x:=s.pos) st rfl ?_);obtain⟨a,_,D,E,⟨_,_,rfl,rfl,_,_,rfl,rfl,rfl⟩,k⟩:=M.kt.get g;refine AF _ D (Am E ?_);refine AL (x:=d.1) (AM st.sub (k 0 _ rfl)) rfl<|AL (x:=d.2.1) (by rw[Ac];exact AM st.sub (k 1 _ rfl)) rfl<|AL (x:=d.2.2) (by rw[Ac];exact AM st.sub (k 2 _ rfl)) rfl<|AE (Ym (y:=(d.1,d.2.1,d.2.2,())) (bJ st) C) ?_;rintro _ u ⟨rfl,ψ,n,le,st⟩;refine⟨(r.1.1,r.1.2,()),rfl,?_⟩;have H:MOk ψ m A K {s with X:=r.2} F u:=⟨ss,ns,cs,es,n,t.mono le,i.mono le,eM st⟩;refine kD hd rfl (λhd=>?_) (λhd=>?_)
 ·obtain rfl:=iS hd;refine AE (Jm H) ?_;rintro _ G ⟨rfl,H⟩;exact⟨(),rfl,AB ⟨rfl,ψ,le,H⟩⟩
 have⟨s1,o,hd⟩:=bS hd;have⟨c,I,hd⟩:=bS hd;obtain rfl:=iS hd;refine AE (Sf H o) ?_;rintro _ G ⟨rfl,H⟩;refine⟨(),rfl,?_⟩;obtain⟨ss,ns,cs,es,tl,t,i,st⟩:=H;refine AF _ rfl (AA (b:=m) (j:=8) (x:=s1.pos) st rfl ?_);refine AF _ rfl (AG (b:=m) (j:=8) st rfl rfl λ_ st=> ?_);refine AF _ rfl (AA (b:=m) (j:=10) (x:=ss) st rfl ?_);refine AE (Dg.clone46_own st.at1 I) ?_;rintro _ N ⟨O,y,l,p,rfl,rfl,st⟩;refine⟨y,rfl,?_⟩;obtain⟨J,q,L,st⟩:=st.freezeRow;refine AF _ rfl (AG (b:=m) (j:=12) st.at1 rfl rfl λ_ st=> ?_);have f:=p.trans q;exact AB ⟨rfl,J,le.trans f,ss,ns,y,es,tl,L,i.mono f,st⟩
theorem VQ {i:Int}{s':MS}(M:MF φ A K) (H:MOk φ m A K s F h) (hd:Ot K s i=some s'):
 CallsH eE 44 [.pointer (jX m),.int .i64 i] h (Ae λv Q=>v= .tuple #[] ∧ ∃ψ,Sub φ ψ∧MOk ψ m A K s' F Q):=by
 refine AN mixed func44 (Hw ..) ?_;obtain⟨ss,ns,cs,es,tl,n,o,st⟩:=H;unfold Ot at hd;have p:=st.at2.rowLen;rw[←p]at hd;have⟨l,r,hd⟩:=bS hd;refine AF _ rfl (AA (b:=m) (j:=2) (x:=A.t.2.2.1) st rfl ?_);obtain⟨a,_,R,T,⟨_,_,rfl,rfl,_,_,rfl,⟨u,rfl,U⟩,rfl⟩,y⟩:=M.k2.get r;refine AF _ R (Am T ?_);refine AL (x:=l.1) (AM st.sub (y 0 _ rfl)) rfl<|AL (x:=u) (by rw[Ac];exact AM st.sub (y 1 _ rfl)) rfl<|AL (x:=l.2.2) (by rw[Ac];exact AM st.sub (y 2 _ rfl)) rfl ?_;have V:=U.length;rw[←V]at hd;refine AU (vs:=[.int .i64 0,.slice none 0 0,.int .i64 0]) st λW h1 st=>AG st rfl rfl λ_ st=>AG st rfl rfl λ_ st=>AG st rfl rfl λY st=> ?_;have⟨z,e,Z,st⟩:=lH st;have cell:∀ {ψ:AD} {w:AH} {Γ:List Chk} {j:Nat} {v:lK},Sub z ψ→St ψ Γ w→([.int .i64 l.1,sv u,.int .i64 l.2.2]:List lK)[j]? =some v→BJ w ⟨W,j,none⟩=some v:=λ{ψ w Γ j v} le st B=>by
  have:=AM st.sub ((Z.mono le).at j B)
  rwa [DB,kX]at this
 have M1:=M.mono e;have H:MOk z m A K s F Y:=⟨ss,ns,cs,es,tl,n.mono e,o.mono e,st⟩;refine AF _ rfl (AA (b:=m) (j:=11) (x:=ns) st rfl ?_);refine AL (x:=u) (cell (kV _) st rfl) rfl<|AF _ rfl (AA (b:=m) (j:=9) (x:=K.bound) st rfl ?_);refine kD hd rfl (λhd=>?_) (λhd=>?_)
 ·obtain rfl:=iS hd;refine AE (Jm H) ?_;rintro _ I ⟨rfl,H⟩;exact⟨(),rfl,AB ⟨rfl,z,e,H⟩⟩
 obtain⟨b,hb⟩:∃b,bD .i64 ((ns.2.1:Int) - (u.2.1:Int))=b:=⟨_,rfl⟩;rw[hb]at hd ⊢;have⟨ks,C,hd⟩:=bS hd;have⟨x,J,hd⟩:=bS hd;have⟨L,b1,b2,ek⟩:=Ny C;rw[ek,Int.toNat_natCast,p,List.take_length]at J;have O:=Tu st.at2;refine AF _ rfl (AA (b:=m) (j:=13) (x:=some ⟨A.tp,0,none⟩) st rfl ?_);refine AL (x:=l.1) (cell (kV _) st rfl) rfl<|AF _ rfl (AA (b:=m) (j:=11) (x:=ns) st rfl ?_);refine Am ⟨L,b1,by omega⟩ ?_;have D:=Yn (kv:=gy ns b) (Holds.cons _ (Holds.cons _ (Yk L))) (by rw[List.length_drop];show _=kW (ns.2.1:Int) - kW b;rw[p];rfl) (by show kW (ns.2.1:Int) - kW b≤ns.2.2 - kW b;omega) (bJ st) J;refine AE D ?_;rintro _ I ⟨rfl,ψ,k,le,st⟩;refine⟨(x.1.1,x.1.2,()),rfl,?_⟩;have c:=e.trans le;have st:=eM st;have H:MOk ψ m A K {s with X:=x.2} F I:=⟨ss,ns,cs,es,k,n.mono c,o.mono c,st⟩;refine kD hd rfl (λhd=>?_) (λhd=>?_)
 ·obtain rfl:=iS hd;refine AE (Jm H) ?_;rintro _ h3 ⟨rfl,H⟩;exact⟨(),rfl,AB ⟨rfl,ψ,c,H⟩⟩
 have⟨N,hN,hd⟩:=bS hd;have⟨S,hS,hd⟩:=bS hd;have⟨q,D,hd⟩:=bS hd;have⟨v,B,hd⟩:=bS hd;have⟨c1,_,d⟩:=Tv st.at2 hN;have⟨c2,_,d⟩:=Tv d.at2 hS;refine AF _ rfl (AA (b:=m) (j:=11) (x:=ns) st rfl ?_);refine Am c1<|AF _ rfl (AA (b:=m) (j:=10) (x:=ss) st rfl ?_);refine Am c2<|AF _ rfl (AG (b:=m) (j:=11) d.at2 rfl rfl λ_ d=> ?_);refine AF _ rfl (AG (b:=m) (j:=10) d rfl rfl λh5 d=> ?_);have f:St ψ (mcC m A K (VG ss (bD .i64 (b+(1:Int)))) (VG ns b) cs es k {s with X:=x.2,N:=N,S:=S} F) h5:=d;refine AF _ rfl (AA (b:=m) (j:=6) (x:=A.gp) f rfl ?_);refine AF _ rfl (AA (b:=m) (j:=10) (x:=VG ss (bD .i64 (b+(1:Int)))) f rfl ?_);refine Qc f.at1 D<|AL (x:=l.1) (cell le f rfl) rfl<|AE (HA (M.mono c).kg f B) ?_;rintro _ h6 ⟨P,y6,E,rfl,rfl,G⟩;refine⟨y6,rfl,?_⟩;have g:=c.trans E;have H:MOk P m A K {s with X:=x.2,N:=N,S:=S} F h6:=⟨_,_,cs,es,k,n.mono g,o.mono g,G⟩;refine AE (Sf H hd) ?_;rintro _ h7 ⟨rfl,H⟩;exact⟨(),rfl,AB ⟨rfl,P,g,H⟩⟩
end
noncomputable def actD (K:MK) (s:MS) (k n:Int):Option MS:=if k=0 then T1 K s else if k=1 then T0 K s n else if k=2 then Ot K s n else if k=3 then QL s else none
noncomputable def stepD (K:MK) (s:MS):Option MS:=cond (s.kind !=0) (some s)<|(idx s.S (bD .i64 ((s.S.length:Int) - 1))).bind λq=>(idx K.toks s.pos).bind λa=>(Bk K.g q a.1).bind λx=>actD K {s with steps:=bD .i64 (s.steps+1) } x.1 x.2
abbrev fnV (m f:Nat):lK:=.func (.func f) #[.pointer (jX m)] #[]
abbrev doV (m:Nat):List lK:=[fnV m 42,fnV m 43,fnV m 44,fnV m 45]
def db (g:FuncId):Prop:= ∃fn,Tryz.prog.funcs[g]? =some fn∧(fn.name== "runtime.NumGoroutine")=false∧fn.body.isNone=false∧UB Tryz.prog fn= .tuple []
theorem bK {K:MK}{s s':MS}{k n:Int}{m:Nat}(hd:actD K s k n=some s'):(0≤k∧k<4)∧ ∃f,(doV m)[k.toNat]? =some (fnV m f)∧db f∧
 ∀ {φ:AD} {h:AH} {F:List Chk} {A:MA},MF φ A K→MOk φ m A K s F h→CallsH eE f [.pointer (jX m),.int .i64 n] h (Ae λv a=>v= .tuple #[] ∧ ∃ψ,Sub φ ψ∧MOk ψ m A K s' F a):=by
 unfold actD at hd;split at hd
 ·rename_i e;subst e
  exact⟨⟨by decide,by decide⟩,_,rfl,⟨_,func42,by decide,by kernel_rfl,by kernel_rfl⟩,λM H=>VO M H hd⟩
 split at hd
 ·rename_i e;subst e
  exact⟨⟨by decide,by decide⟩,_,rfl,⟨_,func43,by decide,by kernel_rfl,by kernel_rfl⟩,λM H=>Wd M H hd⟩
 split at hd
 ·rename_i e;subst e
  exact⟨⟨by decide,by decide⟩,_,rfl,⟨_,func44,by decide,by kernel_rfl,by kernel_rfl⟩,λM H=>VQ M H hd⟩
 split at hd
 ·rename_i e;subst e
  exact⟨⟨by decide,by decide⟩,_,rfl,⟨_,func45,by decide,by kernel_rfl,by kernel_rfl⟩,λM H=>VN H hd⟩
 ·cases hd
section
variable {φ:AD}{h:AH}{F:List Chk}{m:Nat}{A:MA}{K:MK}{s:MS}
noncomputable def hU (m:Option lL) (g b:Nat):T:=jA b 0 λa=>chk (0≤a∧a< (4:Nat))<|T.load .func ((⟨g,0,none⟩:lL).add (kW a *1)) λc=>jA b 1 λd=>Hy false eE (BP.val .func c) #[(.int .i64 d)] λh=>deref m λe=>jJ e 14 λf=>T.ret (.bool (f !=(0:Int)))
theorem Si {φ0:AD}{d c:Nat}{k n:Int}{s':MS}(g:Sub φ0 φ) (M:MF φ A K) (H:MOk φ m A K s (cW 89 d (doV m)::F) h)
 (i:∀ {ψ:AD} {w:AH} {Γ:List Chk} {j:Nat} {v:lK},Sub φ ψ→St ψ Γ w→([.int .i64 k,.int .i64 n]:List lK)[j]? =some v→BJ w ⟨c,j,none⟩=some v) (hd:actD K s k n=some s'):
 (hU (jX m) d c).wp eE (Kf (Ae λv p=>v= .bool (s'.kind !=(0:Int))∧ ∃ψ,Sub φ0 ψ∧MOk ψ m A K s' F p)) h:=by
 obtain⟨q,f,r,⟨fn,c1,c2,t,u⟩,a⟩:=bK (m:=m) hd;have y:=H;obtain⟨ss,ns,cs,es,tl,l,o,st⟩:=y;refine AL (x:=k) (i (kV _) st rfl) rfl<|Am q<|AL (x:=some (.func f,#[.pointer (jX m)],#[])) (by rw[DB,kX,Nat.mul_one];exact hC (b:=d) st.at7 r) rfl<|AL (x:=n) (i (kV _) st rfl) rfl<|Wx c1 c2 t u ?_;have e:(((#[Value.pointer (jX m)]:Array lK) ++ #[Value.int .i64 n]) ++ #[]).toList= [Value.pointer (jX m),Value.int .i64 n]:=by simp
 rw[e];refine AE (a M H) ?_;rintro _ z ⟨rfl,ψ,le,H⟩;refine⟨(),rfl,?_⟩;obtain⟨ss,ns,cs,es,tl,l,o,st⟩:=H;refine AF _ rfl (AA (b:=m) (j:=14) (x:=s'.kind) st rfl ?_);exact AB ⟨rfl,ψ,g.trans le,ss,ns,cs,es,tl,l,o,st.at7.tail⟩
theorem Sj {s':MS}(M:MF φ A K) (H:MOk φ m A K s F h) (hd:stepD K s=some s'):
 CallsH eE 19 [.pointer (jX m)] h (Ae λv J=>v= .bool (s'.kind !=(0:Int))∧ ∃ψ,Sub φ ψ∧MOk ψ m A K s' F J):=by
 refine AN mixed func19 (Iz ..) ?_;obtain⟨ss,ns,cs,es,tl,i,k,st⟩:=H;unfold stepD at hd;have L:=st.at1.rowLen;rw[←L]at hd;refine AF _ rfl (AA (b:=m) (j:=14) (x:=s.kind) st rfl ?_);refine AK hd rfl (λN hd=> ?_) (λ_ hd=> ?_)
 ·obtain rfl:=iS hd;exact AB ⟨by rw[N],φ,sb,ss,ns,cs,es,tl,i,k,st⟩
 have⟨q,G,hd⟩:=bS hd;have⟨l,d,hd⟩:=bS hd;have⟨x,I,hd⟩:=bS hd;refine AF _ rfl (AA (b:=m) (j:=18) (x:=s.steps) st rfl ?_);refine AF _ rfl (AG (b:=m) (j:=18) st rfl rfl λO st=> ?_);have st:St φ (mcC m A K ss ns cs es tl {s with steps:=bD .i64 (s.steps+(1:Int)) } F) O:=st;refine AU (vs:=[.nilFunc,.nilFunc,.nilFunc,.nilFunc]) st λP Y st=>AG st rfl rfl λ_ st=>AG st rfl rfl λ_ st=>AG st rfl rfl λ_ st=>AG st rfl rfl λQ st=> ?_;have st:St φ (mcC m A K ss ns cs es tl {s with steps:=bD .i64 (s.steps+(1:Int)) } (cW 89 P (doV m)::F)) Q:=st.at7.at7.at7.at7.at7.at7.at7;refine AF _ rfl (AA (b:=m) (j:=6) (x:=A.gp) st rfl ?_);refine AF _ rfl (AA (b:=m) (j:=10) (x:=ss) st rfl ?_);refine AF _ rfl (AA (b:=m) (j:=10) (x:=ss) st rfl ?_);obtain⟨Z,_,e,n,rfl,o⟩:=lI st.at1 G;refine AF _ e (Am n ?_);refine AL (x:=q) (o 0 _ rfl) rfl<|AF _ rfl (AA (b:=m) (j:=7) (x:=A.ts) st rfl ?_);refine AF _ rfl (AA (b:=m) (j:=8) (x:=s.pos) st rfl ?_);obtain⟨A2,_,p,t,⟨_,_,rfl,rfl,_,_,rfl,q2,q3⟩,f⟩:=M.kt.get d;refine AF _ p (Am t ?_);refine AL (x:=l.1) (AM st.sub (f 0 _ rfl)) rfl ?_;have cells:∀ {ψ:AD} {w:AH} {r:Nat} {F:List Chk},Sub φ ψ→St ψ (cW 91 r [.int .i64 x.1,.int .i64 x.2]::F) w→ ∃c,Sub ψ c∧St c F w∧
  ∀ {u:AD} {z:AH} {Γ:List Chk} {j:Nat} {v:lK},Sub c u→St u Γ z→([.int .i64 x.1,.int .i64 x.2]:List lK)[j]? =some v→BJ z ⟨r,j,none⟩=some v:=λ{ψ w r F} le st=>by
  obtain⟨c,a,R,st⟩:=lH st;refine⟨c,a,st,λ{u z Γ j v} B C hv=> ?_⟩
  have:=AM C.sub ((R.mono B).at j hv)
  rwa [DB,kX]at this
 refine Dk ?_ ?_
 ·refine AE (Es M.kg st I) ?_;rintro _ S ⟨ψ,y,le,rfl,rfl,st⟩;refine⟨y,rfl,?_⟩;refine AU (vs:=[.int .i64 0,.int .i64 0]) st λT U st=>AG st rfl rfl λ_ st=>AG st rfl rfl λV st=> ?_;obtain⟨c,a,st,D⟩:=cells le st;exact Si (s:={s with steps:=bD .i64 (s.steps+(1:Int)) }) (le.trans a) (M.mono (le.trans a)) ⟨ss,ns,cs,es,tl,i.mono (le.trans a),k.mono (le.trans a),st⟩ D hd
 ·refine AU (vs:=[.int .i64 0,.int .i64 0]) st λW U st=>AI (by have:=AM st.sub (f 0 _ rfl);exact this)<|AI (hC (b:=m) (j:=8) st.at1 rfl) (AI (hC (b:=m) (j:=7) st.at1 rfl) ?_);obtain⟨A3,_,g,X,rfl,E⟩:=lI st.at2 G;rw[e]at g;cases g;refine AI (E 0 _ rfl)<|AI (hC (b:=m) (j:=10) st.at1 rfl) (AI (hC (b:=m) (j:=10) st.at1 rfl) (AI (hC (b:=m) (j:=6) st.at1 rfl) ?_));refine AE (Es M.kg st I) ?_;rintro _ S ⟨ψ,y,le,rfl,rfl,st⟩;refine⟨y,rfl,?_⟩;refine AG st rfl rfl λ_ st=>AG st rfl rfl λV st=> ?_;obtain⟨c,a,st,D⟩:=cells le st;exact Si (s:={s with steps:=bD .i64 (s.steps+(1:Int)) }) (le.trans a) (M.mono (le.trans a)) ⟨ss,ns,cs,es,tl,i.mono (le.trans a),k.mono (le.trans a),st⟩ D hd
end
noncomputable def We (p:As) (g:dtG) (c:List dtT) (a lim u mo:Int):Option (MK×MS):=(Fu c).bind λd=>(EZ a 0).bind λb=>some (⟨p,g,d,b,lim⟩,⟨0,[0],[],[0],⟨[],0,u,mo⟩,0,0,0,[],0,0⟩)
section
variable {φ:AD}{h:AH}{F:List Chk}{mp:Nat}{lim u mo:Int}
theorem T2 (b:St φ (cO 83 (lF En) (jX mp) (lim,u,mo)::F) h):
 CallsH eE 41 [.pointer (jX mp)] h (Ae λv a=>∃tp ap,v= .pointer (jX tp)∧St φ (trC tp ap mp ((none,0,0):Slc) lim ⟨[],0,u,mo⟩ F) a):=by
 refine AN mixed func41 (Tt ..)<|AE (sh:=.one aP) (S:=λv a=>∃ap,v= .pointer (jX ap)∧St φ (arC ap mp ((none,0,0):Slc) lim ⟨[],0,u,mo⟩ F) a) ?_ ?_
 ·refine AN mixed func77 (I5 ..)<|AU (vs:=[.pointer (jX mp),.slice none 0 0,.int .i64 0]) b λap c st=>AB ⟨ap,rfl,(st.at1.nil 165 Js).at2⟩
 ·rintro _ c ⟨ap,rfl,st⟩;refine⟨some ⟨ap,0,none⟩,rfl,?_⟩;refine AU (vs:=[.pointer (jX ap)]) st λtp d st=>AB ⟨tp,ap,rfl,st⟩
def hZ (φ:AD) (mp:Nat) (K:MK) (s:MS) (F:List Chk) (v:lK) (a:AH):Prop:= ∃(m:Nat) (A:MA) (ψ:AD),v= .pointer (jX m)∧A.mp=mp∧Sub φ ψ∧MF ψ A K∧MOk ψ m A K s F a
theorem L7 {φ0:AD}{t:Slc×Slc×Slc×Slc×Slc×Slc×Unit}{g:Option lL}{ts:Slc}{K:MK}{a b tp ap:Nat}(c:Sub φ0 φ) (M:∀A:MA,A.t=t→A.gp=g→A.ts=ts→MF φ A K) (d:K.lim=lim)
 (st:St φ (cW 3 a [.int .i64 0]::cW 3 b [.int .i64 0]::trC tp ap mp ((none,0,0):Slc) lim ⟨[],0,u,mo⟩ F) h):
 (T.new (.cells #[.slice t.1.1 t.1.2.1 t.1.2.2,.slice t.2.1.1 t.2.1.2.1 t.2.1.2.2,.slice t.2.2.1.1 t.2.2.1.2.1 t.2.2.1.2.2,.slice t.2.2.2.1.1 t.2.2.2.1.2.1 t.2.2.2.1.2.2,.slice t.2.2.2.2.1.1 t.2.2.2.2.1.2.1 t.2.2.2.2.1.2.2,.slice t.2.2.2.2.2.1.1 t.2.2.2.2.2.1.2.1 t.2.2.2.2.2.1.2.2,.pointer g,.slice ts.1 ts.2.1 ts.2.2,.int .i64 0,.int .i64 K.bound,.slice (jX a) 1 1,.slice none 0 0,.slice (jX b) 1 1,.pointer (jX tp),.int .i64 0,.int .i64 0,.int .i64 0,.slice none 0 0,.int .i64 0,.int .i64 0] 75 (0,0)) λr=>T.ret (.pointer (jX r))).wp eE
  (Kf (Ae (hZ φ0 mp K ⟨0,[0],[],[0],⟨[],0,u,mo⟩,0,0,0,[],0,0⟩ F))) h:=by subst d;have st:=lJ (r:=hA .i64) (l:=[0]) (n:=1) st (kK rfl) rfl (by decide);have st:=lJ (r:=hA .i64) (l:=[0]) (n:=1) st.at1 (kK rfl) rfl (by decide);have⟨ψ,le,e,st⟩:=kF (t:=(some ⟨b,0,none⟩,1,1)) st;have st:=st.nil 3 (hA .i64);refine AU (vs:=[sv t.1,sv t.2.1,sv t.2.2.1,sv t.2.2.2.1,sv t.2.2.2.2.1,sv t.2.2.2.2.2.1,.pointer g,sv ts,.int .i64 0,.int .i64 K.bound,.slice (jX a) 1 1,.slice none 0 0,.slice (jX b) 1 1,.pointer (jX tp),.int .i64 0,.int .i64 0,.int .i64 0,.slice none 0 0,.int .i64 0,.int .i64 0]) st.at1 λm f st=>AB ⟨m,⟨t,g,ts,tp,ap,mp⟩,ψ,rfl,rfl,c.trans le,(M _ rfl rfl rfl).mono le,(some ⟨a,0,none⟩,1,1),(none,0,0),(some ⟨b,0,none⟩,1,1),(none,0,0),(none,0,0),e,kL _ _,st⟩
theorem VR {t:Slc×Slc×Slc×Slc×Slc×Slc×Unit}{p:As}{g:Option lL}{e:dtG}{ts:Slc}{c:List dtT}{a:Int}{r:MK×MS}
 (k0:bO kZ φ t.1 p.1) (k:bO kZ φ t.2.1 p.2.1) (m:bO CB φ t.2.2.1 p.2.2.1) (n:bO (hA .i64) φ t.2.2.2.1 p.2.2.2.1) (o:bO (hA .i64) φ t.2.2.2.2.1 p.2.2.2.2.1) (q:bO kZ φ t.2.2.2.2.2.1 p.2.2.2.2.2) (s:Pt GY φ g e) (x:bO Fe φ ts c)
 (z:St φ (cO 83 (lF En) (jX mp) (lim,u,mo)::F) h) (hd:We p e c a lim u mo=some r):
 CallsH eE 18 [.agg #[.slice t.1.1 t.1.2.1 t.1.2.2,.slice t.2.1.1 t.2.1.2.1 t.2.1.2.2,.slice t.2.2.1.1 t.2.2.1.2.1 t.2.2.1.2.2,.slice t.2.2.2.1.1 t.2.2.2.1.2.1 t.2.2.2.1.2.2,.slice t.2.2.2.2.1.1 t.2.2.2.2.1.2.1 t.2.2.2.2.1.2.2,.slice t.2.2.2.2.2.1.1 t.2.2.2.2.2.1.2.1 t.2.2.2.2.2.1.2.2],.pointer g,.slice ts.1 ts.2.1 ts.2.2,.int .i64 a,.pointer (jX mp)] h (Ae (hZ φ mp r.1 r.2 F)):=by
 refine AN mixed func18 (RV ..) ?_;have⟨Q,f,hd⟩:=bS hd;have⟨b,B,hd⟩:=bS hd;obtain rfl:=iS hd;refine Db (t:=t) z λC R st=>Bi (t:=t) st ?_;have⟨D,E,G,st⟩:=St.blk st;have H:∀ {ψ:AD} {w:AH} {Γ:List Chk} {j:Nat} {v:Value},St ψ Γ w→([sv t.1,sv t.2.1,sv t.2.2.1,sv t.2.2.2.1,sv t.2.2.2.2.1,sv t.2.2.2.2.2.1]:List Value)[j]? =some v→(le:Sub D ψ:=by repeat first | exact Sub.refl _ | assumption | refine Sub.trans ?_ (by assumption))→BJ w ⟨C,j,none⟩=some v:=λ{ψ w Γ j v} st hv le=>by
  have:=AM st.sub ((G.mono le).at j hv)
  rwa [DB,kX]at this
 repeat' first
  |refine Dk ?_ ?_
  |refine AI (H st rfl) ?_
  |(refine AE (PZ x.up st f) ?_;rintro _ _ ⟨S,y,l,I,rfl,rfl,J,st⟩;refine⟨y,rfl,?_⟩)
  |(refine AE (M0 st B) ?_;rintro _ _ ⟨K,i,L,rfl,rfl,st⟩;refine⟨i,rfl,?_⟩)
  |(refine AE (T2 (mp:=mp) (lim:=lim) (u:=u) (mo:=mo) (by first | exact st | exact st.at1 | exact st.at2)) ?_;rintro _ _ ⟨tp,ap,rfl,st⟩;refine⟨some ⟨tp,0,none⟩,rfl,?_⟩)
  |(refine AU (vs:=[.int .i64 0]) st λT _ st=> ?_)
 all_goals
  have d:∀A:MA,A.t=t→A.gp=g→A.ts=y→MF K A ⟨p,e,l,i,lim⟩:=λA M N O=>by
   obtain⟨U,V,P,_,_,_⟩:=A;cases M;cases N;cases O;exact⟨k0.up,k.up,m.up,n.up,o.up,q.up,s.up,J.up⟩
  first
   |exact L7 (t:=t) (ts:=y) sb d rfl st
   |exact L7 (t:=t) (ts:=y) sb d rfl st.at1
   |exact L7 (t:=t) (ts:=y) sb d rfl st.at5
   |exact L7 (t:=t) (ts:=y) sb d rfl st.at5.at1
   |exact L7 (t:=t) (ts:=y) sb d rfl st.at5.at5
   |exact L7 (t:=t) (ts:=y) sb d rfl st.at5.at5.at1
end
def Yo (K:MK) (s:MS):Ko:=(K.p.1,K.p.2.1,K.p.2.2.1,K.p.2.2.2.1,K.p.2.2.2.2.1,K.p.2.2.2.2.2,K.g,K.toks,s.pos,K.bound,s.S,s.N,s.C,((),s.X.L,s.X.cells),s.kind,s.root,s.oat,s.exp,s.steps,s.most)
noncomputable def goD (K:MK) (most:Int) (s:MS):Option (AY MS MS):=cond (decide (s.steps<most)) ((stepD K s).bind λs'=>cond (s'.kind !=0) (some (kQ s')) (some (kT s'))) (some (kQ s))
noncomputable def IY (K:MK) (most:Int) (s:MS):Option MS:=loop s (goD K most)
noncomputable def P9 (p:As) (g:dtG) (b:List dtT) (a:Int) (c:Dl) (most:Int):Option (Ko×Dl):=(We p g b a c.1 c.2.1 c.2.2).bind λk=>(IY k.1 most k.2).bind λs=>some (Yo k.1 s,(c.1,s.X.used,s.X.mo))
section
variable {φ:AD}{h:AH}{F:List Chk}{m:Nat}{A:MA}{K:MK}{s:MS}
theorem ft (M:MF φ A K) (H:MOk φ m A K s F h):∃ψ,Sub φ ψ∧Pt Ri ψ (jX m) (Yo K s)∧St ψ (cO 83 (lF En) (some ⟨A.mp,0,none⟩) (K.lim,s.X.used,s.X.mo)::F) h:=by
 obtain⟨ss,ns,cs,es,tl,p,q,st⟩:=H;have⟨z,b,c1,st⟩:=lH st;have⟨B,c,r,st⟩:=kF st;have⟨C,d,t,st⟩:=kF st;have⟨D,e,u,st⟩:=lH st;have⟨E,f,v,st⟩:=lH st;have⟨g,i,w,st⟩:=kF st;have j:=i;have k:=f.trans j;have l:=e.trans k;have n:=d.trans l;have o:=c.trans n;have a:=b.trans o;have x:Pt El g (some ⟨A.ap,0,none⟩) ((),s.X.L,s.X.cells):=⟨_,_,rfl,⟨[_],_,rfl,⟨_,rfl⟩,[_],_,rfl,⟨tl,rfl,w⟩,rfl⟩,v.mono j⟩;have y:Pt cL g (some ⟨A.tp,0,none⟩) ((),s.X.L,s.X.cells):=⟨_,_,rfl,⟨_,rfl,x⟩,u.mono k⟩;refine⟨g,a,⟨_,_,rfl,?_,c1.mono o⟩,st⟩;exact⟨[_],_,rfl,⟨_,rfl,M.k0.mono a⟩,[_],_,rfl,⟨_,rfl,M.k1.mono a⟩,[_],_,rfl,⟨_,rfl,M.k2.mono a⟩,[_],_,rfl,⟨_,rfl,M.k3.mono a⟩,[_],_,rfl,⟨_,rfl,M.k4.mono a⟩,[_],_,rfl,⟨_,rfl,M.k5.mono a⟩,[_],_,rfl,⟨_,rfl,M.kg.mono a⟩,[_],_,rfl,⟨_,rfl,M.kt.mono a⟩,
  [_],_,rfl,rfl,[_],_,rfl,rfl,[_],_,rfl,⟨ss,rfl,r.mono n⟩,[_],_,rfl,⟨ns,rfl,t.mono l⟩,[_],_,rfl,⟨cs,rfl,p.mono a⟩,[_],_,rfl,⟨_,rfl,y⟩,[_],_,rfl,rfl,[_],_,rfl,rfl,[_],_,rfl,rfl,[_],_,rfl,⟨es,rfl,q.mono a⟩,[_],_,rfl,rfl,rfl⟩
theorem G3 {α:Type}{r:Ro α}{φ:AD}{p:Option lL}{x:α}(H:Pt r φ p x):Option.isNone p=Option.isNone (some x):=by obtain⟨a,_,rfl,_⟩:=H;rfl
theorem fu {p:As}{g:dtG}{c:List dtT}{a lim u mo:Int}{r:MK×MS}(h:We p g c a lim u mo=some r):r.1.lim=lim:=by have⟨d,_,h⟩:=bS h;have⟨b,_,h⟩:=bS h;obtain rfl:=iS h;rfl
theorem Jn {a:Slc×Slc×Slc×Slc×Slc×Slc×Unit}{I J:List ByteArray}{L:List BM}{N O:List Int}{P:List ByteArray}{g:Option lL}{Q:dtG}{ts:Slc}{o:List dtT}{i most:Int}{c:Option lL}{C:Dl}
 (k0:bO kZ φ a.1 I) (S:bO kZ φ a.2.1 J) (T:bO CB φ a.2.2.1 L) (U:bO (hA .i64) φ a.2.2.2.1 N) (V:bO (hA .i64) φ a.2.2.2.2.1 O) (W:bO kZ φ a.2.2.2.2.2.1 P) (X:Pt GY φ g Q) (Y:bO Fe φ ts o)
 (R:St φ (cO 83 (lF En) c C::F) h) {r:Ko×Dl} (hd:P9 (I,J,L,N,O,P) Q o i C most=some r):
 CallsH eE 15 [.agg #[.slice a.1.1 a.1.2.1 a.1.2.2,.slice a.2.1.1 a.2.1.2.1 a.2.1.2.2,.slice a.2.2.1.1 a.2.2.1.2.1 a.2.2.1.2.2,.slice a.2.2.2.1.1 a.2.2.2.1.2.1 a.2.2.2.1.2.2,.slice a.2.2.2.2.1.1 a.2.2.2.2.1.2.1 a.2.2.2.2.1.2.2,.slice a.2.2.2.2.2.1.1 a.2.2.2.2.2.1.2.1 a.2.2.2.2.2.1.2.2],.pointer g,.slice ts.1 ts.2.1 ts.2.2,.int .i64 i,.pointer c,.int .i64 most] h
 (Ae λv Z=>∃ψ:AD,∃y:Option lL,∃l:Ko,∃l':Dl,Sub φ ψ∧v=((.one aP):Sh).val y∧(l,l')=r∧Pt Ri ψ y l∧St ψ (cO 83 (lF En) c l'::F) Z):=by
 refine AN mixed func15 (RW ..) ?_;obtain⟨mp,rfl⟩:=R.ptr;obtain⟨lim,u,mo⟩:=C;obtain⟨⟨K,s1⟩,q,hd⟩:=bS hd;have⟨s2,z,hd⟩:=bS hd;obtain rfl:=iS hd;have p:=fu q;dsimp only at p z;refine Db (t:=a) R λr1 h1 st=>Bi (t:=a) st<|AE (VR (t:=a) k0 S T U V W X Y st.tail q) ?_;rintro _ h2 ⟨m,A,ψ,rfl,rfl,le,M,H⟩;refine⟨some ⟨m,0,none⟩,rfl,?_⟩;refine Av (λ(_:Unit) w (g:MS)=>∃f,Sub ψ f∧MOk f m A K g F w) (g:=s2) ?_ ?_
 ·refine FF z (λ(_:Unit) w g=>∃f,Sub ψ f∧MOk f m A K g F w) () rfl ⟨ψ,kV _,H⟩ ?_;clear H;rintro _ w s e ⟨f,d,H⟩ k hb;unfold goD at k;refine Ad (λ(y:Bool×Unit) w (e:AY MS MS)=>∃f,Sub ψ f∧match e with | .next s=>y.1=true∧MOk f m A K s F w | .done s=>y.1=false∧MOk f m A K s F w) (g:=e) ?_ ?_
  ·have H':=H;obtain⟨ss,ns,cs,es,tl,kc,ke,st⟩:=H';refine AF _ rfl (AA (b:=m) (j:=18) (x:=s.steps) st rfl ?_);refine kD k rfl (λk=>?_) (λk=>?_)
   ·obtain⟨s',D,k⟩:=bS k;refine AE (Sj (M.mono d) H D) ?_;rintro _ h3 ⟨rfl,B,n,H⟩;refine⟨_,rfl,?_⟩;cases q:(s'.kind !=(0:Int)) with
    |true=>rw[q]at k;obtain rfl:=iS k;exact jY rfl ⟨B,d.trans n,rfl,H⟩
    |false=>rw[q]at k;obtain rfl:=iS k;exact jY rfl ⟨B,d.trans n,rfl,H⟩
   ·obtain rfl:=iS k;exact jY rfl ⟨f,d,rfl,H⟩
  ·rintro⟨y,u'⟩ w' ⟨B,n,H⟩;cases e with
   |next s'=>
    obtain⟨E,H⟩:=H;refine Ai E<|Ah () s' rfl rfl ⟨B,n,H⟩
   |done s'=>
    obtain⟨E,H⟩:=H;refine AW E ?_;obtain rfl:=hb _ rfl;exact AO (kB rfl ⟨B,n,H⟩)
 ·rintro _ w ⟨f,d,H⟩;have⟨ψ4,G,kM,st⟩:=ft (M.mono d) H;dsimp only at st;rw[p]at st;exact AB ⟨ψ4,some ⟨m,0,none⟩,_,_,(le.trans d).trans G,rfl,rfl,kM,st⟩
end
def mx (a b:Int):Int:=if a>b then a else b
theorem dc {lim u mo n:Int}(a:0≤n) (b:n≤1000000) (c:0≤u) (d:u≤lim) (e:lim≤1099511627776):
 meter_Meter_Take_D (lim,u,mo) n=some (if u+n≤lim then(0,lim,u+n,mx (u+n) mo) else(5,lim,u,mo)):=by
 refine Ok.eq ?_;unfold meter_Meter_Take_D Dm;refine AS (decide_eq_false (by omega)) (AJ rfl ?_);dsimp only;rw[w64 (n:=lim - u) (by omega) (by omega)];by_cases h:u+n≤lim
 ·rw[if_pos h];refine AS (decide_eq_false (by omega)) (AC ?_);rw[w64 (n:=u+n) (by omega) (by omega)];rfl
 ·rw[if_neg h];exact Ap (decide_eq_true (by omega)) (AC rfl)
def T3 (X:TS) (x:RY) (n:Int):TS:=⟨X.L++ [VI x n],X.cells+n,X.used+n,mx (X.used+n) X.mo⟩
structure TB (X:TS):Prop where
 len:X.L.length≤5000
 c0:0≤X.cells∧X.cells≤100000000
 u0:0≤X.used∧X.used≤100000000
section
variable {X:TS}{lim:Int}
theorem eN {x:RY}{n:Int}(a:TB X) (f:1≤n) (b:n≤1000000) (c:X.used≤lim) (d:lim≤1099511627776):
 putD lim X x n=some (if X.used+n≤lim then(((X.L.length:Int),0),T3 X x n) else((0,5),X)):=by
 have g:=a.len;have i:=a.c0;have e:=a.u0;refine Ok.eq ?_;unfold putD;refine AS (decide_eq_false (by omega)) (AJ (dc (by omega) b e.1 c d) ?_);by_cases h:X.used+n≤lim
 ·rw[if_pos h,if_pos h];refine AS rfl (BL (by simp;omega) (AC ?_));dsimp only;rw[List.length_append,List.length_singleton,w64 (by omega) (by omega),w64 (by omega) (by omega)];refine Prod.ext (Prod.ext ?_ rfl) rfl;show((X.L.length+1:Nat):Int) - 1=(X.L.length:Int);omega
 ·rw[if_neg h,if_neg h];exact Ap rfl (AC rfl)
theorem Rv (l:List Int) (x:Int) (h:l.length≤1000000):∃b,Au l x=some b:=by
 have:Ok (Au l x) λ_=>True:=by
  unfold Au CG;refine AP (Q:=λ_=>True) ?_ λ_ _=>AC trivial;refine JO l (λ_ y=>x==y) (λj _=>((j:Nat):Int)) (by omega) (λj y a=> ?_) (λ_=>AC trivial) λj y _ _ _=>AC trivial;rw[Bu,a];show cond (x==y) _ _=_;cases(x==y) <;>rfl
 obtain⟨b,h,_⟩:=this;exact⟨b,h⟩
theorem VS {L:List Ds}{k:Nat}{x:Ds}(h:L[k]? =some x):(L.set k (BA x)).map BA=L.map BA:=by
 refine lA λi=> ?_;rw[lC,lC,lB];split
 ·rename_i e
  subst e;rw[h,if_pos (kU.1 h).1];rfl
 ·rfl
abbrev inner (a sym:Int) (kids:List Int):RY:=(a,sym,0,0,0,kids,false,false)
theorem fw (a sym:Int) {kids:List Int}(p:TB X) (q:kids.length≤10000):
 (∃e:Int,(e !=(0:Int))=true∧ ∀lim,VL lim X a sym kids=some ((0,e),X))∨
 ∃r:List Ds,r.map BA=(T3 X (inner a sym kids) (1+(kids.length:Int))).L.map BA∧ ∀lim,X.used≤lim→lim≤1099511627776→VL lim X a sym kids=
  some (if X.used+(1+(kids.length:Int)) ≤lim then(((X.L.length:Int),0),⟨r,X.cells+(1+(kids.length:Int)),X.used+(1+(kids.length:Int)),mx (X.used+(1+(kids.length:Int))) X.mo⟩) else((0,5),X)):=by
 have I:=p.len;unfold VL;rcases K9 (σ:=Unit) (β:=Unit) (f:=λi _=>(idx kids i).bind λk=>cond (!(isB X k)) (some (kQ ())) (some (kT ()))) (n:=kids.length) (s:=()) (λi _=>∀(j:Nat) k,j<i→kids[j]? =some k→isB X k=true) (λ_=>True) (by omega) (λj k h=>by omega)
  (λj _ d t=>by
   have l:=kI d;rw[Bu,l];show(∃s',cond (!(isB X kids[j])) (some (kQ ())) (some (kT ()))=some (.next s')∧_)∨ ∃b,cond (!(isB X kids[j])) (some (kQ ())) (some (kT ()))=some (.done b)∧True;cases hc:isB X kids[j]with
   |true=>
    refine .inl ⟨(),rfl,λi k B q=> ?_⟩;rcases Nat.lt_succ_iff_lt_or_eq.1 B with g | rfl
    ·exact t i k g q
    ·rw[l]at q;cases q;exact hc
   |false=>exact .inr ⟨(),rfl,trivial⟩) with⟨_,u,hin⟩|⟨_,u,_⟩
 ·rw[u];dsimp only[kH];have o:∀(j:Nat) k,kids[j]? =some k→ ∃x,idx X.L k=some x:=λj k d=>Xe (hin j k (kU.1 d).1 d);rcases K9 (σ:=Unit) (β:=Unit) (f:=λi _=>(idx kids i).bind λk=>(idx X.L k).bind λx=>(cond (bel x) (some true) ((cut kids 0 i).bind λc=>Au c k)).bind λb=>cond b (some (kQ ())) (some (kT ()))) (n:=kids.length) (s:=()) (λ_ _=>True) (λ_=>True) (by omega) trivial
   (λj _ d _=>by
    have l:=kI d;have⟨x,m⟩:=o j _ l;rw[Bu,l];dsimp only[kH];rw[m];dsimp only[kH]
    have:∃b,cond (bel x) (some true) ((cut kids 0 (j:Int)).bind λc=>Au c kids[j])=some b:=by
     cases bel x with
     |true=>exact⟨true,rfl⟩
     |false=>
      rw[cond_false,Go.Eng.cut_ok (by omega) (by omega) (by omega)];exact Rv _ _ (by simp;omega)
    obtain⟨b,p⟩:=this;rw[p];dsimp only[kH];cases b with
    |true=>exact .inr ⟨(),rfl,trivial⟩
    |false=>exact .inl ⟨(),rfl,trivial⟩) with⟨_,v,_⟩|⟨_,v,_⟩
  ·rw[v];dsimp only[kH]
   right
   have C:bD .i64 ((1:Int)+(kids.length:Int))=1+(kids.length:Int):=w64 (by omega) (by omega);have w:Dg.cloneD kids=some kids:=by unfold Dg.cloneD;rw[if_pos (by omega)]
   obtain⟨r,D,E⟩:=CF (σ:=List Ds) (f:=λi L=>(idx kids i).bind λk=>(idx L k).bind λx=>some (L.set k.toNat (BA x))) (n:=kids.length) (s:=(T3 X (inner a sym kids) (1+(kids.length:Int))).L) (λ_ L=>L.map BA=(T3 X (inner a sym kids) (1+(kids.length:Int))).L.map BA) (by omega) rfl
    (λj L d t=>by
     have l:=kI d;have⟨x,m⟩:=o j _ l;have⟨F,J,_⟩:=CU m;have z:L.length=X.L.length+1:=by
      have:=congrArg kG t
      simpa[T3]using this
     have A:=kI (show kids[j].toNat<L.length by omega);rw[Bu,l];dsimp only[kH];have y:idx L kids[j] =some L[kids[j].toNat]:=by unfold idx;rw[if_pos F,A]
     rw[y];exact⟨_,rfl,(VS A).trans t⟩)
   refine⟨r,E,λlim G H=> ?_⟩;rw[w];dsimp only[kH];rw[C,eN p (by omega) (by omega) G H];by_cases h:X.used+(1+(kids.length:Int)) ≤lim
   ·rw[if_pos h,if_pos h];show((forS _ _ (T3 X (inner a sym kids) (1+(kids.length:Int))).L _).bind _)=_;rw[D];rfl
   ·rw[if_neg h,if_neg h];rfl
  ·rw[v];exact .inl ⟨15,rfl,λlim=>rfl⟩
 ·rw[u];exact .inl ⟨2,rfl,λlim=>rfl⟩
end
end Go.Proofs.YtnlkgidlfnefbaaGreatDoor
