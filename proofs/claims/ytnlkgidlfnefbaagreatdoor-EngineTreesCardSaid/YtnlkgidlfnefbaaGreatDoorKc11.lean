/- The parts P3 to DgTarjan, put together. Conditions: each tells its own. -/
import Derived.Test.YtnlkgidlfnefbaaGreatDoorKc10
import Derived.Test.YtnlkgidlfnefbaaGreatDoorKc5
import Derived.Test.YtnlkgidlfnefbaaGreatDoorKc9
import Derived.Test.YtnlkgidlfnefbaaGreatDoorKc8
import Derived.Test.YtnlkgidlfnefbaaGreatDoorKc7
set_option linter.unusedVariables false
set_option maxRecDepth 100000
open List renaming mem_of_getElem? → bD,getElem?_eq_getElem → bO,getElem?_append_left → eE,getElem?_of_mem → hA,mem_singleton → hM,mem_append → kG,getElem?_eq_some_iff → kH,getElem?_append_right → kI,getElem?_set_ne → kJ,getElem?_set_self → kK,findIdx?_eq_none_iff → kL,length_append → kQ,append_nil → kT,count_cons → kU,mem_cons → kV,mem_append_right → kW,append_assoc → kX,nodup_append → kY,mem_append_left → kZ,length_cons → lA,getElem?_cons_zero → lB,take_add_one → lC,take_of_length_le → lD,take_succ_eq_append_getElem → lG,take_append_drop → lH,getElem?_eq_none → lI,mem_map → lK,drop_eq_getElem_cons → lL,getElem_mem → lN,length_map → lP,map_append → lQ,length_set → lR,mem_range → lS,foldl_append → lT,getElem?_set → lV,cons_append → lX,take_length → lY,range → lZ
open Go.IntKind renaming wrap → hC
open Option renaming bind_some → kF,getD_some → lM
open Nat renaming eq_zero_or_pos → kO,le_refl → lJ,le_trans → lO,lt_or_ge → lW
open Int renaming toNat_natCast → lF,lt_or_le → lU
open Prod renaming ext → mA
open Go.Eng.AY renaming get → mB
open Go.Eng.Ok renaming eq → mC
namespace Go.Proofs.YtnlkgidlfnefbaaGreatDoor
open Go Go.Eng
abbrev k0:List Item:=[((0:Int),(0:Int))]
noncomputable def clo (p:As) (K:List Item):List Item:=(BT (qA p Gi 0) K).getD []
abbrev VPp (p:As):Prop:=VP (p.1.length:Int) p.2.2.1
structure Q7 (R:Rl) (k:List Item):Prop where
 ok:∀x∈k,OkI R x
 up:k.Pairwise Lt
theorem Lt.nodup {l:List Item}(h:l.Pairwise Lt):l.Nodup:=List.nodup_iff_pairwise_ne.2 (h.imp λ{a b} h e=>by subst e;exact Lt.irrefl _ h)
theorem Lx {nT:Int}{R:Rl}(V:VP nT R) {l:List Item}(h:∀x∈l,OkI R x) (d:l.Nodup):l.length≤10100:=by
 have:=List.Nodup.length_le_of_subset (l₂:=(lZ 100).flatMap λa=>(lZ 101).map λb=>(((a:Nat):Int),((b:Nat):Int))) d (λx e=>by
  have⟨f,g,r,c,i⟩:=h x e
  have:=V.short r (bD c)
  have:=(kH.1 c).1
  have:=V.few
  refine List.mem_flatMap.2 ⟨x.1.toNat,lS.2 (by omega),lK.2 ⟨x.2.toNat,lS.2 (by omega),?_⟩⟩;exact mA (by dsimp only;omega) (by dsimp only;omega))
 refine lO this ?_;rw[List.length_flatMap];simp only[lP,List.length_range];decide
theorem Q8 {p:As}(V:VPp p) {K:List Item}(h:Q7 p.2.2.1 K):BT (qA p Gi 0) K=some (clo p K)∧TU p.2.2.1 K (clo p K)∧Q7 p.2.2.1 (clo p K)∧(clo p K).length≤10100:=by
 have f:=Lx V h.ok (Lt.nodup h.up);obtain⟨C,c,a⟩:=WI V h.ok (Lt.nodup h.up) (by omega);have e:clo p K=C:=by unfold clo;rw[c];rfl
 rw[e];have b:Q7 p.2.2.1 C:=⟨λx d=>((a.mem x).1 d).ok h.ok,a.up⟩;exact⟨c,a,b,Lx V b.ok (Lt.nodup b.up)⟩
noncomputable def G6 (p:As) (B:List dtK) (k:List Item) (fr wi:Int):Nat×List dtK:=
 match B.findIdx? (λb=>decide (b.1=k)) with
 |some i=>(i,B)
 |none=>(B.length,B++ [(k,clo p k,fr,wi)])
abbrev BE:Type:=List dtK×List (List Edge)
noncomputable def ID (p:As) (b:dtK) (i:Nat) (y:BE) (s:Int):BE:=((G6 p y.1 (nx p.2.2.1 b.2.1 s) (i:Int) s).2,(Gj y.2 y.1.length (G6 p y.1 (nx p.2.2.1 b.2.1 s) (i:Int) s).2.length).set i ((((Gj y.2 y.1.length (G6 p y.1 (nx p.2.2.1 b.2.1 s) (i:Int) s).2.length))[i]?).getD [] ++ [(s,(((G6 p y.1 (nx p.2.2.1 b.2.1 s) (i:Int) s).1:Nat):Int))]))
noncomputable def Q9 (p:As) (b:dtK) (i:Nat) (l:List Int) (y:BE):BE:=l.foldl (ID p b i) y
noncomputable def stM (p:As):Nat→BE
 | 0=>([(k0,clo p k0, -1, -1)],[[]])
 |n+1=>match (stM p n).1[n]? with
  |some b=>Q9 p b n (sy p.2.2.1 b.2.1) (stM p n)
  |none=>stM p n
noncomputable def mid (p:As) (n m:Nat):BE:=match (stM p n).1[n]? with
 |some b=>Q9 p b n ((sy p.2.2.1 b.2.1).take m) (stM p n)
 |none=>stM p n
theorem Pu (p:As) (B:List dtK) (k:List Item) (fr wi:Int):
 (∃i b,G6 p B k fr wi=(i,B)∧B[i]? =some b∧b.1=k)∨(G6 p B k fr wi=(B.length,B++ [(k,clo p k,fr,wi)])∧ ∀b∈B,b.1≠k):=by
 unfold G6;cases h:B.findIdx? (λb=>decide (b.1=k)) with
 |none=>
  right
  refine⟨rfl,λb a e=> ?_⟩
  have:=kL.1 h b a
  simp[e]at this
 |some i=>
  left
  obtain⟨c,d,_⟩:=List.findIdx?_eq_some_iff_getElem.1 h;exact⟨i,B[i],rfl,bO c,of_decide_eq_true d⟩
def IE (R:Rl) (B:List dtK) (b:dtK) (a:List Int) (e:List Edge):Prop:=
 e.map (·.1)=a∧ ∀x∈e,∃(t:Nat) (bt:dtK),x.2=(t:Int)∧1≤t∧B[t]? =some bt∧bt.1=nx R b.2.1 x.1
structure Inv (p:As) (n:Nat) (syms:List Int) (y:BE):Prop where
 wf:∀b∈y.1,Q7 p.2.2.1 b.1∧b.2.1=clo p b.1
 len:y.2.length=y.1.length
 zero:y.1[0]? =some (k0,clo p k0, -1, -1)
 from_:∀(j:Nat) b,1≤j→y.1[j]? =some b→ ∃(f:Nat) (bf:dtK) (e:List Edge),f<j∧b.2.2.1=(f:Int)∧y.1[f]? =some bf∧b.1=nx p.2.2.1 bf.2.1 b.2.2.2∧b.2.2.2∈sy p.2.2.1 bf.2.1∧y.2[f]? =some e∧(b.2.2.2,(j:Int))∈e
 apart:∀(i j:Nat) bi bj,y.1[i]? =some bi→y.1[j]? =some bj→bi.1=bj.1→i=j
 done:∀(j:Nat) b e,j<n→y.1[j]? =some b→y.2[j]? =some e→IE p.2.2.1 y.1 b (sy p.2.2.1 b.2.1) e
 cur:∀b e,y.1[n]? =some b→y.2[n]? =some e→IE p.2.2.1 y.1 b syms e
 fresh:∀(j:Nat) e,n<j→y.2[j]? =some e→e= []
theorem IE.up {R:Rl}{B c:List dtK}{b:dtK}{a:List Int}{e:List Edge}(H:IE R B b a e) (f:∀(j:Nat) x,B[j]? =some x→c[j]? =some x):IE R c b a e:=
 ⟨H.1,λx g=>by have⟨t,d,h,i,k,l⟩:=H.2 x g;exact⟨t,d,h,i,f t d k,l⟩⟩
theorem Ef {α:Type}{l:List α}{x y:α}{j:Nat}(h:l[j]? =some y):(l++ [x])[j]? =some y:=by rw[eE (kH.1 h).1];exact h
theorem Bm {α:Type}{l:List α}{y:α}{j:Nat}(h:l[j]? =some y):j<l.length:=(kH.1 h).1
theorem Inv.grow {p:As}{n:Nat}{a:List Int}{B:List dtK}{E:List (List Edge)}(H:Inv p n a (B,E)) (i:n<B.length) {x:dtK}:(E++ [[]]).length=(B++ [x]).length∧(B++ [x])[0]? =some (k0,clo p k0, -1, -1)∧
 (∀(j:Nat) b e,j<n→(B++ [x])[j]? =some b→(E++ [[]])[j]? =some e→IE p.2.2.1 (B++ [x]) b (sy p.2.2.1 b.2.1) e)∧
 (∀b e,(B++ [x])[n]? =some b→(E++ [[]])[n]? =some e→IE p.2.2.1 (B++ [x]) b a e)∧(∀(j:Nat) e,n<j→(E++ [[]])[j]? =some e→e= []):=by
 have g:=H.len;dsimp only at g;refine⟨by simp[g],Ef H.zero,λj b e f d c=> ?_,λb e d c=> ?_,λj e f c=> ?_⟩
 ·rw[eE (by omega)]at d c;exact(H.done j b e f d c).up λ_ _ h=>Ef h
 ·rw[eE (by omega)]at d c;exact(H.cur b e d c).up λ_ _ h=>Ef h
 ·rcases Fp c with h | ⟨_,h⟩
  ·exact H.fresh j e f h
  ·exact h
theorem Inv.edge {p:As}(V:VPp p) {n:Nat}{t:List Int}{B:List dtK}{E:List (List Edge)}(H:Inv p n t (B,E)) {b:dtK}(v:B[n]? =some b) {s:Int}(hs:s∈sy p.2.2.1 b.2.1):Inv p n (t++ [s]) (ID p b n (B,E) s):=by
 have I:=Bm v;have W:=H.len;dsimp only at W;obtain⟨e,J⟩:∃e,E[n]? =some e:=⟨_,bO (by omega)⟩;have⟨hg,Y⟩:=H.wf b (bD v);have⟨_,_,w,_⟩:=Q8 V hg;have⟨s0,xs,Z,a0⟩:=PF.1 hs;have a1:∀y∈nx p.2.2.1 b.2.1 s,1≤y.2:=λy z=>(XG V (l:=b.2.1) (by rw[Y];exact w.ok) s0 y z).2;have a2:∃y,y∈nx p.2.2.1 b.2.1 s:=⟨_,WL.2 ⟨xs,Z,a0,rfl⟩⟩;have A:nx p.2.2.1 b.2.1 s≠k0:=λh=>by
  obtain⟨y,z⟩:=a2
  have:=a1 y z
  rw[h]at z
  have:=hM.1 z
  subst this;dsimp only at *;omega
 have u:=H.cur b e v J;unfold ID;rcases Pu p B (nx p.2.2.1 b.2.1 s) (n:Int) s with⟨i,U,h1,K,h3⟩|⟨h1,K⟩
 ·dsimp only;rw[h1];dsimp only;have C:Gj E B.length B.length=E:=by unfold Gj;rw[if_pos rfl]
  rw[C,J,lM];have a3:1≤i:=by
   rcases kO i with h | h
   ·subst h
    have:=H.zero
    dsimp only at this;rw[K]at this;cases this;exact absurd h3.symm A
   ·exact h
  refine⟨H.wf,by simp[W],H.zero,λj m k g=> ?_,H.apart,λj m q k g d=> ?_,λm q g d=> ?_,λj q k d=> ?_⟩
  ·have⟨f,L,ef,M,N,D,O,P,r,Q⟩:=H.from_ j m k g;dsimp only at D r ⊢;by_cases R:f=n
   ·subst R;rw[J]at r;cases r;exact⟨f,L,_,M,N,D,O,P,kK (by omega),kZ _ Q⟩
   ·exact⟨f,L,ef,M,N,D,O,P,by rw[kJ (λh=>R h.symm)];exact r,Q⟩
  ·dsimp only at d;rw[kJ (by omega)]at d;exact H.done j m q k g d
  ·dsimp only at d g;rw[kK (by omega)]at d;rw[v]at g;cases d;cases g;refine⟨by rw[lQ,u.1];rfl,λx hx=> ?_⟩;rcases kG.1 hx with h | h
   ·exact u.2 x h
   ·obtain rfl:=hM.1 h;exact⟨i,U,rfl,a3,K,h3⟩
  ·dsimp only at d;rw[kJ (by omega)]at d;exact H.fresh j q k d
 ·dsimp only;rw[h1];dsimp only;have C:Gj E B.length (B++ [(nx p.2.2.1 b.2.1 s,clo p (nx p.2.2.1 b.2.1 s),(n:Int),s)]).length=E++ [[]]:=by unfold Gj;rw[if_neg (by simp)]
  have S:(E++ [[]])[n]? =some e:=Ef J;rw[C,S,lM];have⟨q1,q2,q3,q4,q5⟩:=H.grow I (x:=(nx p.2.2.1 b.2.1 s,clo p (nx p.2.2.1 b.2.1 s),(n:Int),s));have a4:Q7 p.2.2.1 (nx p.2.2.1 b.2.1 s):=⟨λy z=>(XG V (l:=b.2.1) (by rw[Y];exact w.ok) s0 y z).1,eH (by rw[Y];exact w.up) s⟩
  generalize G:(nx p.2.2.1 b.2.1 s,clo p (nx p.2.2.1 b.2.1 s),(n:Int),s)=X at *
  have X1:X.1=nx p.2.2.1 b.2.1 s:=by rw[←G]
  have F:(B++ [X])[B.length]? =some X:=by rw[kI (lJ _),Nat.sub_self];rfl
  refine⟨λm g=> ?_,by simp[W],q2,λj m k g=> ?_,λi j U bj hi k o=> ?_,λj m q k g d=> ?_,λm q g d=> ?_,λj q k d=> ?_⟩
  ·rcases kG.1 g with h | h
   ·exact H.wf m h
   ·obtain rfl:=hM.1 h;rw[←G];exact⟨a4,rfl⟩
  ·dsimp only at g ⊢;rcases Fp g with h | ⟨hj',rfl⟩
   ·have⟨f,L,ef,M,N,D,O,P,r,Q⟩:=H.from_ j m k h;dsimp only at D r ⊢;by_cases R:f=n
    ·subst R;rw[J]at r;cases r;exact⟨f,L,_,M,N,Ef D,O,P,kK (by simp;omega),kZ _ Q⟩
    ·exact⟨f,L,ef,M,N,Ef D,O,P,by rw[kJ (λh=>R h.symm)];exact Ef r,Q⟩
   ·subst hj';refine⟨n,b,_,I,by rw[←G],Ef v,by rw[←G],by rw[←G];exact hs,kK (by simp;omega),kW _ ?_⟩;rw[←G];exact hM.2 rfl
  ·dsimp only at hi k;rcases Fp hi with a | ⟨a,a'⟩ <;>rcases Fp k with c | ⟨c,c'⟩
   ·exact H.apart i j U bj a c o
   ·rw[c',X1]at o;exact absurd o (K U (bD a))
   ·rw[a',X1]at o;exact absurd o.symm (K bj (bD c))
   ·omega
  ·dsimp only at d g;rw[kJ (by omega)]at d;exact q3 j m q k g d
  ·dsimp only at d g;rw[kK (by simp;omega)]at d;rw[Ef v]at g;cases d;cases g;have T:=q4 b e (Ef v) S;refine⟨by rw[lQ,T.1];rfl,λx hx=> ?_⟩;rcases kG.1 hx with h | h
   ·exact T.2 x h
   ·obtain rfl:=hM.1 h;exact⟨B.length,X,rfl,by omega,F,X1⟩
  ·dsimp only at d;rw[kJ (by omega)]at d;exact q5 j q k d
theorem SP {p:As}{b:dtK}{n:Nat}{s:Int}(y:BE):∃l,(ID p b n y s).1=y.1++l:=by
 unfold ID;rcases Pu p y.1 (nx p.2.2.1 b.2.1 s) (n:Int) s with⟨i,c,a,_⟩|⟨a,_⟩
 ·rw[a];exact⟨[],by simp⟩
 ·rw[a];exact⟨_,rfl⟩
theorem PG {p:As}{b:dtK}{n:Nat}:∀(l:List Int) (y:BE),∃m,(Q9 p b n l y).1=y.1++m:=by
 intro l
 induction l with
 |nil=>intro y;exact⟨[],by simp[Q9]⟩
 |cons s l a=>
  intro y;have⟨c,d⟩:=SP (p:=p) (b:=b) (n:=n) (s:=s) y;obtain⟨e,f⟩:=a (ID p b n y s);exact⟨c++e,by rw[←kX,←d];exact f⟩
theorem Inv.fold {p:As}(V:VPp p) {n:Nat}{b:dtK}:∀(l:List Int) {a:List Int}{y:BE},Inv p n a y→y.1[n]? =some b→(∀s∈l,s∈sy p.2.2.1 b.2.1)→Inv p n (a++l) (Q9 p b n l y):=by
 intro l
 induction l with
 |nil=>intro a y H c _;rw[kT];exact H
 |cons s l f=>
  intro a y H c d;obtain⟨B,E⟩:=y;have g:=H.edge V c (d s (by simp));have⟨m,h⟩:=SP (p:=p) (b:=b) (n:=n) (s:=s) (B,E);have e:=f g (by rw[h,eE (Bm c)];exact c) (λx i=>d x (by simp[i]));rw[kX]at e;exact e
theorem Inv.next {p:As}{n:Nat}{y:BE}{b:dtK}(d:y.1[n]? =some b) (H:Inv p n (sy p.2.2.1 b.2.1) y):Inv p (n+1) [] y:=by
 refine⟨H.wf,H.len,H.zero,H.from_,H.apart,λj f e g a c=> ?_,λf e a c=> ?_,λj e g c=>H.fresh j e (by omega) c⟩
 ·rcases Nat.lt_succ_iff_lt_or_eq.1 g with h | rfl
  ·exact H.done j f e h a c
  ·rw[d]at a;cases a;exact H.cur b e d c
 ·have:=H.fresh (n+1) e (by omega) c
  subst this;exact⟨rfl,by simp⟩
theorem Inv.skip {p:As}{n:Nat}{a:List Int}{y:BE}(g:y.1.length≤n) (H:Inv p n a y) (m:Nat) (h:n≤m):Inv p m [] y:=by
 have i:=H.len;refine⟨H.wf,H.len,H.zero,H.from_,H.apart,λj b e f c d=>H.done j b e (by have:=Bm c;omega) c d,λb e c d=> ?_,λj e f d=> ?_⟩
 ·have:=Bm c;omega
 ·have:=Bm d;omega
theorem TV {p:As}(V:VPp p) (v:1≤p.2.2.1.length):∀n,Inv p n [] (stM p n):=by
 intro n
 induction n with
 |zero=>
  have g:Q7 p.2.2.1 k0:=⟨λx k=>by
   obtain rfl:=hM.1 k;exact⟨by decide,by decide,p.2.2.1[0],bO (by omega),by simp⟩,by simp⟩
  have one:∀(j:Nat) b,(stM p 0).1[j]? =some b→j=0:=λj b h=>by
   have:=Bm h
   simp[stM]at this;exact this
  refine⟨λb a=> ?_,rfl,rfl,λj b c a=> ?_,λi j l o q c _=>by rw[one i l q,one j o c],λj b e c=>by omega,λb e a d=> ?_,λj e c d=> ?_⟩
  ·have:b=(k0,clo p k0, -1, -1):=hM.1 a
   subst this;exact⟨g,rfl⟩
  ·have:=one j b a;omega
  ·have:e= []:=by simpa[stM]using d.symm
   subst this;exact⟨rfl,by simp⟩
  ·have:=Bm d
   simp[stM]at this;omega
 |succ n f=>
  unfold stM;cases h:(stM p n).1[n]? with
  |none=>exact f.skip (List.getElem?_eq_none_iff.1 h) (n+1) (by omega)
  |some b=>
   have r:=f.fold V (sy p.2.2.1 b.2.1) h (λs t=>t);refine Inv.next (b:=b) ?_ r;have⟨m,u⟩:=PG (p:=p) (b:=b) (n:=n) (sy p.2.2.1 b.2.1) (stM p n);rw[u,eE (Bm h)];exact h
theorem ci {p:As}(V:VPp p) (c:1≤p.2.2.1.length) {n m:Nat}{b:dtK}(a:(stM p n).1[n]? =some b):Inv p n ((sy p.2.2.1 b.2.1).take m) (mid p n m)∧(mid p n m).1[n]? =some b:=by have H:=(TV V c n).fold V ((sy p.2.2.1 b.2.1).take m) a (λs d=>List.mem_of_mem_take d);have⟨l,e⟩:=PG (p:=p) (b:=b) (n:=n) ((sy p.2.2.1 b.2.1).take m) (stM p n);unfold mid;rw[a];exact⟨H,by rw[e,eE (Bm a)];exact a⟩
theorem Z6 {p:As}{n m:Nat}{b:dtK}{s:Int}(a:(stM p n).1[n]? =some b) (c:(sy p.2.2.1 b.2.1)[m]? =some s):mid p n (m+1)=ID p b n (mid p n m) s:=by unfold mid;rw[a];dsimp only;rw[lC,c];unfold Q9;rw[lT];rfl
theorem XH {p:As}{n:Nat}{b:dtK}(a:(stM p n).1[n]? =some b):mid p n (sy p.2.2.1 b.2.1).length=stM p (n+1):=by unfold mid;rw[stM];rw[a];dsimp only;rw[lD (lJ _)]
theorem XI {α:Type}{o:Option α}{P:α→Prop}(h:Ok (o.bind some) P):Ok o P:=by
 cases o with
 |none=>exact h
 |some x=>exact h
def tot (B:List dtK):Nat:=(B.map (·.2.1.length)).sum
theorem XJ (B C:List dtK):tot (B++C)=tot B+tot C:=by unfold tot;rw[lQ,List.sum_append]
def Fit (L M:Int) (B:List dtK):Prop:=(B.length:Int) ≤L∧((tot B:Nat):Int) ≤M
theorem Fit.of_app {L M:Int}{B C:List dtK}(h:Fit L M (B++C)):Fit L M B:=by unfold Fit at *;rw[XJ,kQ]at h;omega
structure P0 (L M:Int) (fd:Fd) (rm cl:Dl) (B:List dtK):Prop where
 map:∀k,I64 k→BX (WJ k) fd=(B.findIdx? (λb=>decide (b.1=k))).map (λn:Nat=>(n:Int))
 rlim:rm.1=L
 rused:rm.2.1=(B.length:Int)
 clim:cl.1=M
 cused:cl.2.1=((tot B:Nat):Int)
theorem XK {m:Dl}{n:Int}(b:0≤n) (c:n≤1000000) (d:0≤m.2.1) (e:m.2.1≤m.1) (f:m.1≤1099511627776):
 Ok (meter_Meter_Take_D m n) λt=>(n≤m.1 - m.2.1→t.1=0∧t.2.1=m.1∧t.2.2.1=m.2.1+n)∧(m.1 - m.2.1<n→t.1=5∧t.2=m):=by
 unfold meter_Meter_Take_D Dm;refine AS (decide_eq_false (by omega)) (AJ rfl ?_);rw[w64 (show -9223372036854775808≤m.1 - m.2.1 by omega) (by omega),w64 (show -9223372036854775808≤m.2.1+n by omega) (by omega)];refine Af (λa=>AC ?_) λa=>AC ?_
 ·have:=of_decide_eq_true a
  exact⟨λh=>by omega,λ_=>⟨rfl,rfl⟩⟩
 ·have:=of_decide_eq_false a
  exact⟨λ_=>⟨rfl,rfl,rfl⟩,λh=>by omega⟩
theorem YT {B:List dtK}{x:dtK}{k:List Item}(h:∀b∈B,b.1≠x.1):(B++ [x]).findIdx? (λb=>decide (b.1=k))=if k=x.1 then some B.length else B.findIdx? (λb=>decide (b.1=k)):=by
 rw[List.findIdx?_append];by_cases e:k=x.1
 ·rw[if_pos e]
  have:B.findIdx? (λb=>decide (b.1=k))=none:=kL.2 λb a=>decide_eq_false (by rw[e];exact h b a)
  rw[this];simp[e]
 ·rw[if_neg e]
  have: [x].findIdx? (λb=>decide (b.1=k))=none:=kL.2 λb a=>decide_eq_false (by
   obtain rfl:=hM.1 a;exact λh=>e h.symm)
  rw[this];simp
theorem add_ok {p:As}(V:VPp p) {L M:Int}{H:Fd}{s v:Dl}{B:List dtK}{k:List Item}{fr wi:Int}(C:P0 L M H s v B) (F:Fit L M B) (N:L≤1099511627776) (O:M≤1099511627776) (g:Q7 p.2.2.1 k) (X:B.length<1099512676352):
 Ok (YP p H B s v k fr wi) λr=>r.1=(((G6 p B k fr wi).1:Nat):Int)∧r.2.2.2.1=(G6 p B k fr wi).2∧(Fit L M (G6 p B k fr wi).2→r.2.1=0∧P0 L M r.2.2.1 r.2.2.2.2.1 r.2.2.2.2.2 (G6 p B k fr wi).2)∧(¬Fit L M (G6 p B k fr wi).2→r.2.1=5):=by
 have I:=OkI.i64 V g.ok;have P:=Lx V g.ok (Lt.nodup g.up);have⟨c1,c2,Y,Z⟩:=Q8 V g;have o:=C.map k I;unfold YP;refine AJ (fR I (by omega)) ?_;unfold G6;cases hf:B.findIdx? (λb=>decide (b.1=k)) with
 |some i=>
  rw[hf]at o;rw[o];exact Ap rfl (AC ⟨rfl,rfl,λ_=>⟨rfl,C⟩,λh=>absurd F h⟩)
 |none=>
  rw[hf]at o;have y:∀b∈B,b.1≠k:=λb R=>of_decide_eq_false (kL.1 hf b R);rw[o];have A:=F.1;have D:=F.2;refine AS rfl (AJ c1 ?_);refine AP (XK (m:=s) (n:=1) (by decide) (by decide) (by rw[C.rused];omega) (by rw[C.rused,C.rlim];exact A) (by rw[C.rlim];exact N)) λt f=> ?_;rw[C.rused,C.rlim]at f;have c:tot (B++ [(k,clo p k,fr,wi)])=tot B+(clo p k).length:=by rw[XJ];unfold tot;simp
  have a:(B++ [(k,clo p k,fr,wi)]).length=B.length+1:=by simp
  refine AP (Q:=λ(z:Int×Dl)=>(Fit L M (B++ [(k,clo p k,fr,wi)])→t.1=0∧z.1=0∧z.2.1=M∧z.2.2.1=((tot B+(clo p k).length:Nat):Int))∧(¬Fit L M (B++ [(k,clo p k,fr,wi)])→z.1=5)) (Af (λd=> ?_) λd=>AC ?_) λz J=> ?_
  ·refine AP (XK (m:=v) (n:=(((clo p k).length:Nat):Int)) (by omega) (by omega) (by rw[C.cused];omega) (by rw[C.cused,C.clim];exact D) (by rw[C.clim];exact O)) λu j=>AC ?_;rw[C.cused,C.clim]at j;unfold Fit;rw[c,a];refine⟨λh=>⟨eq_of_beq d,(j.1 (by omega)).1,(j.1 (by omega)).2.1,by rw[(j.1 (by omega)).2.2];omega⟩,λh=> ?_⟩;rcases lU (M - (tot B:Int)) ((clo p k).length:Int) with q | q
   ·exact(j.2 q).1
   ·exfalso;refine h ⟨?_,by omega⟩;rcases lU (L - (B.length:Int)) 1 with w | w
    ·have:=(f.2 w).1
     rw[this]at d;simp at d
    ·omega
  ·unfold Fit;rw[c,a];have d:¬t.1=0:=by simpa using d
   have S:L - (B.length:Int) <1:=by
    rcases lU (L - (B.length:Int)) 1 with w | w
    ·exact w
    ·exact absurd (f.1 w).1 d
   exact⟨λh=>by omega,λ_=>(f.2 S).1⟩
  ·refine BL (by simp;omega) (AC ⟨?_,rfl,λl=> ?_,λl=>J.2 l⟩)
   ·dsimp only;rw[a,w64 (by omega) (by omega)];omega
   ·have⟨z1,T,U,W⟩:=J.1 l;have E:1≤L - (B.length:Int):=by unfold Fit at l;rw[a]at l;omega
    have⟨t1,t2,t3⟩:=f.1 E;refine⟨T,λK G=> ?_,t2,by rw[t3,a];omega,U,by rw[W,c]⟩;rw[DD,YT (x:=(k,clo p k,fr,wi)) y];by_cases e:K=k
    ·rw[if_pos (by rw[e]),if_pos e];rfl
    ·rw[if_neg (λh=>e (Z4 h)),if_neg e];exact C.map K G
theorem cj {p:As}(V:VPp p) {L M:Int}{w:Fd}{x z:Dl}{B:List dtK}{E:List (List Edge)}{n:Nat}{a:List Int}{b:dtK}{s:Int}(H:Inv p n a (B,E)) (k:B[n]? =some b) (J:s∈sy p.2.2.1 b.2.1) (K:a.length≤1000000)
 (C:P0 L M w x z B) (F:Fit L M B) (N:L≤1099511627776) (O:M≤1099511627776) (P:B.length<1099512676352):
 Ok (XE p b (n:Int) s (w,B,E,x,z)) λe=>(Fit L M (ID p b n (B,E) s).1→ ∃f g i,e= .next (f,(ID p b n (B,E) s).1,(ID p b n (B,E) s).2,g,i)∧P0 L M f g i (ID p b n (B,E) s).1)∧(¬Fit L M (ID p b n (B,E) s).1→e= .done 5):=by
 have⟨Q,R⟩:=H.wf b (bD k);have⟨_,_,c,l⟩:=Q8 V Q;rw[←R]at c l;have S:=(PF.1 J).1;have m:Q7 p.2.2.1 (nx p.2.2.1 b.2.1 s):=⟨λy T=>(XG V c.ok S y T).1,eH c.up s⟩;have U:=H.len;dsimp only at U;have W:=Bm k;obtain⟨e,o⟩:∃e,E[n]? =some e:=⟨_,bO (by omega)⟩;have X:e.length=a.length:=by rw[← (H.cur b e k o).1,lP]
 unfold XE;refine AJ (cg V c.ok (by omega) s)<|AP (add_ok V C F N O m P (fr:=(n:Int)) (wi:=s)) λr Y=> ?_;obtain⟨A,D,G,I⟩:=Y;obtain⟨ri,re,q,rB,t,u⟩:=r;dsimp only at A D G I ⊢;subst A D;unfold ID;dsimp only;by_cases j:Fit L M (G6 p B (nx p.2.2.1 b.2.1 s) (n:Int) s).2
 ·have⟨v,Z⟩:=G j;subst v;have d:(Gj E B.length (G6 p B (nx p.2.2.1 b.2.1 s) (n:Int) s).2.length)[n]? =some e:=by
   unfold Gj;split
   ·exact o
   ·exact Ef o
  refine AS rfl (AX d (BL (by simp;omega) (JN (by omega) (by have:=Bm d;omega) (AC ⟨λ_=>⟨q,t,u,?_,Z⟩,λh=>absurd j h⟩))));rw[d,lF];rfl
 ·have v:=I j;subst v;exact Ap rfl (AC ⟨λh=>absurd h j,λ_=>rfl⟩)
def fS (p:As) (L:Int):Prop:= ∀n m,(((mid p n m).1.length:Nat):Int) ≤L→(mid p n m).1.length<1099512676352
theorem Z7 (p:As) (n m:Nat) {b:dtK}(a:(stM p n).1[n]? =some b):∃l,(stM p (n+1)).1=(mid p n m).1++l:=by
 rw[←XH a];unfold mid;rw[a];dsimp only;rw[lD (lJ _)]
 conv=>rhs;intro l;lhs;rw[←lH m (sy p.2.2.1 b.2.1)]
 unfold Q9;rw[lT];exact PG _ _
theorem Z8 {p:As}(V:VPp p) (J:1≤p.2.2.1.length) {L M:Int}{t:Fd}{u v:Dl}{n:Nat}{b:dtK}(k:(stM p n).1[n]? =some b) (C:P0 L M t u v (stM p n).1) (F:Fit L M (stM p n).1) (P:L≤1099511627776) (Q:M≤1099511627776) (R:fS p L):
 Ok (TQ p b (n:Int) (t,(stM p n).1,(stM p n).2,u,v)) λe=>(Fit L M (stM p (n+1)).1→ ∃d f g,e= .next (d,(stM p (n+1)).1,(stM p (n+1)).2,f,g)∧P0 L M d f g (stM p (n+1)).1)∧(¬Fit L M (stM p (n+1)).1→e= .done 5):=by
 have H:=TV V J n;have⟨S,T⟩:=H.wf b (bD k);have⟨_,_,w,z⟩:=Q8 V S;rw[←T]at w z;have U:=Z5 p.2.2.1 b.2.1;unfold TQ;refine AJ (WM w.ok (by omega)) (XI ?_);have a:mid p n 0=stM p n:=by unfold mid;rw[k];rfl
 refine Il (λm (y:BSt)=>y.2.1=(mid p n m).1∧y.2.2.1=(mid p n m).2∧Fit L M (mid p n m).1∧P0 L M y.1 y.2.2.2.1 y.2.2.2.2 (mid p n m).1) (λq=>q=5∧ ¬Fit L M (stM p (n+1)).1) (by omega) ⟨by rw[a],by rw[a],by rw[a];exact F,by rw[a];exact C⟩ (λm y K A=> ?_) (λy A=>AC ?_) λq N=>AC ⟨λh=>absurd h N.2,λ_=>by rw[N.1]⟩
 ·obtain⟨t,B,E,u,v⟩:=y;obtain⟨o,r,x,s⟩:=A;dsimp only at o r s ⊢;have⟨W,D⟩:=ci V J k (m:=m);have O:=bO K;have G:=lN K;have i:=Z6 k O;have j:=R n m x.1;refine AX O ?_;subst o r;refine(cj (B:=(mid p n m).1) (E:=(mid p n m).2) V W D G (by rw[List.length_take];omega) s x P Q j).mono λe I=> ?_;have X:ID p b n ((mid p n m).1,(mid p n m).2) (sy p.2.2.1 b.2.1)[m] =mid p n (m+1):=i.symm;rw[X]at I;by_cases c:Fit L M (mid p n (m+1)).1
  ·obtain⟨d,f,g,Y,Z⟩:=I.1 c;exact .inl ⟨_,Y,rfl,rfl,c,Z⟩
  ·refine .inr ⟨5,I.2 c,rfl,λh=>c ?_⟩;have⟨l,hl⟩:=Z7 p n (m+1) k;rw[hl]at h;exact h.of_app
 ·obtain⟨t,B,E,u,v⟩:=y;obtain⟨o,r,x,s⟩:=A;dsimp only at o r s;rw[XH k]at o r x s;subst o r;exact⟨λ_=>⟨t,u,v,rfl,s⟩,λh=>absurd x h⟩
theorem YU {p:As}(V:VPp p) (u:1≤p.2.2.1.length) {L M:Int}{f:Fd}{g h:Dl}(C:P0 L M f g h (stM p 0).1) (F:Fit L M (stM p 0).1) (v:L≤1099511627776) (w:M≤1099511627776) (x:fS p L):
 Ok (QH p (f,(stM p 0).1,(stM p 0).2,g,h)) λe=>(∃n a b c,e= .next (a,(stM p n).1,(stM p n).2,b,c)∧(stM p n).1.length≤n∧Fit L M (stM p n).1∧P0 L M a b c (stM p n).1)∨(e= .done 5∧ ∃n,¬Fit L M (stM p n).1):=by
 unfold QH;refine XI (E8 (λ(z:Int×BSt)=>∃n:Nat,z.1=(n:Int)∧z.2.2.1=(stM p n).1∧z.2.2.2.1=(stM p n).2∧Fit L M (stM p n).1∧P0 L M z.2.1 z.2.2.2.2.1 z.2.2.2.2.2 (stM p n).1) (λz=>(L+1 - z.1).toNat) (λe=>(∃n a b c,e= .next (a,(stM p n).1,(stM p n).2,b,c)∧(stM p n).1.length≤n∧Fit L M (stM p n).1∧P0 L M a b c (stM p n).1)∨(e= .done 5∧ ∃n,¬Fit L M (stM p n).1)) ⟨0,rfl,rfl,rfl,F,C⟩ (λz y=> ?_) λe j=>AC j);obtain⟨i,f,B,E,g,h⟩:=z;obtain⟨n,o,q,r,l,m⟩:=y;dsimp only at o q r m ⊢;subst o q r;refine Af (λk=> ?_) λk=>B9 (.inl ⟨n,f,g,h,rfl,?_,l,m⟩)
 ·have k:=of_decide_eq_true k;have A:n< (stM p n).1.length:=by omega
  have s:=bO A;refine AX s (AP (Z8 V u s m l v w x) λe j=> ?_);have D:=l.1;by_cases d:Fit L M (stM p (n+1)).1
  ·obtain⟨a,b,c,G,H⟩:=j.1 d;subst G;have t:hC .i64 ((n:Int)+1)=((n+1:Nat):Int):=by rw[w64 (by omega) (by omega)];omega
   refine Ck ⟨⟨n+1,t,rfl,rfl,d,H⟩,?_⟩;dsimp only;rw[t];omega
  ·have:=j.2 d
   subst this;exact B9 (.inr ⟨rfl,n+1,d⟩)
 ·have:=of_decide_eq_false k
  omega
def held (n:Int):Int:=if n<0 then 0 else if n>1099511627776 then 1099511627776 else n
theorem new_ok (n:Int):Bo n=some (held n,0,0):=by
 refine mC ?_;unfold Bo Cq;refine AJ rfl (AC ?_);refine mA ?_ rfl;dsimp only;unfold held
 split<;>split<;>(try split) <;>(try split) <;>omega
theorem TW (n:Int):0≤held n∧held n≤1099511627776:=by unfold held;split<;>(try split) <;>omega
noncomputable def fT (p:As) (n:Nat):D5:=(p.1,p.2.1,p.2.2.1,p.2.2.2.1,p.2.2.2.2.1,p.2.2.2.2.2,FL (stM p n).1 (stM p n).2,((tot (stM p n).1:Nat):Int))
theorem Z9 {p:As}(V:VPp p) (h:1≤p.2.2.1.length) {st it:Int}(j:fS p (held st)):
 Ok (Q3 p st it) λr=>(∃n,(stM p n).1.length≤n∧Fit (held st) (held it) (stM p n).1∧r=(some (fT p n),0))∨(r=(none,5)∧ ∃n,¬Fit (held st) (held it) (stM p n).1):=by
 unfold Q3;have b:=TW st;have c:=TW it;have l:=(TV V h 0).wf (k0,clo p k0, -1, -1) (hM.2 rfl);have m:P0 (held st) (held it) [] (held st,0,0) (held it,0,0) []:=⟨λk _=>rfl,rfl,rfl,rfl,rfl⟩;refine AJ (new_ok st) (AJ (new_ok it) (AP (add_ok V m ⟨b.1,c.1⟩ b.2 c.2 l.1 (by simp)) λr o=> ?_));obtain⟨i,d,f,g⟩:=o;have e:G6 p [] k0 (-1) (-1)=(0,(stM p 0).1):=rfl;rw[e]at i d f g;obtain⟨E,F,q,G,s,t⟩:=r;dsimp only at i d f g ⊢;subst d;by_cases a:Fit (held st) (held it) (stM p 0).1
 ·have⟨u,v⟩:=f a;subst u;refine AS rfl (AP (YU V h v a b.2 c.2 j) λe w=> ?_);rcases w with⟨n,y,z,A,rfl,B,C,D⟩|⟨rfl,n,hn⟩
  ·refine AJ (x:=((tot (stM p n).1:Nat):Int)) (by unfold Cz;exact congrArg some D.cused) (AC (.inl ⟨n,B,C,rfl⟩))
  ·exact AC (.inr ⟨rfl,n,hn⟩)
 ·have:=g a
  subst this;exact Ap rfl (AC (.inr ⟨rfl,0,a⟩))
theorem Pl.vp {e f:Nat}{p:As}(H:Pl e f p):VPp p:=by
 have g:=H.terms.len;obtain⟨st,s1,j,i⟩:=H.first;have a:∀r∈p.2.2.1,((e+1:Nat):Int) ≤r.1∧r.2.1.length≤8∧ ∀s∈r.2.1,0≤s:=λr b=>by
  obtain⟨k,c⟩:=hA b;rcases kO k with rfl | h
  ·rw[i]at c;cases c;refine⟨by dsimp only;omega,by simp,λs d=> ?_⟩
   have:s=st:=by simpa using d
   omega
  ·have:=H.rules k r h c
   exact⟨this.left.1,this.few,λs d=>by have:=this.right s d;omega⟩
 have:=H.room
 exact⟨by omega,λr b=>by rw[g];exact(a r b).1,λr b=>(a r b).2.2,by omega,λr b=>by have:=(a r b).2.1;omega⟩
theorem Pl.pos {a b:Nat}{p:As}(H:Pl a b p):1≤p.2.2.1.length:=H.room.1
structure Fin (p:As) (B:List dtK) (E:List (List Edge)):Prop where
 wf:∀b∈B,Q7 p.2.2.1 b.1∧b.2.1=clo p b.1
 len:E.length=B.length
 zero:B[0]? =some (k0,clo p k0, -1, -1)
 from_:∀(j:Nat) b,1≤j→B[j]? =some b→ ∃(f:Nat) (bf:dtK) (e:List Edge),f<j∧b.2.2.1=(f:Int)∧B[f]? =some bf∧b.1=nx p.2.2.1 bf.2.1 b.2.2.2∧b.2.2.2∈sy p.2.2.1 bf.2.1∧E[f]? =some e∧(b.2.2.2,(j:Int))∈e
 apart:∀(i j:Nat) bi bj,B[i]? =some bi→B[j]? =some bj→bi.1=bj.1→i=j
 done:∀(j:Nat) b e,B[j]? =some b→E[j]? =some e→IE p.2.2.1 B b (sy p.2.2.1 b.2.1) e
theorem fU {p:As}(V:VPp p) (c:1≤p.2.2.1.length) {n:Nat}(h:(stM p n).1.length≤n):Fin p (stM p n).1 (stM p n).2:=by have H:=TV V c n;exact⟨H.wf,H.len,H.zero,H.from_,H.apart,λj b e a d=>H.done j b e (by have:=Bm a;omega) a d⟩
abbrev Be (p:As) (B:List dtK) (E:List (List Edge)) (t:Int):D5:=(p.1,p.2.1,p.2.2.1,p.2.2.2.1,p.2.2.2.2.1,p.2.2.2.2.2,FL B E,t)
section
variable {p:As}{B:List dtK}{E:List (List Edge)}{t:Int}
theorem TX (H:Fin p B E):CI (Be p B E t)=some (B.length:Int):=by unfold CI;rw[EV H.len]
theorem fV {j:Nat}{b:dtK}{e:List Edge}(a:B[j]? =some b) (c:E[j]? =some e):(FL B E)[j]? =some (Mx b e):=by unfold FL;rw[List.getElem?_zipWith,a,c]
theorem XM (H:Fin p B E) {j:Nat}{b:dtK}{e:List Edge}(a:B[j]? =some b) (d:E[j]? =some e):Bv (Be p B E t) (j:Int)=some (Mx b e):=by
 refine mC ?_
 have:=Bm a
 unfold Bv;refine AP (Q:=λc=>c=false) (AS (decide_eq_false (by omega)) (AC (decide_eq_false (by rw[EV H.len];omega)))) λc f=> ?_;subst f;exact AS rfl (AX (fV a d) (AC rfl))
theorem Fin.edge (H:Fin p B E) {j:Nat}{b:dtK}(a:B[j]? =some b):∃e,E[j]? =some e:=⟨_,bO (by have:=Bm a;have:=H.len;omega)⟩
theorem Fin.good (V:VPp p) (H:Fin p B E) {j:Nat}{b:dtK}(d:B[j]? =some b):Q7 p.2.2.1 b.1∧Q7 p.2.2.1 b.2.1∧TU p.2.2.1 b.1 b.2.1∧b.1.length≤10100∧b.2.1.length≤10100:=by have⟨a,e⟩:=H.wf b (bD d);have⟨_,c1,c2,c⟩:=Q8 V a;rw[←e]at c1 c2 c;exact⟨a,c2,c1,Lx V a.ok (Lt.nodup a.up),c⟩
theorem Uy (V:VPp p) (H:Fin p B E) {j:Nat}{b:dtK}(a:B[j]? =some b):Cm (Be p B E t) (j:Int)=some b.2.1:=by
 have⟨e,c⟩:=H.edge a
 have:=(H.good V a).2.2.2.2
 refine mC ?_;unfold Cm;exact AJ (XM H a c) (AJ (x:=b.2.1) (by unfold cloneD;rw[if_pos (by dsimp only;omega)]) (AC rfl))
theorem Fin.edges_len (V:VPp p) (H:Fin p B E) {j:Nat}{b:dtK}{e:List Edge}(a:B[j]? =some b) (c:E[j]? =some e):e.length≤10100:=by have d:=(H.done j b e a c).1;have f:=Z5 p.2.2.1 b.2.1;have g:=(H.good V a).2.2.2.2;rw[←d,lP]at f;omega
theorem Uz (V:VPp p) (H:Fin p B E) {j:Nat}{b:dtK}{e:List Edge}(a:B[j]? =some b) (c:E[j]? =some e):Cn (Be p B E t) (j:Int)=some e:=by
 have:=H.edges_len V a c
 refine mC ?_;unfold Cn;exact AJ (XM H a c) (AJ (x:=e) (by unfold cloneD;rw[if_pos (by dsimp only;omega)]) (AC rfl))
def JU (R:Rl) (B:List dtK) (b:dtK) (e:List Edge) (s t:Int):Prop:=
 (s∈sy R b.2.1∧ ∃(q:Nat) (bt:dtK),t=(q:Int)∧1≤q∧B[q]? =some bt∧bt.1=nx R b.2.1 s∧(s,t)∈e)∨(s∉sy R b.2.1∧t= -1)
theorem XN (V:VPp p) (H:Fin p B E) {j:Nat}{b:dtK}{e:List Edge}(d:B[j]? =some b) (f:E[j]? =some e) (s:Int):Ok (Ay (Be p B E t) (j:Int) s) (JU p.2.2.1 B b e s):=by
 have w:=H.edges_len V d f;have hd:=H.done j b e d f;unfold Ay;refine AJ (XM H d f)<|JO e (λ_ x=>x.1==s) (λ_ x=>x.2) (by omega) (λk x c=> ?_) (λl=>AC (.inr ⟨λh=> ?_,rfl⟩)) λk x c m _=>AC (.inl ?_)
 ·rw[Bu,c,kF];cases x.1==s<;>rfl
 ·rw[←hd.1]at h;have⟨x,c,a⟩:=lK.1 h;obtain⟨k,n⟩:=hA c
  have:=l k x n
  rw[a]at this;simp at this
 ·have a:x.1=s:=eq_of_beq m;have g:=bD c;have⟨q,o,r,u,v,i⟩:=hd.2 x g;rw[a]at i;refine⟨by rw[←hd.1,←a];exact lK.2 ⟨x,g,rfl⟩,q,o,r,u,v,i,?_⟩;rw[←a];exact g
theorem JU.unique (H:Fin p B E) {b:dtK}{e:List Edge}{s t1 t2:Int}(d:JU p.2.2.1 B b e s t1) (f:JU p.2.2.1 B b e s t2):t1=t2:=by
 rcases d with⟨a,g,b1,c1,n,h,i,_⟩|⟨a,c1⟩ <;>rcases f with⟨c,j,k,c2,o,l,m,_⟩|⟨c,c2⟩
 ·rw[c1,c2,H.apart g j b1 k h l (by rw[i,m])]
 ·exact absurd a c
 ·exact absurd c a
 ·rw[c1,c2]
inductive Walk (R:Rl) (B:List dtK) (E:List (List Edge)):Int→List Int→Int→Prop
 |nil (j:Int):Walk R B E j [] j
 |stop {j:Nat} {b:dtK} {e:List Edge} {s:Int} {l:List Int} :B[j]? =some b→E[j]? =some e→JU R B b e s (-1)→Walk R B E j (s::l) (-1)
 |step {j q:Nat} {b:dtK} {e:List Edge} {s:Int} {l:List Int} {t:Int} :B[j]? =some b→E[j]? =some e→JU R B b e s (q:Int)→q<B.length→Walk R B E (q:Int) l t→Walk R B E j (s::l) t
theorem Walk.unique (H:Fin p B E):∀ {l:List Int}{j t1 t2:Int},Walk p.2.2.1 B E j l t1→Walk p.2.2.1 B E j l t2→t1=t2:=by
 intro l
 induction l with
 |nil=>intro j t1 t2 i a;cases i;cases a;rfl
 |cons s l o=>
  intro j t1 t2 i a;cases i with
  | @stop j b e _ _ f g h=>
   generalize r:(j:Int)=j' at a
   cases a with
   |stop=>rfl
   | @step c q k m _ _ _ c1 c2 d t n=>
    have:c=j:=by omega
    subst this;rw[f]at c1;rw[g]at c2;cases c1;cases c2
    have:=JU.unique H h d
    omega
  | @step j q b e _ _ _ f g h w u=>
   generalize r:(j:Int)=j' at a
   cases a with
   | @stop c k m _ _ c1 c2 d=>
    have:c=j:=by omega
    subst this;rw[f]at c1;rw[g]at c2;cases c1;cases c2
    have:=JU.unique H h d
    omega
   | @step c v k m _ _ _ c1 c2 d t n=>
    have:c=j:=by omega
    subst this;rw[f]at c1;rw[g]at c2;cases c1;cases c2
    have:=JU.unique H h d
    have:v=q:=by omega
    subst this;exact o u n
theorem Walk.snoc {l:List Int}:∀ {j:Int}{q r:Nat}{b:dtK}{e:List Edge}{s:Int},Walk p.2.2.1 B E j l (q:Int)→B[q]? =some b→E[q]? =some e→JU p.2.2.1 B b e s (r:Int)→r<B.length→Walk p.2.2.1 B E j (l++ [s]) (r:Int):=by
 induction l with
 |nil=>
  intro j q r b e s h a c d f
  generalize g:(q:Int)=q' at h
  cases h;subst g;exact .step a c d f (.nil _)
 |cons x l i=>
  intro j q r b e s h a c d f
  generalize g:(q:Int)=q' at h
  cases h with
  |stop=>omega
  |step k m n o t=>
   subst g;exact .step k m n o (i t a c d f)
theorem Walk.stops {l:List Int}:∀ {j:Int}{q:Nat}{b:dtK}{e:List Edge}{s:Int},Walk p.2.2.1 B E j l (q:Int)→B[q]? =some b→E[q]? =some e→JU p.2.2.1 B b e s (-1)→ ∀m,Walk p.2.2.1 B E j (l++s::m) (-1):=by
 induction l with
 |nil=>
  intro j q b e s h a c d m
  generalize f:(q:Int)=q' at h
  cases h;subst f;exact .stop a c d
 |cons x l g=>
  intro j q b e s h a c d m
  generalize f:(q:Int)=q' at h
  cases h with
  |stop=>omega
  |step i k n o r=>
   subst f;exact .step i k n o (g r a c d m)
theorem ck (V:VPp p) (H:Fin p B E) {j:Nat}(C:j<B.length) {l:List Int}(I:l.length≤1000000):Ok (C1 (Be p B E t) (j:Int) l) λr=>Walk p.2.2.1 B E (j:Int) l r∧(r= -1∨ ∃q:Nat,r=(q:Int)∧q<B.length):=by
 unfold C1;refine AP (Q:=λc=>c=false) (AS (decide_eq_false (by omega)) (AC (decide_eq_false (by rw[EV H.len];omega)))) λc D=> ?_;subst D;refine AS rfl ?_;have m:Ok ((DF (σ:=Int) (β:=Int) (0:Int) (l.length:Int) (j:Int) λd F=>
  (idx l d).bind λn=>
  (Ay (Be p B E t) F n).bind λt8=>
  cond (decide (t8< (0:Int)))
  (some (AY.done t8))
  (some (AY.next t8))).bind some) (λr=>Walk p.2.2.1 B E (j:Int) l (mB r)∧(mB r= -1∨ ∃q:Nat,mB r=(q:Int)∧q<B.length)):=by
  refine Il (λk (z:Int)=>∃q:Nat,z=(q:Int)∧q<B.length∧Walk p.2.2.1 B E (j:Int) (l.take k) (q:Int)) (λr=>r= -1∧Walk p.2.2.1 B E (j:Int) l (-1)) (by omega) ⟨j,rfl,C,.nil _⟩ (λk z w s=> ?_) (λz s=>AC ?_) λr a=>AC ⟨by show Walk p.2.2.1 B E (j:Int) l r;rw[a.1];exact a.2,.inl a.1⟩
  ·obtain⟨q,rfl,u,f⟩:=s;have h:=bO w;have i:=bO u;have⟨e,v⟩:=H.edge i;refine AX h (AP (XN V H i v l[k]) λt y=> ?_);have g:=y;rcases y with⟨_,r,J,b,A,G,_⟩|⟨_,b⟩
   ·subst b;have a:=Bm G;refine AS (decide_eq_false (by omega)) (Ck ⟨r,rfl,a,?_⟩);rw[lC,h];exact f.snoc i v g a
   ·subst b;refine Ap rfl (B9 ⟨rfl,?_⟩)
    have:=f.stops i v g (l.drop (k+1))
    rw[show l[k]::l.drop (k+1)=l.drop k from(lL w).symm,lH]at this;exact this
  ·obtain⟨q,rfl,u,f⟩:=s;rw[lD (lJ _)]at f;exact⟨f,.inr ⟨q,rfl,u⟩⟩
 obtain⟨r,b,A⟩:=m;rw[show ∀o:Option (AY Int Int),o.bind some=o from λo=>by cases o<;>rfl]at b
 refine AP (Q:=λr=>Walk p.2.2.1 B E (j:Int) l r∧(r= -1∨ ∃q:Nat,r=(q:Int)∧q<B.length)) ⟨mB r,?_,A⟩ λx h=>AC h;rw[b];rfl
end
inductive Nul (R:Rl):Int→Prop
 |rule {r:BM} :r∈R→(∀s∈r.2.1,Nul R s)→Nul R r.1
inductive Pro (nT:Int) (R:Rl):Int→Prop
 |term {s:Int} :0≤s→s<nT→Pro nT R s
 |rule {r:BM} :r∈R→(∀s∈r.2.1,Pro nT R s)→Pro nT R r.1
structure Gr (nT:Int) (R:Rl):Prop where
 pos:0<nT
 zero:∃r st,R[0]? =some r∧r.2.1= [st] ∧nT≤st∧(∀r'∈R,r.1∉r'.2.1)∧ ∀k r',R[k]? =some r'→r'.1=r.1→k=0
 left:∀r∈R,nT≤r.1
 right:∀r∈R,∀s∈r.2.1,0<s
 pro:∀r∈R,∀s∈r.2.1,Pro nT R s
def Pth (Tr:Nat→Int→Nat→Prop):Nat→List Int→Nat→Prop
 |n,[],m=>n=m
 |n,s::l,m=>∃q,Tr n s q∧Pth Tr q l m
theorem Pth.app {Tr:Nat→Int→Nat→Prop}:∀ {l l':List Int}{n m:Nat},Pth Tr n (l++l') m↔∃q,Pth Tr n l q∧Pth Tr q l' m:=by
 intro l
 induction l with
 |nil=>intro l' n m;exact⟨λh=>⟨n,rfl,h⟩,λ⟨q,a,b⟩=>by cases a;exact b⟩
 |cons s l e=>
  intro l' n m;constructor
  ·rintro⟨q,a,b⟩;have⟨p,c,d⟩:=e.1 b;exact⟨p,⟨q,a,c⟩,d⟩
  ·rintro⟨p,⟨q,a,c⟩,d⟩;exact⟨q,a,e.2 ⟨p,c,d⟩⟩
structure Aut (R:Rl) (S:Nat→Prop) (K:Nat→List Item) (Tr:Nat→Int→Nat→Prop):Prop where
 ok:∀ {n x},S n→x∈K n→OkI R x
 kern:∀ {n x},S n→x∈K n→(x=(0,0)∧n=0)∨1≤x.2
 zero:∀x,x∈K 0↔x=(0,0)
 s0:S 0
 st:∀ {n s m},Tr n s m→S n∧S m∧1≤m∧0≤s
 go:∀ {n x},S n→Cl R (K n) x→0≤beh R x→ ∃m,Tr n (beh R x) m
 into:∀ {n s m x},Tr n s m→(x∈K m↔∃y,Cl R (K n) y∧beh R y=s∧x=(y.1,y.2+1))
 some_:∀ {n s m},Tr n s m→ ∃y,Cl R (K n) y∧beh R y=s
 fn:∀ {n s m m'},Tr n s m→Tr n s m'→m=m'
 reach:∀ {n},S n→ ∃l,Pth Tr 0 l n
def It (R:Rl) (K:Nat→List Item) (n k d:Nat):Prop:=Cl R (K n) ((k:Int),(d:Int))
theorem TY (R:Rl) (k d:Nat) {r:BM}(h:R[k]? =some r):beh R ((k:Int),(d:Int))=(r.2.1[d]?).getD (-1):=by unfold beh;dsimp only;rw[lF,lF,h]
theorem PH {nT:Int}{R:Rl}(G:Gr nT R) {k d:Nat}{s:Int}(h:beh R ((k:Int),(d:Int))=s) (a:0≤s):∃r,R[k]? =some r∧r.2.1[d]? =some s:=by
 cases hr:R[k]? with
 |none=>unfold beh at h;dsimp only at h;rw[lF,hr]at h;dsimp only at h;omega
 |some r=>
  rw[TY R k d hr]at h;refine⟨r,rfl,?_⟩;cases hd:r.2.1[d]? with
  |none=>rw[hd]at h;simp at h;omega
  |some x=>rw[hd]at h;simp at h;rw[h]
section
variable {nT:Int}{R:Rl}{S:Nat→Prop}{K:Nat→List Item}{Tr:Nat→Int→Nat→Prop}
theorem Aut.form (A:Aut R S K Tr) {n:Nat}(a:S n) {x:Item}(h:Cl R (K n) x):∃k d:Nat,x=((k:Int),(d:Int))∧It R K n k d∧ ∃r,R[k]? =some r∧d≤r.2.1.length:=by have⟨g,i,r,b,c⟩:=Cl.ok (λx f=>A.ok a f) h;have e:x=((x.1.toNat:Int),(x.2.toNat:Int)):=mA (by simp only;omega) (by simp only;omega);exact⟨x.1.toNat,x.2.toNat,e,by unfold It;rw[←e];exact h,r,b,c⟩
theorem Aut.step (G:Gr nT R) (A:Aut R S K Tr) {n k d:Nat}{r:BM}{s:Int}(f:S n) (h:It R K n k d) (c:R[k]? =some r) (e:r.2.1[d]? =some s):∃m,Tr n s m∧It R K m k (d+1):=by
 have a:beh R ((k:Int),(d:Int))=s:=by rw[TY R k d c,e];rfl
 have g:0<s:=G.right r (bD c) s (bD e);obtain⟨m,b⟩:=A.go f h (by rw[a];omega);rw[a]at b;exact⟨m,b,.base ((A.into b).2 ⟨_,h,a,rfl⟩)⟩
theorem Aut.clos {n k d j:Nat}{r a:BM}{s:Int}(h:It R K n k d) (b:R[k]? =some r) (c:r.2.1[d]? =some s) (e:R[j]? =some a) (f:a.1=s):It R K n j 0:=
 .step h e (by rw[TY R k d b,c,f];rfl)
theorem Aut.back (G:Gr nT R) (A:Aut R S K Tr) {n m k d:Nat}{s:Int}(a:Tr n s m) (h:It R K m k (d+1)):It R K n k d∧ ∃r,R[k]? =some r∧r.2.1[d]? =some s:=by
 unfold It at h
 generalize b:(((k:Int),((d+1:Nat):Int)):Item)=x at h
 cases h with
 |base h=>
  obtain⟨y,c,f,g⟩:=(A.into a).1 h;subst b;have⟨i,j⟩:=Prod.mk.inj g;have e:y=((k:Int),(d:Int)):=mA (by simp only;omega) (by simp only;omega);subst e;exact⟨c,PH G f (A.st a).2.2.2⟩
 |step _ _ _=>have:=(Prod.mk.inj b).2;omega
theorem Aut.at0 (A:Aut R S K Tr) {l:List Int}{n m:Nat}(a:S n) (h:Pth Tr n l m):S m:=by
 induction l generalizing n with
 |nil=>cases h;exact a
 |cons s l b=>obtain⟨q,c,d⟩:=h;exact b (A.st c).2.1 d
theorem Pth.fn (A:Aut R S K Tr) {l:List Int}{n m c:Nat}(h:Pth Tr n l m) (d:Pth Tr n l c):m=c:=by
 induction l generalizing n with
 |nil=>cases h;cases d;rfl
 |cons s l e=>obtain⟨q,f,g⟩:=h;obtain⟨i,a,b⟩:=d;cases A.fn f a;exact e g b
theorem Aut.along (G:Gr nT R) (A:Aut R S K Tr) {k:Nat}{r:BM}(b:R[k]? =some r):∀ {l:List Int}{n d:Nat},S n→It R K n k d→r.2.1.drop d=l→ ∃m,Pth Tr n l m∧It R K m k (d+l.length):=by
 intro l
 induction l with
 |nil=>intro n d _ h _;exact⟨n,rfl,h⟩
 |cons s l c=>
  intro n d e h hd;have f:r.2.1[d]? =some s:=by
   have:=congrArg (λl=>l[0]?) hd
   simpa using this
  have⟨q,a,g⟩:=A.step G e h b f;obtain⟨m,i,j⟩:=c (d:=d+1) (A.st a).2.1 g (by
   have:=congrArg (List.drop 1) hd
   simpa using this)
  exact⟨m,⟨q,a,i⟩,by rw[lA,show d+(l.length+1)=d+1+l.length by omega];exact j⟩
theorem Aut.part (G:Gr nT R) (A:Aut R S K Tr) {n m k:Nat}{r:BM}(b:S n) (f:R[k]? =some r) (h:It R K n k 0) {l l':List Int}(g:r.2.1=l++l') (c:Pth Tr n l m):It R K m k l.length:=by
 have⟨q,a,i⟩:=A.along G f b h (l:=r.2.1) rfl;rw[g]at a;obtain⟨u,j,_⟩:=Pth.app.1 a;have e:∀(l:List Int) (n d m:Nat),S n→It R K n k d→(∃l',r.2.1.drop d=l++l')→Pth Tr n l m→It R K m k (d+l.length):=by
  intro l
  induction l with
  |nil=>intro n d m _ h _ c;cases c;exact h
  |cons s l o=>
   intro n d m b h ⟨l',hd⟩ ⟨q,a,i⟩;have p:r.2.1[d]? =some s:=by
    have:=congrArg (λl=>l[0]?) hd
    simpa using this
   obtain⟨v,j,t⟩:=A.step G b h f p;cases A.fn a j
   have:=o q (d+1) m (A.st a).2.1 t ⟨l',by
    have:=congrArg (List.drop 1) hd
    simpa using this⟩ i
   rw[lA,show d+(l.length+1)=d+1+l.length by omega];exact this
 have:=e l n 0 m b h ⟨l',g⟩ c
 rwa [Nat.zero_add]at this
theorem Aut.behind (G:Gr nT R) (A:Aut R S K Tr) {k:Nat}:∀ {d:Nat}{l:List Int}{m:Nat},Pth Tr 0 l m→It R K m k d→ ∃(l1:List Int) (q:Nat) (r:BM),R[k]? =some r∧l=l1++r.2.1.take d∧Pth Tr 0 l1 q∧Pth Tr q (r.2.1.take d) m∧It R K q k 0∧d≤r.2.1.length:=by
 intro d
 induction d with
 |zero=>
  intro l m a h;obtain⟨o,D,e,_,r,b,_⟩:=A.form (A.at0 A.s0 a) h;have⟨g,_⟩:=Prod.mk.inj e;have g:k=o:=by omega
  subst g;exact⟨l,m,r,b,by simp,a,by simp[Pth],h,Nat.zero_le _⟩
 |succ d t=>
  intro l m a h;rcases List.eq_nil_or_concat l with rfl | ⟨l',s,rfl⟩
  ·cases a;exfalso;unfold It at h
   generalize c:(((k:Int),((d+1:Nat):Int)):Item)=x at h
   cases h with
   |base h=>rw[(A.zero _).1 h]at c;have:=(Prod.mk.inj c).2;omega
   |step _ _ _=>have:=(Prod.mk.inj c).2;omega
  ·rw[List.concat_eq_append]at a ⊢;have⟨n,u,q,b,v⟩:=Pth.app.1 a;cases v;have⟨w,r,i,f⟩:=A.back G b h;obtain⟨l1,p,E,j,y,z,B,C,F⟩:=t u w;rw[i]at j;cases j;refine⟨l1,p,r,i,?_,z,?_,C,(kH.1 f).1⟩
   ·rw[y,kX,lC,f];rfl
   ·rw[lC,f];exact Pth.app.2 ⟨n,B,m,b,rfl⟩
inductive Rdd (nT:Int) (R:Rl) (K:Nat→List Item) (Tr:Nat→Int→Nat→Prop):Nat→Int→Prop
 |term {m q:Nat} {t:Int} :Tr m t q→t<nT→Rdd nT R K Tr m t
 |fin {m:Nat} :It R K m 0 1→Rdd nT R K Tr m 0
 |next {m q:Nat} {c t:Int} :Tr m c q→nT≤c→Nul R c→Rdd nT R K Tr q t→Rdd nT R K Tr m t
inductive Fol (nT:Int) (R:Rl) (K:Nat→List Item) (Tr:Nat→Int→Nat→Prop):Nat→Int→Int→Prop
 |read {n m:Nat} {a t:Int} :Tr n a m→Rdd nT R K Tr m t→Fol nT R K Tr n a t
 |incl {n m q k:Nat} {a t:Int} {r:BM} {b g:List Int} :Tr n a m→R[k]? =some r→r.2.1=b++a::g→(∀s∈g,Nul R s)→It R K q k 0→Pth Tr q b n→Fol nT R K Tr q r.1 t→Fol nT R K Tr n a t
def Lk (nT:Int) (R:Rl) (K:Nat→List Item) (Tr:Nat→Int→Nat→Prop) (s k:Nat) (t:Int):Prop:=
 (k=0∧t=0∧It R K s 0 1)∨(0<k∧ ∃(n m:Nat) (r:BM),R[k]? =some r∧Tr n r.1 m∧Pth Tr n r.2.1 s∧Fol nT R K Tr n r.1 t)
theorem Nul.var (G:Gr nT R) {s:Int}(h:Nul R s):nT≤s:=by
 cases h with
 |rule h _=>exact G.left _ h
theorem U0 (G:Gr nT R) {k d:Nat}{r a:BM}(b:R[0]? =some a) (c:R[k]? =some r):r.2.1[d]?≠some a.1:=by obtain⟨z,st,e,g,i,f,j⟩:=G.zero;rw[e]at b;cases b;exact λh=>f r (bD c) (bD h)
theorem Aut.top (G:Gr nT R) (A:Aut R S K Tr) {n k:Nat}(b:S n) (p:0<k) (h:It R K n k 0):∃(j d:Nat) (r a:BM),It R K n j d∧R[k]? =some r∧R[j]? =some a∧a.2.1[d]? =some r.1:=by
 unfold It at h
 generalize c:(((k:Int),((0:Nat):Int)):Item)=x at h
 cases h with
 |base h=>
  subst c;rcases A.kern b h with⟨e,_⟩|e
  ·have:=(Prod.mk.inj e).1;omega
  ·dsimp only at e;omega
 | @step y g r h f i=>
  have e:=(Prod.mk.inj c).1;have e:k=g:=by omega
  subst e;obtain⟨j,d,rfl,l,_⟩:=A.form b h;have q:=G.left r (bD f);have s:=G.pos;obtain⟨a,m,o⟩:=PH G i.symm (by omega);exact⟨j,d,r,a,l,f,m,o⟩
theorem Aut.goes (G:Gr nT R) (A:Aut R S K Tr) {n k:Nat}{r:BM}(a:S n) (c:0<k) (e:R[k]? =some r) (h:It R K n k 0):∃m,Tr n r.1 m:=by obtain⟨j,d,o,p,f,b,g,i⟩:=A.top G a c h;rw[e]at b;cases b;have⟨m,l,_⟩:=A.step G a f g i;exact⟨m,l⟩
theorem Aut.starts (G:Gr nT R) (A:Aut R S K Tr) {n m k:Nat}{r:BM}(a:R[k]? =some r) (h:Tr n r.1 m):0<k∧It R K n k 0:=by have⟨y,f,g⟩:=A.some_ h;obtain⟨j,d,rfl,i,_⟩:=A.form (A.st h).1 f;obtain⟨l,b,c⟩:=PH G g (A.st h).2.2.2;refine⟨Nat.pos_of_ne_zero λe=> ?_,Aut.clos i b c a rfl⟩;subst e;exact U0 G a b c
theorem Is {l:List Int}{d:Nat}{s:Int}(h:l[d]? =some s):l=l.take d++s::l.drop (d+1):=by
 have a:=(kH.1 h).1;have e:=(kH.1 h).2
 conv=>lhs;rw[←lH d l,lL a,e]
theorem Fol.tr {n:Nat}{a t:Int}(h:Fol nT R K Tr n a t):∃m,Tr n a m:=by
 cases h with
 |read h _=>exact⟨_,h⟩
 |incl h _ _ _ _ _ _=>exact⟨_,h⟩
inductive Fs (nT:Int) (R:Rl):List Int→Int→Prop
 |term {s:Int} {l:List Int} :s<nT→Fs nT R (s::l) s
 |var {s t:Int} {l:List Int} {r:BM} :r∈R→r.1=s→Fs nT R r.2.1 t→Fs nT R (s::l) t
 |skip {s t:Int} {l:List Int} :Nul R s→Fs nT R l t→Fs nT R (s::l) t
inductive Fw (nT:Int) (R:Rl):Int→Int→Prop
 |zero {r:BM} :R[0]? =some r→Fw nT R r.1 0
 |first {r:BM} {b g:List Int} {a t:Int} :r∈R→r.2.1=b++a::g→Fs nT R g t→Fw nT R a t
 |left {r:BM} {b g:List Int} {a t:Int} :r∈R→r.2.1=b++a::g→(∀s∈g,Nul R s)→Fw nT R r.1 t→Fw nT R a t
theorem cn (G:Gr nT R) (A:Aut R S K Tr) {n:Nat}(a:S n) (m:1≤n):¬It R K n 0 0:=by
 intro h;unfold It at h
 generalize b:(((0:Nat):Int),((0:Nat):Int))=x at h
 cases h with
 |base h=>
  subst b;rcases A.kern a h with⟨_,e⟩|e
  ·omega
  ·dsimp only at e;omega
 | @step y k r f c g=>
  have e:=(Prod.mk.inj b).1;have e:k=0:=by omega
  subst e;obtain⟨j,d,rfl,o,_⟩:=A.form a f;have p:=G.pos;have q:=G.left r (bD c);obtain⟨s,i,l⟩:=PH G g.symm (by omega);exact U0 G c i l
theorem XO {s:Nat}{t:Int}(h:Lk nT R K Tr s 0 t):t=0:=by
 rcases h with⟨_,h,_⟩|⟨h,_⟩
 ·exact h
 ·omega
end
def KB (B:List dtK) (n:Nat):List Item:=match B[n]? with
 |some b=>b.1
 |none=>[]
def SB (B:List dtK) (n:Nat):Prop:=n<B.length
def TrB (p:As) (B:List dtK) (E:List (List Edge)) (n:Nat) (s:Int) (m:Nat):Prop:= ∃b e,B[n]? =some b∧E[n]? =some e∧JU p.2.2.1 B b e s (m:Int)
section
variable {p:As}{B:List dtK}{E:List (List Edge)}
theorem U1 {n:Nat}{b:dtK}(h:B[n]? =some b):KB B n=b.1:=by unfold KB;rw[h]
theorem JU.to {b:dtK}{e:List Edge}{s:Int}{m:Nat}(h:JU p.2.2.1 B b e s (m:Int)):s∈sy p.2.2.1 b.2.1∧1≤m∧ ∃a,B[m]? =some a∧a.1=nx p.2.2.1 b.2.1 s∧(s,(m:Int))∈e:=by
 rcases h with⟨c,q,a,j,d,f,g,i⟩|⟨_,h⟩
 ·have e:m=q:=by omega
  subst e;exact⟨c,d,a,f,g,i⟩
 ·omega
theorem GK (V:VPp p) (H:Fin p B E) {n:Nat}{b:dtK}(a:B[n]? =some b) (x:Item):x∈b.2.1↔Cl p.2.2.1 (KB B n) x:=by rw[U1 a];exact(H.good V a).2.2.1.mem x
theorem OQ (V:VPp p) (H:Fin p B E):Aut p.2.2.1 (SB B) (KB B) (TrB p B E) where
 ok {n x} hn hx:=by
  have a:=bO (l:=B) hn;rw[U1 a]at hx;exact(H.good V a).1.ok x hx
 kern {n x} hn hx:=by
  have a:=bO (l:=B) hn;rw[U1 a]at hx;rcases kO n with rfl | h
  ·have:=H.zero
   rw[a]at this;rw[Option.some.inj this]at hx;exact .inl ⟨by simpa[k0]using hx,rfl⟩
  ·have⟨f,F,e,d,k,c,g,w,G,I⟩:=H.from_ n _ h a;rw[g]at hx;exact .inr (XG V (H.good V c).2.1.ok (PF.1 w).1 x hx).2
 zero x:=by rw[U1 H.zero];simp[k0]
 s0:=Bm H.zero
 st {n s m} h:=by
  obtain⟨b,e,a,i,j⟩:=h;obtain⟨d,k,z,c,_⟩:=j.to;exact⟨Bm a,Bm c,k,(PF.1 d).1⟩
 go {n x} hn hx K:=by
  have a:=bO (l:=B) hn;have⟨e,i⟩:=H.edge a;have A:beh p.2.2.1 x∈sy p.2.2.1 B[n].2.1:=PF.2 ⟨K,x,(GK V H a x).2 hx,rfl⟩;have hd:=H.done n _ e a i;rw[←hd.1]at A;obtain⟨y,J,o⟩:=lK.1 A;have⟨t,z,d,k,c,g⟩:=hd.2 y J;refine⟨t,_,e,a,i,.inl ⟨?_,t,z,rfl,k,c,?_,?_⟩⟩
  ·rw[←hd.1];exact A
  ·rw[←o];exact g
  ·rw[←o,←d];exact J
 into {n s m x} h:=by
  obtain⟨b,e,a,i,j⟩:=h;obtain⟨d,k,z,c,g,_⟩:=j.to;rw[U1 c,g,WL];constructor
  ·rintro⟨y,q,r,C⟩;exact⟨y,(GK V H a y).1 q,r,C⟩
  ·rintro⟨y,q,r,C⟩;exact⟨y,(GK V H a y).2 q,r,C⟩
 some_ {n s m} h:=by
  obtain⟨b,e,a,i,j⟩:=h;obtain⟨y,q,r⟩:=(PF.1 j.to.1).2;exact⟨y,(GK V H a y).1 q,r⟩
 fn {n s m m'} h h':=by
  obtain⟨b,e,a,i,j⟩:=h;obtain⟨N,O,u,v,D⟩:=h';rw[a]at u;rw[i]at v;cases u;cases v
  have:=JU.unique H j D
  omega
 reach {n} hn:=by
  induction n using Nat.strongRecOn with
  |_ n L=>
   rcases kO n with rfl | h
   ·exact⟨[],rfl⟩
   ·have a:=bO (l:=B) hn;have⟨f,F,e,d,k,c,g,w,G,I⟩:=H.from_ n _ h a;obtain⟨l,M⟩:=L f d (Bm c);exact⟨l++ [B[n].2.2.2],Pth.app.2 ⟨f,M,n,⟨F,e,c,G,.inl ⟨w,n,_,rfl,h,a,g,I⟩⟩,rfl⟩⟩
theorem aA (H:Fin p B E):∀ {l:List Int}{n m:Nat},n<B.length→(Walk p.2.2.1 B E (n:Int) l (m:Int)↔Pth (TrB p B E) n l m):=by
 intro l
 induction l with
 |nil=>
  intro n m o;constructor
  ·intro h
   generalize r:(n:Int)=n' at h
   generalize g:(m:Int)=m' at h
   cases h
   have:n=m:=by omega
   exact this
  ·rintro rfl;exact .nil _
 |cons s l i=>
  intro n m o;constructor
  ·intro h
   generalize r:(n:Int)=n' at h
   generalize g:(m:Int)=m' at h
   cases h with
   |stop _ _ _=>omega
   | @step j q b e _ _ _ c d a f t=>
    have e:n=j:=by omega
    subst e;subst g;exact⟨q,⟨b,_,c,d,a⟩,(i f).1 t⟩
  ·rintro⟨q,⟨b,e,c,d,a⟩,u⟩;obtain⟨_,_,v,k,_⟩:=a.to;exact .step c d a (Bm k) ((i (Bm k)).2 u)
theorem gZ {g l:Nat}(G:Pl g l p) (n:∀v:Nat,v<p.2.1.length→Pro (p.1.length:Int) p.2.2.1 ((p.1.length+v:Nat):Int)):Gr (p.1.length:Int) p.2.2.1:=by
 have t:=G.terms.len;obtain⟨st,s1,u,m⟩:=G.first;have a:∀(k:Nat) r,p.2.2.1[k]? =some r→(k=0∧r=(((g+1+p.2.1.length:Nat):Int),[st],0))∨(1≤k∧Pr g p.2.1.length l r):=λk r c=>by
  rcases kO k with rfl | h
  ·rw[m]at c;exact .inl ⟨rfl,(Option.some.inj c).symm⟩
  ·exact .inr ⟨h,G.rules k r h c⟩
 have b:∀r∈p.2.2.1,∀s∈r.2.1,0<s∧s< ((g+1+p.2.1.length:Nat):Int):=λr d s f=>by
  obtain⟨k,c⟩:=hA d;rcases a k r c with⟨_,rfl⟩|⟨_,h⟩
  ·simp at f;subst f;omega
  ·exact h.right s f
 refine⟨by omega,⟨_,st,m,rfl,by omega,λi j o=> ?_,λk i c q=> ?_⟩,λr d=> ?_,λr d s f=>(b r d s f).1,λr d s f=> ?_⟩
 ·have:=b i j _ o
  dsimp only at this;omega
 ·rcases a k i c with⟨h,_⟩|⟨_,h⟩
  ·exact h
  ·have:=h.left
   dsimp only at q;omega
 ·obtain⟨k,c⟩:=hA d;rcases a k r c with⟨_,rfl⟩|⟨_,h⟩
  ·dsimp only;omega
  ·have:=h.left;omega
 ·have:=b r d s f
  by_cases h:s< (p.1.length:Int)
  ·exact .term (by omega) h
  ·have e:s=((p.1.length+(s.toNat - p.1.length):Nat):Int):=by omega
   rw[e];exact n _ (by omega)
end
end Go.Proofs.YtnlkgidlfnefbaaGreatDoor
namespace Go.Proofs.YtnlkgidlfnefbaaGreatDoor
open Go Go.Eng Dg
abbrev dtP:Type:=As
abbrev dtA:Type:=D5
noncomputable def YV (ss:List Aa) (x y:Int):Option (Bool×List Aa):=(idx ss x).bind λs=>(idx ss y).bind λo=>need (OkS s∧OkS o)<|some (Fo s o,ss.set x.toNat (BN s o))
noncomputable def co (ss:List Aa) (x:Int) (o:Aa):Option (Bool×List Aa):=(idx ss x).bind λs=>need (OkS s∧OkS o)<|some (Fo s o,ss.set x.toNat (BN s o))
def nT (p:dtP):Int:=(p.1.length:Int)
noncomputable def Ly (p:dtP) (m:Int) (null:List Bool) (x:Int) (ss:List Aa) (seq:List Int):Option (Bool×Bool×List Aa):=
 (DF (σ:=Bool×List Aa) (β:=Bool×Bool×List Aa) 0 (seq.length:Int) (false,ss) λi z=>
  (idx seq i).bind λsym=>(BU p sym).bind λt=>
  cond t
   ((DM (nT p) [sym]).bind λo=>(co z.2 x o).bind λu=>some (.done (u.1 || z.1,false,u.2)))
   (need (hC .i64 (sym - nT p) <m)<|(YV z.2 x (hC .i64 (sym - nT p))).bind λu=>(idx null (hC .i64 (sym - nT p))).bind λb=>
    cond b (some (.next (u.1 || z.1,u.2))) (some (.done (u.1 || z.1,false,u.2))))).bind λe=>match e with
 |.next z=>some (z.1,true,z.2)
 |.done r=>some r
noncomputable def RA (p:dtP) (m:Int) (null:List Bool) (ss:List Aa):Option (Bool×List Bool×List Aa):=forS (σ:=Bool×List Bool×List Aa) 0 (p.2.2.1.length:Int) (false,null,ss) λi z=>(idx p.2.2.1 i).bind λr=>need (0≤hC .i64 (r.1 - nT p)∧hC .i64 (r.1 - nT p) <m)<|(Ly p m z.2.1 (hC .i64 (r.1 - nT p)) z.2.2 r.2.1).bind λg=>(idx z.2.1 (hC .i64 (r.1 - nT p))).bind λb=>(Ea z.2.1 (hC .i64 (r.1 - nT p)) (b || g.2.1)).bind λa=>some (z.1 || g.1 || (g.2.1 && !b),a,g.2.2)
noncomputable def OR (p:dtP) (m:Int) (null:List Bool) (ss:List Aa):Option (Bool×List Aa):=forS (σ:=Bool×List Aa) 0 (p.2.2.1.length:Int) (false,ss) λi z=>(idx p.2.2.1 i).bind λr=>forS (σ:=Bool×List Aa) 0 (r.2.1.length:Int) z λj z=>(idx r.2.1 j).bind λsym=>(BU p sym).bind λt=>cond t (some z) (need (0≤hC .i64 (sym - nT p)∧hC .i64 (sym - nT p) <m)<|(Ly p m null (m+hC .i64 (sym - nT p)) z.2 (r.2.1.drop (j+1).toNat)).bind λg=>(cond g.2.1 (need (0≤hC .i64 (r.1 - nT p)∧hC .i64 (r.1 - nT p) <m)<|(YV g.2.2 (m+hC .i64 (sym - nT p)) (m+hC .i64 (r.1 - nT p))).bind λu=>some (u.1 || g.1,u.2)) (some (g.1,g.2.2))).bind λh=>some (z.1 || h.1,h.2))
noncomputable def PI (p:dtP):Option (List Aa):=forS (σ:=List Aa) 0 (hC .i64 ((p.2.1.length:Int)+1)) [] λ_ a=>(CH (nT p)).bind λs=>app a [s]
noncomputable def LL (ss:List Aa):Option (List (List Int)):=forS (σ:=List (List Int)) 0 (ss.length:Int) [] λi a=>(idx ss i).bind λs=>(Ju s).bind λl=>app a [l]
abbrev dtF:Type:=eA
noncomputable def RB (p:dtP):Option dtF:=(GW (hC .i64 ((p.2.1.length:Int)+1)) false).bind λnull=>(PI p).bind λf=>(PI p).bind λg=>(loop (σ:=Int×List Bool×List Aa) (β:=Int×List Bool×List Aa) (1,null,f++g) λz=>(RA p (f.length:Int) z.2.1 z.2.2).bind λr=>cond r.1 (some (.next (hC .i64 (z.1+1),r.2))) (some (.done (z.1,r.2)))).bind λz=>(idx (z.2.2.drop f.length) (p.2.1.length:Int)).bind λs=>(Aw s 0).bind λa=>(loop (σ:=List Aa) (β:=List Aa) (z.2.2.set (f.length+p.2.1.length) a.2) λss=>(OR p (f.length:Int) z.2.1 ss).bind λr=>cond r.1 (some (.next r.2)) (some (.done r.2))).bind λss=>(LL (ss.take f.length)).bind λa=>(LL (ss.drop f.length)).bind λb=>some (z.2.1,a,b,z.1)
end Go.Proofs.YtnlkgidlfnefbaaGreatDoor
namespace Go.Proofs.YtnlkgidlfnefbaaGreatDoor.Dg
open Go Go.Eng
abbrev Eg:Int:=9223372036854775807
def lv (low:List Int) (v:Int):Int:=(idx low v).getD 0
theorem PJ {low:List Int}{v:Int}(a:0≤v) (b:v< (low.length:Int)):idx low v=some (lv low v):=by
 have:idx low v=some low[v.toNat]:=JM a (by omega)
 unfold lv;rw[this];rfl
theorem aC {low:List Int}{v:Int}(h:v<0∨(low.length:Int) ≤v):lv low v=0:=by
 unfold lv idx;split
 ·rw[lI (by omega)];rfl
 ·rfl
theorem TZ {low:List Int}{x e:Int}(b:0≤x) (c:x< (low.length:Int)) (v:Int):lv (low.set x.toNat e) v=if v=x then e else lv low v:=by
 by_cases a:v=x
 ·subst a;rw[if_pos rfl];unfold lv idx;rw[if_pos b,lV,if_pos rfl,if_pos (by omega)];rfl
 ·rw[if_neg a];unfold lv idx;split
  ·rw[lV,if_neg (by omega)]
  ·rfl
inductive Reach (ll:List (List Int)) (n:Int):Int→Int→Prop where
 |refl (x:Int):Reach ll n x x
 |step {x y z:Int} :y∈DA ll x n→Reach ll n y z→Reach ll n x z
theorem Reach.trans {ll:List (List Int)}{n x y z:Int}(h:Reach ll n x y) (k:Reach ll n y z):Reach ll n x z:=by
 induction h with
 |refl=>exact k
 |step e _ a=>exact .step e (a k)
theorem Reach.one {ll:List (List Int)}{n x y:Int}(h:y∈DA ll x n):Reach ll n x y:=.step h (.refl _)
theorem JV {ll:List (List Int)}{n x y:Int}(h:y∈DA ll x n):0≤y∧y<n:=by
 unfold DA at h;split at h
 ·cases h
 ·have:=(List.mem_filter.1 h).2
  unfold LD at this;simp at this;omega
theorem Reach.closed {ll:List (List Int)}{n:Int}{D:Int→Prop}(a:∀v w,D v→w∈DA ll v n→D w) {x y:Int}(h:Reach ll n x y):D x→D y:=by
 induction h with
 |refl=>exact id
 |step e _ b=>exact λc=>b (a _ _ c e)
structure fW (ll:List (List Int)) (n:Int) {A:Type}(ledA:A→Int→Int→Option A) (partA:A→List Int→Option A) where
 I:(Int→Prop)→A→Prop
 Q:A→Int→Int→Prop
 led:∀ {D:Int→Prop} {a:A} {x to:Int},I D a→0≤x→x<n→to∈DA ll x n→D to∨Reach ll n to x→ ¬D x→ ∃a',ledA a x to=some a'∧I D a'∧Q a' x to∧ ∀y z,Q a y z→Q a' y z
 part:∀ {D:Int→Prop} {a:A} {l:List Int},I D a→l≠[] →l.Nodup→(∀v∈l,0≤v∧v<n∧ ¬D v)→(∀v∈l,∀w∈DA ll v n,Q a v w∧(D w∨w∈l))→(∀v∈l,∀z,z∈l↔Reach ll n v z∧Reach ll n z v)→
  ∃a',partA a l=some a'∧I (λv=>D v∨v∈l) a'∧ ∀y z,Q a y z→Q a' y z
section
variable (ll:List (List Int)) (n:Int)
structure Inv (low stk:List Int):Prop where
 len:(low.length:Int)=n
 on:∀(i:Nat) (v:Int),stk[i]? =some v→0≤v∧v<n∧1≤lv low v∧lv low v≤(i:Int)+1
 off:∀v:Int,0≤v→v<n→v∉stk→lv low v=0∨lv low v=Eg
 nodup:stk.Nodup
 back:∀(i:Nat) (v:Int),stk[i]? =some v→ ∃(j:Nat) (u:Int),lv low v=(j:Int)+1∧stk[j]? =some u∧Reach ll n v u
 clo:∀v w:Int,lv low v=Eg→w∈DA ll v n→lv low w=Eg
variable {ll:List (List Int)}{n:Int}
theorem Inv.size {low stk:List Int}(H:Inv ll n low stk):stk.length≤low.length:=by
 have h:=List.Nodup.length_le_of_subset (l₂:=(lZ low.length).map λk:Nat=>(k:Int)) H.nodup (λv a=>by
  obtain⟨i,b⟩:=hA a
  have:=H.on i v b
  have c:=H.len;exact lK.2 ⟨v.toNat,lS.2 (by omega),by omega⟩)
 simpa using h
theorem Inv.mem {low stk:List Int}(H:Inv ll n low stk) (e:n≤100000) {v:Int}(a:0≤v) (b:v<n) (c:lv low v≠0) (d:lv low v≠Eg):∃i:Nat,stk[i]? =some v:=by
 by_cases h:v∈stk
 ·exact hA h
 ·rcases H.off v a b h with h | h
  ·exact absurd h c
  ·exact absurd h d
theorem Inv.notMax {low stk:List Int}(H:Inv ll n low stk) (c:n≤100000) {i:Nat}{v:Int}(h:stk[i]? =some v):lv low v≠Eg:=by
 have a:=(H.on i v h).2.2.2;have d:=H.size;have e:=H.len;have f:i<stk.length:=by
  rcases lW i stk.length with g | g
  ·exact g
  ·rw[lI g]at h;cases h
 intro b;rw[b]at a;simp only[Eg]at a;omega
theorem NU {α:Type}{l:List α}{i:Nat}{v:α}(h:l[i]? =some v):i<l.length:=by
 rcases lW i l.length with g | g
 ·exact g
 ·rw[lI g]at h;cases h
theorem U2 {low a:List Int}(b:a.length=low.length) (h:∀v,lv low v≠0→lv a v≠0):a.count 0≤low.count 0:=by
 have c:∀(l l':List Int),l'.length=l.length→(∀i:Nat,(l[i]?).getD 0≠0→(l'[i]?).getD 0≠0)→l'.count 0≤l.count 0:=by
  intro l
  induction l with
  |nil=>intro l' b _;rw[List.eq_nil_of_length_eq_zero b];exact lJ _
  |cons x l g=>
   intro l' b h;cases l' with
   |nil=>simp
   |cons y l'=>
    have j:=g l' (by simpa using b) λi d=>by simpa using h (i+1) (by simpa using d)
    have f:=h 0;simp only[lB,lM]at f;rw[kU,kU];by_cases e:x=0
    ·subst e;simp only[beq_self_eq_true,if_true]
     split<;>omega
    ·have:=f e
     rw[if_neg (by simpa using this),if_neg (by simpa using e)];omega
 refine c low a b λi d=> ?_
 have:=h (i:Int)
 unfold lv at this;rw[Bu,Bu]at this;exact this d
theorem Iu {low:List Int}{x e:Int}(b:0≤x) (c:x< (low.length:Int)) (d:lv low x=0) (f:e≠0):(low.set x.toNat e).count 0+1≤low.count 0:=by
 have a:∀(l:List Int) (i:Nat),l[i]? =some 0→(l.set i e).count 0+1≤l.count 0:=by
  intro l
  induction l with
  |nil=>intro i h;simp at h
  |cons y l g=>
   intro i h;cases i with
   |zero=>
    simp only[lB,Option.some.injEq]at h;subst h;rw[List.set_cons_zero,kU,kU];simp[f]
   |succ i=>
    have:=g i (by simpa using h)
    rw[List.set_cons_succ,kU,kU];omega
 refine a low x.toNat ?_
 have:=PJ (low:=low) b c
 unfold idx at this;rw[if_pos b,d]at this;exact this
end
section
variable {ll:List (List Int)}{n:Int}{A:Type}{ledA:A→Int→Int→Option A}{partA:A→List Int→Option A}(S:fW ll n ledA partA)
abbrev Dn (low:List Int) (v:Int):Prop:=lv low v=Eg
structure cq (low stk:List Int) (x:Int) (a:A) (low' ext:List Int) (a':A):Prop where
 inv:Inv ll n low' (stk++ext)
 keep:∀v:Int,lv low v≠0→lv low' v=lv low v
 seen:lv low' x≠0
 fresh:∀v∈ext,lv low v=0
 reach:∀v∈ext,Reach ll n x v
 strict:∀(i:Nat) (v:Int),ext[i]? =some v→lv low' x≤lv low' v∧lv low' v< (stk.length:Int)+i+1
 edges:∀v∈ext,∀w∈DA ll v n,lv low' w≠0∧S.Q a' v w∧ ∀i:Nat,stk[i]? =some w→lv low' v≤(i:Int)+1
 ok:S.I (Dn low') a'
 mono:∀y z:Int,S.Q a y z→S.Q a' y z
structure EW (low0 stk:List Int) (x:Int) (a0:A) (es:List Int) (q:Int) (low ext:List Int) (a:A):Prop where
 inv:Inv ll n low (stk++x::ext)
 keep:∀v:Int,lv low0 v≠0→lv low v=lv low0 v
 fresh:∀v∈ext,lv low0 v=0
 reach:∀v∈ext,Reach ll n x v
 strict:∀(i:Nat) (v:Int),ext[i]? =some v→(lv low x≤lv low v∨q≤lv low v)∧lv low v< (stk.length:Int)+i+2
 edges:∀v∈ext,∀w∈DA ll v n,lv low w≠0∧S.Q a v w∧ ∀i:Nat,stk[i]? =some w→lv low v≤(i:Int)+1
 own:∀w∈es,lv low w≠0∧S.Q a x w∧ ∀i:Nat,stk[i]? =some w→lv low x≤(i:Int)+1
 ok:S.I (Dn low) a
 mono:∀y z:Int,S.Q a0 y z→S.Q a y z
theorem fX (stk:List Int) (x:Int) (ext:List Int):(stk++x::ext)[stk.length]? =some x:=by rw[kI (lJ _),Nat.sub_self];rfl
theorem PK {stk:List Int}{i:Nat}{v:Int}(h:stk[i]? =some v) (r:List Int):(stk++r)[i]? =some v:=by rw[eE (NU h)];exact h
theorem fY {stk:List Int}{x:Int}{ext:List Int}{i:Nat}{v:Int}(h:ext[i]? =some v):(stk++x::ext)[stk.length+1+i]? =some v:=by rw[kI (by omega),show stk.length+1+i - stk.length=i+1 by omega];exact h
theorem Is {stk:List Int}{x:Int}{ext:List Int}{i:Nat}{v:Int}(h:(stk++x::ext)[i]? =some v):(stk[i]? =some v)∨(i=stk.length∧v=x)∨ ∃k,i=stk.length+1+k∧ext[k]? =some v:=by
 rcases Nat.lt_trichotomy i stk.length with g | g | g
 ·left;rw[eE g]at h;exact h
 ·right;left
  subst g;rw[fX]at h;exact⟨rfl,(Option.some.inj h).symm⟩
 ·right;right
  refine⟨i - stk.length - 1,by omega,?_⟩;rw[kI (by omega),show i - stk.length=(i - stk.length - 1)+1 by omega]at h;exact h
theorem EW.all {low0 stk:List Int}{x q:Int}{a0:A}{es low ext:List Int}{a:A}(R:EW S low0 stk x a0 es q low ext a) (c:∀u∈stk,Reach ll n u x):∀(i:Nat) (v:Int),(stk++x::ext)[i]? =some v→Reach ll n v x:=by
 intro i
 induction i using Nat.strongRecOn with
 |ind i d=>
  intro v b;rcases Is b with h | ⟨_,rfl⟩|⟨k,rfl,hk⟩
  ·exact c v (bD h)
  ·exact .refl _
  ·have⟨j,u,g,e,f⟩:=R.inv.back _ v b
   have:=(R.strict k v hk).2
   exact f.trans (d j (by omega) u e)
variable {low0 stk:List Int}{x q:Int}{a0:A}{es low ext:List Int}{a:A}
theorem EW.not_stk (R:EW S low0 stk x a0 es q low ext a) {v:Int}(b:v∈x::ext):v∉stk:=λh=>by
 have:=(kY.1 R.inv.nodup).2.2
 exact this v h v b rfl
theorem EW.not_x (R:EW S low0 stk x a0 es q low ext a) {v:Int}(b:v∈ext):v≠x:=λh=>by
 have:=(kY.1 R.inv.nodup).2.1
 rw[List.nodup_cons]at this;subst h;exact this.1 b
theorem EW.x_on (R:EW S low0 stk x a0 es q low ext a):0≤x∧x<n∧1≤lv low x∧lv low x≤(stk.length:Int)+1:=R.inv.on _ _ (fX stk x ext)
theorem EW.begin (N:n≤100000) (H:Inv ll n low0 stk) (r:0≤x) (B:x<n) (s:lv low0 x=0) (C:S.I (Dn low0) a0):EW S low0 stk x a0 [] (lv (low0.set x.toNat ((stk.length:Int)+1)) x) (low0.set x.toNat ((stk.length:Int)+1)) [] a0:=by
 have g:=H.len;have D:=H.size;have d:=λv=>TZ (low:=low0) (x:=x) (e:=(stk.length:Int)+1) r (by omega) v;have l:x∉stk:=λh=>by
  obtain⟨i,E⟩:=hA h
  have:=(H.on i x E).2.2.1
  omega
 have m:Dn (low0.set x.toNat ((stk.length:Int)+1))=Dn low0:=by
  funext v;apply propext;show lv _ v=Eg↔lv low0 v=Eg;rw[d];split
  ·rename_i e;subst e;rw[s];simp only[Eg];omega
  ·exact Iff.rfl
 have f:∀ {v:Int},lv low0 v≠0→v≠x:=λh e=>by subst e;exact h s
 refine⟨⟨?_,?_,?_,?_,?_,?_⟩,?_,?_,?_,?_,?_,?_,?_,?_⟩
 ·rw[lR];exact g
 ·intro i v c;rcases Is c with h | ⟨rfl,rfl⟩|⟨k,_,hk⟩
  ·have t:=H.on i v h;rw[d,if_neg (f (by omega))];exact t
  ·rw[d,if_pos rfl];exact⟨r,B,by omega,by omega⟩
  ·simp at hk
 ·intro v F G c;have o:v≠x:=λe=>c (by rw[e];simp);rw[d,if_neg o];exact H.off v F G λh=>c (kZ _ h)
 ·rw[kY];exact⟨H.nodup,by simp,λa J b A e=>by simp at A;subst A;subst e;exact l J⟩
 ·intro i v c;rcases Is c with h | ⟨rfl,rfl⟩|⟨k,_,hk⟩
  ·have⟨j,u,K,L,M⟩:=H.back i v h;have t:=H.on i v h;exact⟨j,u,by rw[d,if_neg (f (by omega))];exact K,PK L _,M⟩
  ·exact⟨stk.length,v,by rw[d,if_pos rfl],fX _ _ _,.refl _⟩
  ·simp at hk
 ·intro v w c p;have q:Dn low0 v:=by rw[←m];exact c
  have:=H.clo v w q p
  show Dn _ w;rw[m];exact this
 ·intro v c;rw[d,if_neg (f c)]
 ·intro v c;cases c
 ·intro v c;cases c
 ·intro i v c;simp at c
 ·intro v c;cases c
 ·intro w p;cases p
 ·rw[m];exact C
 ·exact λy z h=>h
theorem EW.child (R:EW S low0 stk x a0 es (lv low x) low ext a) {to:Int}{d e:List Int}{t:A}(q:to∈DA ll x n) (B:lv low to=0) (c:cq S low (stk++x::ext) to a d e t):EW S low0 stk x a0 es (lv d to) d (ext++e) t:=by
 have C:=R.x_on;have k:lv d x=lv low x:=c.keep x (by omega);have l:∀v∈ext,lv low v≠0:=λv b=>by
  obtain⟨i,r⟩:=hA b
  have:=(R.inv.on _ _ (fY (stk:=stk) (x:=x) r)).2.2.1
  omega
 have s:∀v,lv low v=0→lv low0 v=0:=λv b=>by
  by_cases h:lv low0 v=0
  ·exact h
  ·have:=R.keep v h
   omega
 refine⟨?_,?_,?_,?_,?_,?_,?_,c.ok,λy z h=>c.mono y z (R.mono y z h)⟩
 ·have:=c.inv
  rwa [kX,lX]at this
 ·intro v b;have f:=R.keep v b;rw[c.keep v (by rw[f];exact b),f]
 ·intro v b;rcases kG.1 b with h | h
  ·exact R.fresh v h
  ·exact s v (c.fresh v h)
 ·intro v b;rcases kG.1 b with h | h
  ·exact R.reach v h
  ·exact .step q (c.reach v h)
 ·intro i v b;rcases lW i ext.length with g | g
  ·rw[eE g]at b;have f:=R.strict i v b;rw[c.keep v (l v (bD b)),k];exact⟨.inl (f.1.elim id id),f.2⟩
  ·rw[kI g]at b;have f:=c.strict _ v b;refine⟨.inr f.1,?_⟩;have u:=f.2;rw[kQ,lA]at u;omega
 ·intro v b w p;rcases kG.1 b with h | h
  ·have⟨j,m,o⟩:=R.edges v h w p;rw[c.keep v (l v h),c.keep w j];exact⟨j,c.mono _ _ m,o⟩
  ·have⟨j,m,o⟩:=c.edges v h w p;exact⟨j,m,λi r=>o i (PK r _)⟩
 ·intro w p;have⟨j,m,o⟩:=R.own w p;rw[c.keep w j,k];exact⟨j,c.mono _ _ m,o⟩
theorem EW.upd (N:n≤100000) {to:Int}(O:∀u∈stk,Reach ll n u x) (P:lv low0 x=0) (R:EW S low0 stk x a0 es (lv low to) low ext a) (p:to∈DA ll x n) (A:lv low to≠0):
 ∃C,ledA a x to=some C∧EW S low0 stk x a0 (es++ [to]) (lv (low.set x.toNat (if lv low to<lv low x then lv low to else lv low x)) x) (low.set x.toNat (if lv low to<lv low x then lv low to else lv low x)) ext C:=by
 have q:=R.x_on;have E:=R.inv.size;have B:=R.inv.len;rw[kQ,lA]at E;have⟨t0,t1⟩:=JV p;have F:¬Dn low x:=λh=>by have h:lv low x=Eg:=h;simp only[Eg]at h;omega
 have c:Dn low to∨ ∃i:Nat,(stk++x::ext)[i]? =some to:=by
  by_cases h:lv low to=Eg
  ·exact .inl h
  ·exact .inr (R.inv.mem N t0 t1 A h)
 obtain⟨C,Q,T,U,G⟩:=S.led R.ok q.1 q.2.1 p (c.imp id λ⟨i,s⟩=>R.all S O i to s) F;refine⟨C,Q,?_⟩;obtain⟨m,o⟩:∃m,(if lv low to<lv low x then lv low to else lv low x)=m:=⟨_,rfl⟩;rw[o];have V:1≤lv low to:=by
  rcases c with h | ⟨i,s⟩
  ·have h:lv low to=Eg:=h;rw[h];decide
  ·exact(R.inv.on i to s).2.2.1
 have W:m≤lv low x:=by rw[←o];split<;>omega
 have X:m≤lv low to:=by rw[←o];split<;>omega
 have H:1≤m:=by rw[←o];split<;>omega
 have d:=λv=>TZ (low:=low) (x:=x) (e:=m) q.1 (by omega) v;have I:Dn (low.set x.toNat m)=Dn low:=by
  funext v;apply propext;show lv _ v=Eg↔lv low v=Eg;rw[d];split
  ·rename_i e;subst e;simp only[Eg];omega
  ·exact Iff.rfl
 refine⟨⟨?_,?_,?_,R.inv.nodup,?_,?_⟩,?_,R.fresh,R.reach,?_,?_,?_,?_,λy z h=>G y z (R.mono y z h)⟩
 ·rw[lR];exact B
 ·intro i v b;have⟨t,D,Y,Z⟩:=R.inv.on i v b;rw[d];split
  ·rename_i e;subst e;exact⟨t,D,H,by omega⟩
  ·exact⟨t,D,Y,Z⟩
 ·intro v g0 t b;have f:v≠x:=λe=>b (by rw[e];simp);rw[d,if_neg f];exact R.inv.off v g0 t b
 ·intro i v b;rw[d];split
  ·rename_i e
   subst e;by_cases l:lv low to<lv low v
   ·rw[if_pos l]at o;subst o;rcases c with h | ⟨k,hk⟩
    ·have h:lv low to=Eg:=h;rw[h]at l;simp only[Eg]at l;omega
    ·have⟨j,u,M,J,K⟩:=R.inv.back k to hk;exact⟨j,u,M,J,.step p K⟩
   ·rw[if_neg l]at o;subst o;exact R.inv.back i v b
  ·exact R.inv.back i v b
 ·intro v w b r;have L:Dn low v:=by rw[←I];exact b
  show Dn _ w;rw[I];exact R.inv.clo v w L r
 ·intro v b;have f:v≠x:=λe=>b (by rw[e];exact P);rw[d,if_neg f];exact R.keep v b
 ·intro i v b;have f:=R.not_x S (bD b);have⟨t,D⟩:=R.strict i v b;rw[d x,if_pos rfl,d v,if_neg f];refine⟨.inl ?_,D⟩;rcases t with g | g<;>omega
 ·intro v b w r;have⟨M,J,K⟩:=R.edges v b w r;rw[d v,if_neg (R.not_x S b)];refine⟨?_,G _ _ J,K⟩;rw[d]
  split<;>omega
 ·intro w r;rw[d x,if_pos rfl];refine⟨?_,?_,?_⟩
  ·rw[d];split
   ·omega
   ·rcases kG.1 r with h | h
    ·exact(R.own w h).1
    ·simp at h;subst h;exact A
  ·rcases kG.1 r with h | h
   ·exact G _ _ (R.own w h).2.1
   ·simp at h;subst h;exact U
  ·intro i s;rcases kG.1 r with h | h
   ·have:=(R.own w h).2.2 i s;omega
   ·simp at h;subst h
    have:=(R.inv.on i w (PK s _)).2.2.2
    omega
 ·rw[I];exact T
theorem EW.stay (d:lv low0 x=0) (R:EW S low0 stk x a0 (DA ll x n) (lv low x) low ext a) (e:lv low x≠(stk.length:Int)+1):cq S low0 stk x a0 low (x::ext) a:=by
 have f:=R.x_on;refine⟨R.inv,R.keep,by omega,?_,?_,?_,?_,R.ok,R.mono⟩
 ·intro v b;rcases kV.1 b with h | h
  ·rw[h];exact d
  ·exact R.fresh v h
 ·intro v b;rcases kV.1 b with h | h
  ·rw[h];exact .refl _
  ·exact R.reach v h
 ·intro i v b;cases i with
  |zero=>
   simp only[lB,Option.some.injEq]at b;subst b;exact⟨Int.le_refl _,by omega⟩
  |succ i=>
   have:=R.strict i v (by simpa using b)
   exact⟨this.1.elim id id,by omega⟩
 ·intro v b w c;rcases kV.1 b with h | h
  ·subst h;exact R.own w c
  ·exact R.edges v h w c
theorem cr {low:List Int}:∀(l:List Int),(∀v∈l,0≤v∧v< (low.length:Int))→l.length≤9223372036854775807→ ∃a:List Int,(forS 0 (l.length:Int) low λi low=>(idx l i).bind λy=>Ea low y 9223372036854775807)=some a∧a.length=low.length∧ ∀v,lv a v=if v∈l then Eg else lv low v:=by
 intro l d j;obtain⟨a,m,o,p⟩:=CF (f:=λi (low:List Int)=>(idx l i).bind λy=>Ea low y 9223372036854775807) (n:=l.length) (λk a=>a.length=low.length∧ ∀v,lv a v=if v∈l.take k then Eg else lv low v) j (s:=low) ⟨rfl,λv=>by simp⟩ (λk s b ⟨q,r⟩=>by
  have c:=d _ (lN b);refine⟨s.set (l[k]).toNat Eg,by rw[GI b];exact IA c.1 (by omega),by rw[lR];exact q,λv=> ?_⟩;rw[TZ c.1 (by omega),r,lG b];by_cases e:v=l[k]
  ·rw[if_pos e,if_pos (kW _ (by rw[e];exact hM.2 rfl))]
  ·rw[if_neg e];by_cases h:v∈l.take k
   ·rw[if_pos h,if_pos (kZ _ h)]
   ·rw[if_neg h,if_neg λg=>(kG.1 g).elim h λg=>e (hM.1 g)])
 refine⟨a,m,o,λv=> ?_⟩;rw[p,lY]
theorem EW.pop (N:n≤100000) (V:∀u∈stk,Reach ll n u x) (W:lv low0 x=0) (R:EW S low0 stk x a0 (DA ll x n) (lv low x) low ext a) (he:lv low x=(stk.length:Int)+1) {c:List Int}(q:c.length=low.length) (d:∀v,lv c v=if v∈x::ext then Eg else lv low v):
 ∃E,partA a (x::ext)=some E∧cq S low0 stk x a0 c [] E:=by
 have X:=R.x_on;have F:=R.inv.size;have s:=R.inv.len;rw[kQ,lA]at F;have G:∀v∈x::ext,(stk.length:Int)+1≤lv low v:=λv b=>by
  rcases kV.1 b with h | h
  ·subst h;omega
  ·obtain⟨i,o⟩:=hA h
   have:=(R.strict i v o).1.elim id id
   omega
 have t:∀v∈x::ext,∀w∈DA ll v n,lv low w≠0∧S.Q a v w∧ ∀i:Nat,stk[i]? =some w→lv low v≤(i:Int)+1:=λv b w e=>by
  rcases kV.1 b with h | h
  ·subst h;exact R.own w e
  ·exact R.edges v h w e
 have f:∀v∈x::ext,∃i:Nat,(stk++x::ext)[i]? =some v:=λv b=>hA (kW _ b);have r:∀v∈x::ext,∀w∈DA ll v n,lv low w=Eg∨w∈x::ext:=λv b w e=>by
  have⟨H,I,J⟩:=t v b w e;have⟨w0,Y⟩:=JV e;by_cases O:lv low w=Eg
  ·exact .inl O
  ·have⟨i,o⟩:=R.inv.mem N w0 Y H O;rcases Is o with h | ⟨_,rfl⟩|⟨k,_,hk⟩
   ·have P:=J i h;have T:=G v b;have U:=NU h;omega
   ·exact .inr (by simp)
   ·exact .inr (List.mem_cons_of_mem _ (bD hk))
 have A:∀v∈x::ext,¬lv low v=Eg:=λv b=>by
  have⟨i,o⟩:=f v b;exact R.inv.notMax N o
 have p:∀v∈x::ext,Reach ll n x v∧Reach ll n v x:=λv b=>by
  have⟨i,o⟩:=f v b;refine⟨?_,R.all S V i v o⟩;rcases kV.1 b with h | h
  ·rw[h];exact .refl _
  ·exact R.reach v h
 have K:Dn c=λv=>Dn low v∨v∈x::ext:=by
  funext v;apply propext;show lv c v=Eg↔_;rw[d];split
  ·exact⟨λ_=>.inr (by assumption),λ_=>rfl⟩
  ·exact⟨λh=>.inl h,λh=>h.elim id λg=>absurd g (by assumption)⟩
 have B:=(kY.1 R.inv.nodup).2.1;obtain⟨E,P,T,U⟩:=S.part (l:=x::ext) R.ok (by simp) B (λv b=>by
  have⟨i,o⟩:=f v b
  have:=R.inv.on i v o
  exact⟨this.1,this.2.1,A v b⟩) (λv b w e=>⟨(t v b w e).2.1,r v b w e⟩) (λv b z=>by
  constructor
  ·intro C;exact⟨(p v b).2.trans (p z C).1,(p z C).2.trans (p v b).1⟩
  ·rintro⟨L,Z⟩;rcases L.closed (D:=λv=>lv low v=Eg∨v∈x::ext) (λv w b e=>by
    rcases b with h | h
    ·exact .inl (R.inv.clo v w h e)
    ·exact r v h w e) (.inr b) with h | h
   ·exact absurd (Z.closed (D:=λv=>lv low v=Eg) (λv w b e=>R.inv.clo v w b e) h) (A v b)
   ·exact h)
 refine⟨E,P,⟨⟨?_,?_,?_,?_,?_,?_⟩,?_,?_,?_,?_,?_,?_,?_,λy z h=>U y z (R.mono y z h)⟩⟩
 ·rw[q];exact s
 ·intro i v b;rw[kT]at b;have m:v∉x::ext:=λh=>R.not_stk S h (bD b);rw[d,if_neg m];exact R.inv.on i v (PK b _)
 ·intro v g0 L b;rw[kT]at b;rw[d];split
  ·exact .inr rfl
  ·rename_i h
   exact R.inv.off v g0 L λg=>(kG.1 g).elim b h
 ·rw[kT];exact(kY.1 R.inv.nodup).1
 ·intro i v b;rw[kT]at b ⊢;have m:v∉x::ext:=λh=>R.not_stk S h (bD b);have⟨j,u,H,I,J⟩:=R.inv.back i v (PK b _);have h4:=(R.inv.on i v (PK b _)).2.2.2;have h5:=NU b;refine⟨j,u,by rw[d,if_neg m];exact H,?_,J⟩;rw[eE (by omega)]at I;exact I
 ·intro v w b e;have M:Dn low v∨v∈x::ext:=by
   have:Dn c v:=b
   rwa [K]at this
  show Dn c w;rw[K];rcases M with h | h
  ·exact .inl (R.inv.clo v w h e)
  ·exact r v h w e
 ·intro v b;have m:v∉x::ext:=λh=>by
   rcases kV.1 h with h | h
   ·rw[h]at b;exact b W
   ·exact b (R.fresh v h)
  rw[d,if_neg m];exact R.keep v b
 ·rw[d,if_pos (by simp)];decide
 ·intro v b;cases b
 ·intro v b;cases b
 ·intro i v b;simp at b
 ·intro v b;cases b
 ·rw[K];exact T
theorem WN (J:n≤100000) (y:∀l∈ll,l.length≤1073741824):∀(fuel:Nat) (low stk:List Int) (a:A) (x:Int),Inv ll n low stk→0≤x→x<n→lv low x=0→(∀u∈stk,Reach ll n u x)→S.I (Dn low) a→low.count 0≤fuel→
 ∃h ext K,LE ll n ledA partA fuel (low,stk,a) x=some (h,stk++ext,K)∧cq S low stk x a h ext K:=by
 intro fuel
 induction fuel with
 |zero=>
  intro low stk a x H j X r _ _ Z;have z:=H.len
  have:=Iu (e:=1) j (by omega) r (by decide)
  omega
 |succ f ih=>
  intro low stk a x H j X r L hI Z;have z:=H.len;have a0:=H.size;have a4:(DA ll x n).length≤1073741824:=by
   unfold DA;split
   ·simp
   ·refine lO (List.length_filter_le _ _) ?_;cases hg:ll[x.toNat]? with
    |none=>simp
    |some l=>exact y l (bD hg)
  show ∃h ext K,Qn ll n ledA partA (LE ll n ledA partA f) (low,stk,a) x=some (h,stk++ext,K)∧_;unfold Qn;dsimp only;rw[Vy (by simp;omega),kF,IA j (by omega),kF,Fl y];have B:(((stk++ [x]).length:Nat):Int)=(stk.length:Int)+1:=by simp
  rw[B];have a5:=Iu (e:=(stk.length:Int)+1) j (by omega) r (by omega);obtain⟨st,e1,b,c,m,rfl,R,o⟩:=CF (f:=λi st=>(idx (DA ll x n) i).bind λto=>toD ledA (LE ll n ledA partA f) x to st) (n:=(DA ll x n).length)
   (λk st=>∃b c m,st=((b,stk++x::c,m):Dx A)∧EW S low stk x a ((DA ll x n).take k) (lv b x) b c m∧b.count 0≤f) (by omega) (s:=((low.set x.toNat ((stk.length:Int)+1),stk++ [x],a):Dx A))
   ⟨_,[],a,rfl,by rw[List.take_zero];exact EW.begin S J H j X r hI,by omega⟩ (λk st M ⟨b,c,m,e,R,o⟩=>by
    subst e;have p:=lN M;have⟨t0,t1⟩:=JV p;have N:=R.inv.len;rw[GI M,kF,lG M]
    generalize (DA ll x n)[k] =to at *
    unfold toD;dsimp only;rw[PJ t0 (by omega),kF];have mid:∃d g t,(cond (lv b to==0) (LE ll n ledA partA f (b,stk++x::c,m) to) (some (b,stk++x::c,m)))=some (d,stk++x::g,t)∧EW S low stk x a ((DA ll x n).take k) (lv d to) d g t∧lv d to≠0∧d.count 0≤f:=by
     by_cases C:lv b to=0
     ·rw[show(lv b to==0)=true by simp[C],cond_true];obtain⟨d,g,t,D,w⟩:=ih b (stk++x::c) m to R.inv t0 t1 C (λu hu=>by
       obtain⟨i,E⟩:=hA hu;exact(R.all S L i u E).trans (.one p)) R.ok o
      refine⟨d,c++g,t,by rw[D,kX,lX],R.child S p C w,w.seen,?_⟩;have O:=w.inv.len;exact lO (U2 (by omega) λv q=>by rw[w.keep v q];exact q) o
     ·rw[show(lv b to==0)=false by simp[C],cond_false];exact⟨b,c,m,rfl,⟨R.inv,R.keep,R.fresh,R.reach,λi v q=>⟨.inl ((R.strict i v q).1.elim id id),(R.strict i v q).2⟩,R.edges,R.own,R.ok,R.mono⟩,C,o⟩
    obtain⟨d,g,t,D,F,G,P⟩:=mid;have O:=F.inv.len;have a6:=F.x_on;rw[D];simp only[kF];rw[PJ j (by omega),kF,PJ t0 (by omega),kF,IA j (by omega),kF];have⟨a3,Q,R3⟩:=F.upd S J L r p G;refine⟨_,by rw[Q];rfl,_,g,a3,rfl,R3,?_⟩;refine lO (U2 (by simp) λv q=> ?_) P;rw[TZ j (by omega)];split
    ·have:1≤lv d to:=by
      by_cases Y:lv d to=Eg
      ·rw[Y];decide
      ·have⟨i,E⟩:=F.inv.mem J t0 t1 G Y;exact(F.inv.on i to E).2.2.1
     split<;>omega
    ·exact q)
  rw[lY]at R;have N:=R.inv.len;have T:=R.inv.size;have a7:=R.x_on;rw[e1,kF];unfold ZO;dsimp only;rw[PJ j (by omega),kF,B];by_cases hd:lv b x=(stk.length:Int)+1
  ·rw[show(lv b x !=(stk.length:Int)+1)=false by simp[hd],cond_false];have U:(stk++ [x]).length=stk.length+1:=by simp
   rw[U,Fl ⟨by omega,by simp,by omega⟩];have V:(stk++x::c).drop (stk.length+1 - 1)=x::c:=by simp
   have W:(stk++x::c).take (stk.length+1 - 1)=stk:=by simp
   rw[V,W];obtain⟨d,D,w,Q⟩:=cr (low:=b) (x::c) (λv q=>by
    obtain⟨i,E⟩:=hA (kW stk q)
    have:=R.inv.on i v E
    exact⟨this.1,by omega⟩) (by rw[kQ]at T;omega)
   have⟨t,g4,g5⟩:=R.pop S J L r hd w Q;exact⟨d,[],t,by rw[D,kF,g4,kT];rfl,g5⟩
  ·rw[show(lv b x !=(stk.length:Int)+1)=true by simp[hd],cond_true];exact⟨b,x::c,m,rfl,R.stay S r hd⟩
end
end Go.Proofs.YtnlkgidlfnefbaaGreatDoor.Dg
