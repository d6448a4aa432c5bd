/-
  Rt1, Rt2, Rt3, Rt4, Path, P5, Rt5, RefB, RefC, SimT, Rt6, EngR, EngQ, LawsT, put together.
  Conditions: none; each part tells its own.
-/
import Derived.Test.YteoafgapjneblaaGreatDoorKs3
import Derived.Test.YteoafgapjneblaaGreatDoorKs2
import Derived.KernelRfl
import Derived.Test.YteoafgapjneblaaGreatDoorKs1
import Derived.WalkKit
import Derived.ProofKit
import Derived.OpenShut
import Derived.ShutString
import Derived.ChangeOld
import Derived.Below
import Derived.Test.YteoafgapjneblaaGreatDoorRows
import Derived.MakeChecks
import Derived.Stop.LaidErr
import Derived.Lib.LaidTab
open List renaming getElem?_eq_getElem → bM,mem_of_getElem? → bN,getElem?_eq_none → bP,length_map → bQ,getElem?_of_mem → bR,getElem?_append_left → bV,length_append → bY,getElem?_map → cB,mem_cons_self → cF,getElem?_set_self → cG,getElem?_reverse → cQ,length_cons → cS,mem_cons_of_mem → cT,eq_nil_of_length_eq_zero → cU,mem_append → cV,ext_getElem? → cY,take_of_length_le → dB,drop_eq_nil_of_le → dD,nil_append → dG,length_nil → dH,map_append → dI,length_set → dJ,take_append_drop → dK,getElem?_set_ne → dM,mem_singleton → dQ,take_sublist → dS,take_add_one → dU,append_assoc → dV,length → dX
open Option renaming bind_some → bO,isNone → cI
open Go.Eng.Ro renaming int → bT,list → cC,str → dN,slc → eF
open Go.Eng.St renaming freezeRow → bU,unpair → cH,unro → dO,cell → dP,lit → eB,ro → eC,get → eG
open Nat renaming lt_or_ge → bW,eq_zero_or_pos → bX,zero_le → cN,le_refl → cP,add_sub_cancel → dR
open Go.Proofs.Tryz renaming prog → bZ,underlying5 → cK,underlying26 → cZ,underlying22 → dA
open Go.Eng.Sub renaming trans → cA,refl → cD
open Int renaming eq_ofNat_of_zero_le → cE,lt_or_le → dC,le_refl → dL
open Go.IntKind renaming wrap → cJ
open Array renaming getElem?_eq_getElem → cL
open Go.Eng.Ro.SliceIs renaming nil → cX
open Go.Eng.Ok renaming eq → dE
open Go.Proofs.YteoafgapjneblaaGreatDoor.Lt renaming irrefl → dW,nodup → eA
open Go.Eng.AT renaming next → dY,done → dZ
open Prod renaming ext → eD
namespace Go.Proofs.YteoafgapjneblaaGreatDoor
open Go Go.Eng
set_option linter.unusedVariables false
set_option maxRecDepth 100000
theorem LT {α:Type}{R:α→α→Prop}(ir:∀x,¬R x x) (tr:∀ {x y z},R x y→R y z→R x z):∀ {l m:List α},l.Pairwise R→m.Pairwise R→(∀x,x∈l↔x∈m)→l=m:=by
 intro l
 induction l with
 |nil=>
  intro m _ _ h;cases m with
  |nil=>rfl
  |cons y m=>exact absurd ((h y).2 (cF ..)) (by simp)
 |cons a l ih=>
  intro m hl hm h;cases m with
  |nil=>exact absurd ((h a).1 (cF ..)) (by simp)
  |cons b m=>
   rw [List.pairwise_cons]at hl hm;have hab:a=b:=by
    rcases List.mem_cons.1 ((h a).1 (cF ..)) with e | e
    ·exact e
    ·rcases List.mem_cons.1 ((h b).2 (cF ..)) with e' | e'
     ·exact e'.symm
     ·exact absurd (tr (hl.1 b e') (hm.1 a e)) (ir a)
   subst hab;rw [ih hl.2 hm.2 fun x=>⟨fun hx=> ?_,fun hx=> ?_⟩]
   ·rcases List.mem_cons.1 ((h x).1 (cT _ hx)) with rfl | e
    ·exact absurd (hl.1 x hx) (ir x)
    ·exact e
   ·rcases List.mem_cons.1 ((h x).2 (cT _ hx)) with rfl | e
    ·exact absurd (hm.1 x hx) (ir x)
    ·exact e
theorem Lt.tri (x y:Item) (h1:¬Lt x y) (h2:x≠y):Lt y x:=by
 unfold Lt at *
 have:¬(x.1=y.1∧x.2=y.2):=fun ⟨a,b⟩=>h2 (eD a b)
 omega
theorem Gy (l m:List Item) (h:l.length≤9223372036854775807):Ad l m=some (decide (l=m)):=by
 refine dE ?_;unfold Ad;refine AX (fun hc=>AC ?_) fun hc=> ?_
 ·have:l≠m:=fun e=>by subst e;simp at hc
  exact (decide_eq_false this).symm
 have hl:(l.length:Int)=(m.length:Int):=by simpa using hc
 refine Gm (fun i _=>∀j:Nat,j<i→l[j]? =m[j]?) (fun b=>b=decide (l=m)) h (fun j hj=>by omega) (fun i _ hi hI=> ?_) (fun _ hI=>AC ?_) fun b hb=>AC hb
 ·have h1:=bM hi;have h2:=bM (show i<m.length by omega);refine AY h1 (AY h2 (AX (fun hc=>A7 ?_) fun hc=>Bi ?_))
  ·refine (decide_eq_false fun e=> ?_).symm;subst e;simp at hc
  ·intro j hj;rcases Nat.lt_succ_iff_lt_or_eq.1 hj with g | rfl
   ·exact hI j g
   ·rw [h1,h2];have hc:l[j].1=m[j].1∧l[j].2=m[j].2:=by simpa using hc
    rw [eD hc.1 hc.2]
 ·refine (decide_eq_true (cY fun j=> ?_)).symm;rcases bW j l.length with g | g
  ·exact hI j g
  ·rw [bP g,bP (by omega)]
theorem MS (l m:List Edge) (h:l.length≤9223372036854775807):CA l m=some (decide (l=m)):=Gy l m h
theorem Iz {p:RP}{x:Item}(h:OkI p.2.2.1 x):BP p x=some (beh p.2.2.1 x):=by
 obtain ⟨h0,h1,r,h2,h3⟩:=h;refine dE ?_;unfold BP;refine Dn h0 h2 (AX (fun c=> ?_) fun c=>AC ?_)
 ·have c:=of_decide_eq_true c;have hg:=bM (show x.2.toNat<r.2.1.length by omega);refine Dn h0 h2 (Dn h1 hg (AC ?_));unfold beh;rw [h2];dsimp only;rw [hg];rfl
 ·have c:=of_decide_eq_false c;unfold beh;rw [h2];dsimp only;rw [bP (by omega)];rfl
theorem NU {l:List Item}(hl:l.Pairwise Lt) (hn:l.length≤1000000) (x:Item):Ok (Bl l x) fun m=>m.Pairwise Lt∧(∀y,y∈m↔y∈l∨y=x)∧((x∈l∧m=l)∨(x∉l∧m.length=l.length+1)):=by
 unfold Bl;refine CG (fun z=>∃i:Nat,z=(i:Int)∧i≤l.length∧ ∀(j:Nat) y,j<i→l[j]? =some y→Lt y x) (fun z=>l.length - z.toNat) (fun b=>∃i:Nat,b=(i:Int)∧i≤l.length∧(∀(j:Nat) y,j<i→l[j]? =some y→Lt y x)∧ ∀y,l[i]? =some y→ ¬Lt y x) ⟨0,rfl,cN _,fun j y h=>by omega⟩ (fun z hz=> ?_) fun b hb=> ?_
 ·obtain ⟨i,rfl,hi,hI⟩:=hz;refine AL (Q:=fun c=>(c=true→ ∃y,l[i]? =some y∧Lt y x)∧(c=false→ ∀y,l[i]? =some y→ ¬Lt y x)) (AX (fun hc=> ?_) fun hc=>AC ⟨by simp,fun _ y hy=> ?_⟩) fun c hc=> ?_
  ·have hlt:i<l.length:=by have:=of_decide_eq_true hc;omega
   have hg:=bM hlt;obtain ⟨y,hy⟩:∃y,l[i] =y:=⟨_,rfl⟩;rw [hy]at hg;refine AY hg (AX (fun h=>AC ⟨fun _=>⟨y,hg,.inl (of_decide_eq_true h)⟩,by simp⟩) fun h=> ?_);have h:=of_decide_eq_false h;refine AY hg (AX (fun h2=>AY hg (AC ⟨fun h3=>⟨y,hg,.inr ⟨by simpa using h2,of_decide_eq_true h3⟩⟩,fun h3 y' e=> ?_⟩)) fun h2=>AC ⟨by simp,fun _ y' e=> ?_⟩)
   ·rw [hg]at e;cases e;have h3:=of_decide_eq_false h3;have h2:y.1=x.1:=by simpa using h2
    unfold Lt;omega
   ·rw [hg]at e;cases e;have h2:y.1≠x.1:=by simpa using h2
    unfold Lt;omega
  ·have:=of_decide_eq_false hc
   rw [bP (by omega)]at hy;cases hy
  ·refine AX (fun h=>Bi ?_) fun h=>A7 ⟨i,rfl,hi,hI,hc.2 h⟩;obtain ⟨y,hy,hlt⟩:=hc.1 h;have hil:=(List.getElem?_eq_some_iff.1 hy).1;rw [w64 (n:=(i:Int)+1) (by omega) (by omega)];refine ⟨⟨i+1,by omega,hil,fun j y' hj e=> ?_⟩,by omega⟩;rcases Nat.lt_succ_iff_lt_or_eq.1 hj with g | rfl
   ·exact hI j y' g e
   ·rw [hy]at e;cases e;exact hlt
 ·obtain ⟨i,rfl,hi,hI,hx⟩:=hb;refine AL (Q:=fun c=>(c=true→l[i]? =some x)∧(c=false→l[i]?≠some x)) (AX (fun hc=> ?_) fun hc=>AC ⟨by simp,fun _ e=> ?_⟩) fun c hc=> ?_
  ·have hlt:i<l.length:=by have:=of_decide_eq_true hc;omega
   have hg:=bM hlt;obtain ⟨y,hy⟩:∃y,l[i] =y:=⟨_,rfl⟩;rw [hy]at hg;refine AY hg (AC ⟨fun h=> ?_,fun h e=> ?_⟩)
   ·have h:y.1=x.1∧y.2=x.2:=by simpa using h
    rw [hg,eD h.1 h.2]
   ·rw [hg]at e;cases e;simp at h
  ·have:=of_decide_eq_false hc
   rw [bP (by omega)]at e;cases e
  ·refine AX (fun h=>AC ?_) fun h=> ?_
   ·have hm:=bN (hc.1 h);exact ⟨hl,fun y=>⟨.inl,fun h=>h.elim id fun e=>by rw [e];exact hm⟩,.inl ⟨hm,rfl⟩⟩
   ·have hne:=hc.2 h;have e1:cut l (0:Int) (i:Int)=some (l.take i):=by unfold cut;rw [if_pos ⟨by omega,by omega,by omega⟩];simp
    have e2:cut l (i:Int) (l.length:Int)=some (l.drop i):=by unfold cut;rw [if_pos ⟨by omega,by omega,by omega⟩];simp
    have hlen:(l.take i).length+(l.drop i).length=l.length:=by simp;omega
    refine AK e1 (AK e2 (BW (by simp;omega) (BW (by simp;omega) (BW (by simp;omega) (AC ?_)))));rw [dG];have lo:∀y∈l.take i,Lt y x:=fun y hy=>by
     obtain ⟨j,hj⟩:=bR hy;have hji:j<i:=by have:=(List.getElem?_eq_some_iff.1 hj).1;simp at this;omega
     rw [List.getElem?_take_of_lt hji]at hj;exact hI j y hji hj
    have hi':∀y∈l.drop i,Lt x y:=fun y hy=>by
     obtain ⟨j,hj⟩:=bR hy;rw [List.getElem?_drop]at hj;have hjl:=(List.getElem?_eq_some_iff.1 hj).1;have hg:=bM (show i<l.length by omega);have h0:Lt x l[i]:=Lt.tri _ _ (hx _ hg) (fun e=>hne (by rw [hg,e]));rcases bX j with rfl | g
     ·rw [Nat.add_zero,hg]at hj;cases hj;exact h0
     ·have:=List.pairwise_iff_getElem.1 hl i (i+j) (by omega) hjl (by omega)
      rw [(List.getElem?_eq_some_iff.1 hj).2]at this;exact h0.trans this
    have hnot:x∉l:=fun hm=>by
     rw [←dK i l]at hm;rcases List.mem_append.1 hm with g | g
     ·exact dW x (lo x g)
     ·exact dW x (hi' x g)
    refine ⟨?_,fun y=> ?_,.inr ⟨hnot,by simp;omega⟩⟩
    ·refine List.pairwise_append.2 ⟨List.pairwise_append.2 ⟨hl.sublist (dS i l),List.pairwise_singleton _ _,fun a ha b hb=> ?_⟩,hl.sublist (List.drop_sublist i l),fun a ha b hb=> ?_⟩
     ·obtain rfl:=List.mem_singleton.1 hb;exact lo a ha
     ·rcases List.mem_append.1 ha with g | g
      ·exact (lo a g).trans (hi' b hb)
      ·obtain rfl:=List.mem_singleton.1 g;exact hi' b hb
    ·rw [cV,cV,dQ];constructor
     ·rintro ((h | h)|h)
      ·exact .inl (List.mem_of_mem_take h)
      ·exact .inr h
      ·exact .inl (List.mem_of_mem_drop h)
     ·rintro (h | h)
      ·rw [←dK i l]at h;rcases List.mem_append.1 h with g | g
       ·exact .inl (.inl g)
       ·exact .inr g
      ·exact .inl (.inr h)
structure Gr (R:Rl) (K o:List Item):Prop where
 up:o.Pairwise Lt
 has:∀x∈K,x∈o
 cl:∀x∈o,Cl R K x
theorem Gr.ok {R:Rl}{K o:List Item}(H:Gr R K o) (hK:∀x∈K,OkI R x):∀x∈o,OkI R x:=fun x hx=>(H.cl x hx).ok hK
set_option maxHeartbeats 1000000 in
theorem IL {p:RP}(V:VPp p) {K:List Item}(hG:GF p.2.2.1 K):Ao p K=some (clo p K):=by
 obtain ⟨_,hC,hCg,_⟩:=Dq V hG;have hlen:∀ {o:List Item},Gr p.2.2.1 K o→o.length≤10100:=fun H=>Dp V (H.ok hG.ok) (eA H.up);have hR:=V.few;have hK:=Dp V hG.ok (eA hG.up);refine dE ?_;unfold Ao;refine BW (by simp;omega) ?_;rw [dG];have fin:∀o:List Item,Gr p.2.2.1 K o→(∀(j:Nat) x,o[j]? =some x→ ∀(k:Nat) r,p.2.2.1[k]? =some r→r.1=beh p.2.2.1 x→((k:Int),(0:Int))∈o)→o=clo p K:=fun o H hc=>by
  refine LT dW (fun h1 h2=>Lt.trans h1 h2) H.up hC.up fun x=> ?_;rw [hC.mem];refine ⟨H.cl x,fun h=> ?_⟩
  induction h with
  |base h=>exact H.has _ h
  |step _ h1 h2 ih=>
   obtain ⟨j,hj⟩:=bR ih;exact hc j _ hj _ _ h1 h2
 refine CG (fun (z:Bool×List Item)=>Gr p.2.2.1 K z.2∧(z.1=false→ ∀(j:Nat) x,z.2[j]? =some x→ ∀(k:Nat) r,p.2.2.1[k]? =some r→r.1=beh p.2.2.1 x→((k:Int),(0:Int))∈z.2)) (fun z=>(10100 - z.2.length) *2+(if z.1 then 1 else 0)) (fun o=>o=clo p K) ⟨⟨hG.up,fun _ h=>h,fun _ h=>.base h⟩,by simp⟩ (fun z hz=> ?_) fun o ho=>AC ho;obtain ⟨more,o⟩:=z;obtain ⟨H,hc⟩:=hz;dsimp only at H hc ⊢;refine AX (fun hm=> ?_) fun hm=>A7 (fin o H (hc hm));subst hm;have ho:=hlen H;refine CG (fun (z:Int×Bool×List Item)=>∃i:Nat,z.1=(i:Int)∧Gr p.2.2.1 K z.2.2∧((z.2.1=true∧o.length<z.2.2.length)∨(z.2.1=false∧z.2.2=o∧i≤o.length∧ ∀(j:Nat) x,j<i→o[j]? =some x→ ∀(k:Nat) r,p.2.2.1[k]? =some r→r.1=beh p.2.2.1 x→((k:Int),(0:Int))∈o)))
  (fun z=>if z.2.1 then 0 else o.length+1 - z.1.toNat) (fun b=>Gr p.2.2.1 K b.2∧((b.1=true∧o.length<b.2.length)∨(b.1=false∧b.2=o∧ ∀(j:Nat) x,o[j]? =some x→ ∀(k:Nat) r,p.2.2.1[k]? =some r→r.1=beh p.2.2.1 x→((k:Int),(0:Int))∈o))) ⟨0,rfl,H,.inr ⟨rfl,rfl,cN _,fun j x h=>by omega⟩⟩ (fun z hz=> ?_) fun b hb=> ?_
 ·obtain ⟨i',m,o2⟩:=z;obtain ⟨i,h1,H2,h3⟩:=hz;dsimp only at h1 H2 h3 ⊢;subst h1;have ho2:=hlen H2;rcases h3 with ⟨rfl,h3⟩|⟨rfl,rfl,hi,hcl⟩
  ·
   refine AL (Q:=fun c=>c=false) (AX (fun _=>AC rfl) fun _=>AC rfl) fun c hc=> ?_;subst hc;exact AU rfl (A7 ⟨H2,.inl ⟨rfl,h3⟩⟩)
  ·rcases bW i o2.length with hlt | hge
   ·refine AL (Q:=fun c=>c=true) (A4 (decide_eq_true (by omega)) (AC rfl)) fun c hc=> ?_;subst hc;have hx:=bM hlt;obtain ⟨x,hxe⟩:∃x,o2[i] =x:=⟨_,rfl⟩;rw [hxe]at hx;have hxm:=bN hx;refine A4 rfl (AY hx (AK (Iz (H.ok hG.ok x hxm)) ?_));refine Cn (fun k (z:Bool×List Item)=>Gr p.2.2.1 K z.2∧((z.1=true∧o2.length<z.2.length)∨(z.1=false∧z.2=o2∧ ∀(k':Nat) r,k'<k→p.2.2.1[k']? =some r→r.1=beh p.2.2.1 x→((k':Int),(0:Int))∈o2))) (by omega) ⟨H,.inr ⟨rfl,rfl,fun k' r h=>by omega⟩⟩ (fun k z hk hz=> ?_) fun z hz=> ?_
    ·obtain ⟨m,o3⟩:=z;obtain ⟨H3,h3⟩:=hz;dsimp only at H3 h3 ⊢;have ho3:=hlen H3;have hr:=bM hk;obtain ⟨r,hre⟩:∃r,p.2.2.1[k] =r:=⟨_,rfl⟩;rw [hre]at hr;refine AY hr<|AL (Q:=fun (z:Bool×List Item)=>Gr p.2.2.1 K z.2∧((z.1=true∧o2.length<z.2.length)∨(z.1=false∧z.2=o2∧ ∀(k':Nat) r,k'<k+1→p.2.2.1[k']? =some r→r.1=beh p.2.2.1 x→((k':Int),(0:Int))∈o2))) (AX (fun hc=> ?_) fun hc=>AC ⟨H3,?_⟩) fun z hz=>AC hz
     ·have hc:r.1=beh p.2.2.1 x:=by simpa using hc
      refine AL (NU H3.up (by omega) ((k:Int),(0:Int))) fun o4 h4=> ?_;obtain ⟨u1,u2,u3⟩:=h4;have H4:Gr p.2.2.1 K o4:=⟨u1,fun y hy=>(u2 y).2 (.inl (H3.has y hy)),fun y hy=>((u2 y).1 hy).elim (H3.cl y) fun e=>by rw [e];exact .step (H.cl x hxm) hr hc⟩;have hl4:o3.length≤o4.length:=by rcases u3 with ⟨_,rfl⟩|⟨_,e⟩ <;>omega
      refine AL (Q:=fun c=>c=true∧(o2.length<o4.length)∨(c=false∧o4=o3∧m=false∧((k:Int),(0:Int))∈o3)) (AX (fun hm=>AC (.inl ⟨rfl,?_⟩)) fun hm=>AC ?_) fun c hc=>AC ?_
      ·rcases h3 with ⟨_,h⟩|⟨h,_⟩
       ·omega
       ·rw [hm]at h;cases h
      ·rcases u3 with ⟨hmem,rfl⟩|⟨_,e⟩
       ·exact .inr ⟨decide_eq_false (by omega),rfl,hm,hmem⟩
       ·refine .inl ⟨decide_eq_true (by omega),?_⟩;rcases h3 with ⟨_,h⟩|⟨_,h,_⟩
        ·omega
        ·rw [←h];omega
      ·refine ⟨H4,?_⟩;rcases hc with ⟨hcc,h⟩|⟨hcc,e4,hm1,hmem⟩
       ·exact .inl ⟨hcc,h⟩
       ·subst e4;rcases h3 with ⟨h,_⟩|⟨_,rfl,h⟩
        ·rw [hm1]at h;cases h
        ·refine .inr ⟨hcc,rfl,fun k' r' hk' hr' hb=> ?_⟩;rcases Nat.lt_succ_iff_lt_or_eq.1 hk' with g | rfl
         ·exact h k' r' g hr' hb
         ·exact hmem
     ·have hc:r.1≠beh p.2.2.1 x:=by simpa using hc
      rcases h3 with h | ⟨h,h',h''⟩
      ·exact .inl h
      ·refine .inr ⟨h,h',fun k' r' hk' hr' hb=> ?_⟩;rcases Nat.lt_succ_iff_lt_or_eq.1 hk' with g | rfl
       ·exact h'' k' r' g hr' hb
       ·rw [hr]at hr';cases hr';exact absurd hb hc
    ·obtain ⟨H3,h3⟩:=hz;refine Bi ⟨⟨i+1,by rw [w64 (by omega) (by omega)];omega,H3,?_⟩,?_⟩
     ·rcases h3 with h | ⟨h,h',h''⟩
      ·exact .inl h
      ·refine .inr ⟨h,h',hlt,fun j y hj hy k r hr hb=> ?_⟩;rcases Nat.lt_succ_iff_lt_or_eq.1 hj with g | rfl
       ·exact hcl j y g hy k r hr hb
       ·rw [hx]at hy;cases hy;exact h'' k r (List.getElem?_eq_some_iff.1 hr).1 hr hb
     ·dsimp only;rw [w64 (n:=(i:Int)+1) (by omega) (by omega)];rw [if_neg (show ¬((false:Bool)=true) from Bool.false_ne_true)]
      split<;>omega
   ·refine AL (Q:=fun c=>c=false) (AU (decide_eq_false (by omega)) (AC rfl)) fun c hc=> ?_;subst hc;refine AU rfl (A7 ⟨H2,.inr ⟨rfl,rfl,fun j y hj=>hcl j y (by have:=(List.getElem?_eq_some_iff.1 hj).1;omega) hj⟩⟩)
 ·obtain ⟨m,o2⟩:=b;obtain ⟨H2,h2⟩:=hb;dsimp only at H2 h2 ⊢;have ho2:=hlen H2;refine Bi ⟨⟨H2,fun hm=> ?_⟩,?_⟩
  ·rcases h2 with ⟨h,_⟩|⟨_,rfl,h⟩
   ·have hm:m=false:=hm;rw [hm]at h;cases h
   ·exact h
  ·dsimp only;rw [if_pos rfl];rcases h2 with ⟨rfl,h⟩|⟨rfl,rfl,_⟩
   ·rw [if_pos rfl];omega
   ·rw [if_neg (by simp)];omega
def yOf (B:List dtK) (E:List (List Edge)):RS (List Edge):=(B.map (·.1),B.map (·.2.1),E,B.map (·.2.2.1),B.map (·.2.2.2),((tot B:Nat):Int))
theorem LU {α:Type}{o:Option α}{P:α→Prop}(h:Ok (o.bind some) P):Ok o P:=by cases o<;>exact h
theorem KZ {B:List dtK}(hB:B.length≤1099512000000) (hl:∀b∈B,b.1.length≤1000000) (k:List Item):Ok (Ix (B.map (·.1)) k) fun e=>(∃(i:Nat) (b:dtK),e= .done (i:Int)∧B[i]? =some b∧b.1=k)∨(∃u,e= .next u∧ ∀b∈B,b.1≠k):=by
 unfold Ix;refine LU (CG (fun z=>∃i:Nat,z=(i:Int)∧i≤B.length∧ ∀(j:Nat) b,j<i→B[j]? =some b→b.1≠k) (fun z=>B.length - z.toNat) (fun e=>(∃(i:Nat) (b:dtK),e= .done (i:Int)∧B[i]? =some b∧b.1=k)∨(∃u,e= .next u∧ ∀b∈B,b.1≠k)) ⟨0,rfl,cN _,fun j b h=>by omega⟩ (fun z hz=> ?_) fun b hb=>AC hb);obtain ⟨i,rfl,hi,hI⟩:=hz;rcases bW i B.length with hlt | hge
 ·have hb:=bM hlt;obtain ⟨b,hbe⟩:∃b,B[i] =b:=⟨_,rfl⟩;rw [hbe]at hb;have hbl:=hl b (bN hb);refine A4 (decide_eq_true (by rw [bQ];omega)) (AY (x:=b.1) (by rw [cB,hb];rfl) (AK (Gy _ _ (by omega)) (AX (fun h=>A7 (.inl ⟨i,b,rfl,hb,of_decide_eq_true h⟩)) fun h=>Bi ?_)));rw [w64 (n:=(i:Int)+1) (by omega) (by omega)];refine ⟨⟨i+1,by omega,hlt,fun j b' hj e=> ?_⟩,by omega⟩;rcases Nat.lt_succ_iff_lt_or_eq.1 hj with g | rfl
  ·exact hI j b' g e
  ·rw [hb]at e;cases e;exact of_decide_eq_false h
 ·refine AU (decide_eq_false (by rw [bQ];omega)) (A7 (.inr ⟨(),rfl,fun b hb=> ?_⟩));obtain ⟨j,hj⟩:=bR hb;exact hI j b (by have:=(List.getElem?_eq_some_iff.1 hj).1;omega) hj
section
variable {p:RP}
theorem Inv.kl (V:VPp p) {n:Nat}{syms:List Int}{B:List dtK}{E:List (List Edge)}(H:Inv p n syms (B,E)):∀b∈B,b.1.length≤10100∧b.2.1.length≤10100:=fun b hb=>by
 obtain ⟨h1,h2⟩:=H.wf b hb;rw [h2];exact ⟨Dp V h1.ok (eA h1.up),(Dq V h1).2.2.2⟩
theorem MT (V:VPp p) {n:Nat}{syms:List Int}{B:List dtK}{E:List (List Edge)}(H:Inv p n syms (B,E)) (hB:B.length≤1099512000000) (hT:tot B≤1152921504606846976) {k:List Item}(hk:GF p.2.2.1 k) (fr wi:Int):
 placeG [] p (yOf B E) k fr wi=some ((((DI p B k fr wi).1:Nat):Int),yOf (DI p B k fr wi).2 (CQ E B.length (DI p B k fr wi).2.length)):=by
 obtain ⟨e,he,hq⟩:=KZ hB (fun b hb=>by have:=H.kl V b hb;omega) k;have hE:E.length=B.length:=H.len;unfold placeG;show (Ix (B.map (·.1)) k).bind _=_;rw [he,bO];rcases E6 p B k fr wi with ⟨i,b,h1,h2,h3⟩|⟨h1,h2⟩
 ·rw [h1];rcases hq with ⟨i',b',rfl,g1,g2⟩|⟨u,rfl,g⟩
  ·have:i'=i:=H.apart i' i b' b g1 h2 (by rw [g2,h3])
   subst this
   have:CQ E B.length B.length=E:=by unfold CQ;rw [if_pos rfl]
   dsimp only;rw [this]
  ·exact absurd h3 (g b (bN h2))
 ·rw [h1];rcases hq with ⟨i',b',rfl,g1,g2⟩|⟨u,rfl,g⟩
  ·exact absurd g2 (h2 b' (bN g1))
  ·obtain ⟨_,_,_,hcl⟩:=Dq V hk;have hg:CQ E B.length (B++ [(k,clo p k,fr,wi)]).length=E++ [[]]:=by unfold CQ;rw [if_neg (by simp)]
   dsimp only;rw [hg];rw [IL V hk,bO];unfold yOf;dsimp only;rw [Er (by simp;omega),bO,Er (by simp;omega),bO,Er (by simp;omega),bO,Er (by simp;omega),bO,Er (by simp;omega),bO];rw [IT,w64 (by simp only [bY,bQ,cS,dH];omega) (by simp only [bY,bQ,cS,dH];omega),w64 (by omega) (by omega)];simp only [dI,List.map_cons,List.map_nil,bY,bQ,cS,dH];have ht:tot [(k,clo p k,fr,wi)] =(clo p k).length:=by unfold tot;simp
   rw [ht];congr 2;omega
theorem OB (V:VPp p) {I:List Item}(hI:∀x∈I,OkI p.2.2.1 x) (hu:I.Pairwise Lt) (hl:I.length≤10100) (s:Int):OA p I s=some (nx p.2.2.1 I s):=by
 unfold OA;refine dE (LU (Cn (fun j (z:List Item)=>z=nx p.2.2.1 (I.take j) s) (by omega) (by simp [nx]) (fun j z hj hz=> ?_) fun z hz=>AC (by rw [hz,dB (cP _)])));subst hz;have hx:=bM hj;obtain ⟨x,hxe⟩:∃x,I[j] =x:=⟨_,rfl⟩;rw [hxe]at hx;have hxm:=bN hx;have hd:=OkI.dot V (hI x hxm);have hd0:=(hI x hxm).2.1;have e1:nx p.2.2.1 (I.take (j+1)) s=nx p.2.2.1 (I.take j) s++nx p.2.2.1 [x] s:=by
  rw [dU,hx];unfold nx;rw [List.filter_append,dI];rfl
 refine AY hx (AK (Iz (hI x hxm)) (AX (fun h=> ?_) fun h=>AC ?_))
 ·have h:beh p.2.2.1 x=s:=by simpa using h
  have hut:=fun m:Nat=>KV (R:=p.2.2.1) (hu.sublist (dS m I)) s;have hlt:(nx p.2.2.1 (I.take j) s).length≤1000000:=Nat.le_trans (Oo _ _ _) (by simp;omega);rw [w64 (n:=x.2+1) (by omega) (by omega)];refine (NU (hut j) hlt (x.1,x.2+1)).mono fun m hm=>LT dW (fun h1 h2=>Lt.trans h1 h2) hm.1 (hut (j+1)) fun y=> ?_;rw [hm.2.1,e1,cV]
  have:nx p.2.2.1 [x] s= [(x.1,x.2+1)]:=by unfold nx;simp [h]
  rw [this,dQ]
 ·have h:beh p.2.2.1 x≠s:=by simpa using h
  rw [e1]
  have:nx p.2.2.1 [x] s= []:=by unfold nx;simp [h]
  rw [this,List.append_nil]
theorem OC (V:VPp p) {n:Nat}{syms:List Int}{B:List dtK}{E:List (List Edge)}(H:Inv p n syms (B,E)) (hB:B.length≤1099512000000) (hT:tot B≤1152921504606846976) {b:dtK}(hb:B[n]? =some b) {e:List Edge}(he:E[n]? =some e) (hel:e.length≤1000000) {s:Int}(hs:0≤s):
 symR p (n:Int) s (yOf B E)=some (if s∈sy p.2.2.1 b.2.1 then yOf (Ci p b n (B,E) s).1 (Ci p b n (B,E) s).2 else yOf B E):=by
 obtain ⟨hw1,hw2⟩:=H.wf b (bN hb);obtain ⟨_,hC,hg,hcl⟩:=Dq V hw1;rw [←hw2]at hC hg hcl;have hE:E.length=B.length:=H.len;have hnx:=KW V hg.ok hs;have hgk:GF p.2.2.1 (nx p.2.2.1 b.2.1 s):=⟨fun x hx=>(hnx x hx).1,KV hg.up s⟩;refine dE ?_;unfold symR;refine AY (x:=b.2.1) (by show (B.map (·.2.1))[n]? =_;rw [cB,hb];rfl) (AK (OB V hg.ok hg.up hcl s) ?_);have hiff:s∈sy p.2.2.1 b.2.1↔0< (nx p.2.2.1 b.2.1 s).length:=by
  rw [H6];constructor
  ·rintro ⟨_,x,hx,hxs⟩;exact List.length_pos_of_mem (Ju.2 ⟨x,hx,hxs,rfl⟩)
  ·intro h;obtain ⟨y,hy⟩:=List.exists_mem_of_length_pos h;obtain ⟨x,hx,hxs,_⟩:=Ju.1 hy;exact ⟨hs,x,hx,hxs⟩
 refine AX (fun hc=> ?_) fun hc=>AC ?_
 ·have hc:s∈sy p.2.2.1 b.2.1:=hiff.2 (by have:=of_decide_eq_true hc;omega);rw [if_pos hc];refine AK (MT V H hB hT hgk (n:Int) s) ?_;obtain ⟨pl,hpl⟩:∃pl,DI p B (nx p.2.2.1 b.2.1 s) (n:Int) s=pl:=⟨_,rfl⟩;have hgr:(CQ E B.length pl.2.length)[n]? =some e:=by
   unfold CQ;split
   ·exact he
   ·rw [bV (List.getElem?_eq_some_iff.1 he).1];exact he
  have hgl:=(List.getElem?_eq_some_iff.1 hgr).1;rw [hpl];refine AY (x:=e) hgr (BW (by simp;omega) (Hn (by omega) (by show (n:Int) < (((CQ E B.length pl.2.length).length:Nat):Int);omega) (AC ?_)));unfold Ci;rw [hpl,hgr];rfl
 ·have hc:s∉sy p.2.2.1 b.2.1:=fun h=>by have:=of_decide_eq_false hc;have:=hiff.1 h;omega
  rw [if_neg hc]
end
section
variable {p:RP}
theorem NV (V:VPp p) {b:dtK}(hb:GF p.2.2.1 b.1∧b.2.1=clo p b.1) (n:Nat) {s:Int}(hs:0≤s) (y:BE):(Ci p b n y s).1.length≤y.1.length+1∧tot (Ci p b n y s).1≤tot y.1+10100:=by
 obtain ⟨hw1,hw2⟩:=hb;obtain ⟨_,hC,hg,hcl⟩:=Dq V hw1;rw [←hw2]at hC hg hcl;have hgk:GF p.2.2.1 (nx p.2.2.1 b.2.1 s):=⟨fun x hx=>(KW V hg.ok hs x hx).1,KV hg.up s⟩;have hcl2:=(Dq V hgk).2.2.2;unfold Ci;dsimp only;rcases E6 p y.1 (nx p.2.2.1 b.2.1 s) (n:Int) s with ⟨i,b',h1,_⟩|⟨h1,_⟩
 ·rw [h1];exact ⟨by dsimp only;omega,by dsimp only;omega⟩
 ·rw [h1];refine ⟨by simp,?_⟩;rw [IT]
  have:tot [(nx p.2.2.1 b.2.1 s,clo p (nx p.2.2.1 b.2.1 s),(n:Int),s)] =(clo p (nx p.2.2.1 b.2.1 s)).length:=by unfold tot;simp
  omega
theorem Ka (V:VPp p) {b:dtK}(hb:GF p.2.2.1 b.1∧b.2.1=clo p b.1) (n:Nat):∀(l:List Int) (y:BE),(∀s∈l,0≤s)→(CT p b n l y).1.length≤y.1.length+l.length∧tot (CT p b n l y).1≤tot y.1+l.length *10100
 | [],y,_=>⟨cP _,by simp [CT]⟩
 |s::l,y,h=>by
  have h1:=NV V hb n (h s (cF ..)) y;have h2:=Ka V hb n l (Ci p b n y s) fun x hx=>h x (cT _ hx);have e:CT p b n (s::l) y=CT p b n l (Ci p b n y s):=rfl;rw [e,cS];omega
theorem MU (b:dtK) (n:Nat) (l:List Int) (s:Int) (y:BE):CT p b n (l++ [s]) y=Ci p b n (CT p b n l y) s:=by
 unfold CT;rw [List.foldl_append];rfl
theorem MV {l:List Int}(hl:l.Pairwise (· < ·)) (j:Int):l.filter (fun s=>decide (s<j+1))=l.filter (fun s=>decide (s<j)) ++(if j∈l then [j] else []):=by
 refine LT (R:=(· < ·)) (fun x=>Int.lt_irrefl x) (fun h1 h2=>Int.lt_trans h1 h2) (hl.filter _) ?_ fun x=> ?_
 ·refine List.pairwise_append.2 ⟨hl.filter _,by split<;>simp,fun a ha b hb=> ?_⟩
  have ha:=of_decide_eq_true (List.mem_filter.1 ha).2;split at hb
  ·obtain rfl:=List.mem_singleton.1 hb;exact ha
  ·cases hb
 ·rw [cV,List.mem_filter,List.mem_filter,decide_eq_true_eq,decide_eq_true_eq];constructor
  ·rintro ⟨h1,h2⟩;rcases Int.lt_or_eq_of_le (show x≤j by omega) with g | rfl
   ·exact .inl ⟨h1,g⟩
   ·right;rw [if_pos h1];exact List.mem_singleton.2 rfl
  ·rintro (⟨h1,h2⟩|h)
   ·exact ⟨h1,by omega⟩
   ·split at h
    ·obtain rfl:=List.mem_singleton.1 h;exact ⟨by assumption,by omega⟩
    ·cases h
def SyB (p:RP):Prop:=p.1.length+p.2.1.length≤1000∧ ∀r∈p.2.2.1,∀s∈r.2.1,s< ((p.1.length+p.2.1.length:Nat):Int)
theorem Oq (S:SyB p) (x:Item):beh p.2.2.1 x< ((p.1.length+p.2.1.length:Nat):Int):=by
 unfold beh;split
 ·rename_i r hr
  cases h:r.2.1[x.2.toNat]? with
  |none=>simp;omega
  |some s=>exact S.2 r (bN hr) s (bN h)
 ·omega
theorem MW (V:VPp p) (S:SyB p) (hp:1≤p.2.2.1.length) {n:Nat}{b:dtK}(hb:(stM p n).1[n]? =some b) (hB:(stM p n).1.length≤1099511900000) (hT:tot (stM p n).1≤1125899906842624):Jv p (n:Int) (yOf (stM p n).1 (stM p n).2)=some (yOf (stM p (n+1)).1 (stM p (n+1)).2):=by
 have H0:=H7 V hp n;have hw:=H0.wf b (bN hb);obtain ⟨_,_,hg,hcl⟩:=Dq V hw.1;rw [←hw.2]at hg hcl;have hN:cJ .i64 ((p.1.length:Int)+(p.2.1.length:Int))+1=((p.1.length+p.2.1.length+1:Nat):Int):=by
  have:=S.1
  rw [w64 (by omega) (by omega)];omega
 have hsl:=LO p.2.2.1 b.2.1;refine dE ?_;unfold Jv;rw [hN];refine LU (Cn (fun j (z:RS (List Edge))=>z=yOf (CT p b n ((sy p.2.2.1 b.2.1).filter fun s=>decide (s< (j:Int))) (stM p n)).1 (CT p b n ((sy p.2.2.1 b.2.1).filter fun s=>decide (s< (j:Int))) (stM p n)).2) (by have:=S.1;omega) ?_ (fun j z hj hz=> ?_) fun z hz=>AC ?_)
 ·have:(sy p.2.2.1 b.2.1).filter (fun s=>decide (s< ((0:Nat):Int)))= []:=List.filter_eq_nil_iff.2 fun s hs=>by
   have:=(H6.1 hs).1
   simp;omega
  rw [this];rfl
 ·subst hz;obtain ⟨l,hl⟩:∃l,(sy p.2.2.1 b.2.1).filter (fun s=>decide (s< (j:Int)))=l:=⟨_,rfl⟩;have hls:∀s∈l,s∈sy p.2.2.1 b.2.1:=fun s hs=>by rw [←hl]at hs;exact (List.mem_filter.1 hs).1
  have hll:l.length≤10100:=by rw [←hl];exact Nat.le_trans (List.length_filter_le _ _) (by omega)
  have hI:=Inv.fold V l (y:=stM p n) H0 hb hls;rw [dG]at hI;have hf:=Ka V hw n l (stM p n) fun s hs=>(H6.1 (hls s hs)).1;obtain ⟨m,hm⟩:=FV (p:=p) (b:=b) (n:=n) l (stM p n);have hb2:(CT p b n l (stM p n)).1[n]? =some b:=by rw [hm,bV (List.getElem?_eq_some_iff.1 hb).1];exact hb
  have hEl:n< (CT p b n l (stM p n)).2.length:=by rw [hI.len];exact (List.getElem?_eq_some_iff.1 hb2).1
  have he:=bM hEl;have hel:((CT p b n l (stM p n)).2[n]).length≤1000000:=by
   have:=congrArg dX (hI.cur b _ hb2 he).1
   rw [bQ]at this;omega
  rw [hl];have hsucc:=MV (PC p.2.2.1 b.2.1) (j:Int);rw [show ((j+1:Nat):Int)=(j:Int)+1 by omega,hsucc,hl];refine Ok.of (OC V (B:=(CT p b n l (stM p n)).1) (E:=(CT p b n l (stM p n)).2) hI (by omega) (by omega) hb2 he hel (by omega)) ?_;by_cases hj:(j:Int)∈sy p.2.2.1 b.2.1
  ·rw [if_pos hj,if_pos hj,MU]
  ·rw [if_neg hj,if_neg hj,List.append_nil]
 ·have:(sy p.2.2.1 b.2.1).filter (fun s=>decide (s< ((p.1.length+p.2.1.length+1:Nat):Int)))=sy p.2.2.1 b.2.1:=List.filter_eq_self.2 fun s hs=>by
   obtain ⟨_,x,_,hx⟩:=H6.1 hs
   have:=Oq S x
   simp;omega
  rw [this]at hz;have e:stM p (n+1)=CT p b n (sy p.2.2.1 b.2.1) (stM p n):=by
   show (match (stM p n).1[n]? with
    |some b=>CT p b n (sy p.2.2.1 b.2.1) (stM p n)
    |none=>stM p n)=_
   rw [hb]
  rw [hz,e]
theorem Kb (n:Int):Ba n=some (CX n):=by
 unfold Ba CX;by_cases h1:n<0
 ·rw [if_pos h1,decide_eq_true h1];rfl
 ·rw [if_neg h1,decide_eq_false h1];by_cases h2:n>1099511627776
  ·rw [if_pos h2,decide_eq_true h2];rfl
  ·rw [if_neg h2,decide_eq_false h2];rfl
theorem Kc (st it:Int) (B:List dtK) (E:List (List Edge)):Ok (JR st it (yOf B E)) fun m=>(m=true∧ ¬Fit (CX st) (CX it) B)∨(m=false∧Fit (CX st) (CX it) B):=by
 unfold JR;refine AK (Kb st) (AX (fun h=>AC (.inl ⟨rfl,fun g=> ?_⟩)) fun h=>AK (Kb it) (AC ?_))
 ·have h:=of_decide_eq_true h
  have:=g.1
  unfold yOf at h;dsimp only at h;rw [bQ]at h;omega
 ·have h:=of_decide_eq_false h;unfold yOf at h ⊢;dsimp only at h ⊢;rw [bQ]at h;by_cases h2:((tot B:Nat):Int) >CX it
  ·exact .inl ⟨decide_eq_true h2,fun g=>by have:=g.2;omega⟩
  ·exact .inr ⟨decide_eq_false h2,by unfold Fit;omega⟩
theorem MX (V:VPp p) (S:SyB p) (hp:1≤p.2.2.1.length) (st it:Int):Ok (Iy p st it) fun r=>(∃n,(stM p n).1.length≤n∧Fit (CX st) (CX it) (stM p n).1∧r=some (mkW p (yOf (stM p n).1 (stM p n).2)))∨(r=none∧ ∃n,¬Fit (CX st) (CX it) (stM p n).1):=by
 have hs:=Gx st;have hi:=Gx it;have hg:GF p.2.2.1 k0∧clo p k0=clo p k0:=(H7 V hp 0).wf (k0,clo p k0, -1, -1) (List.mem_singleton.2 rfl);have hcl:=(Dq V hg.1).2.2.2;unfold Iy;have e0:placeG [] p ([],[],[],[],[],(0:Int)) [((0:Int),(0:Int))] (-1:Int) (-1:Int)=some ((0:Int),yOf (stM p 0).1 (stM p 0).2):=by
  unfold placeG;have hf:Ix [] [((0:Int),(0:Int))] =some (.next ()):=by
   obtain ⟨e,he,hq⟩:=KZ (B:=[]) (by simp) (by simp) [((0:Int),(0:Int))];have he:Ix [] [((0:Int),(0:Int))] =some e:=he;rcases hq with ⟨i,b,_,h,_⟩|⟨u,rfl,_⟩
   ·simp at h
   ·exact he
  dsimp only;rw [hf,bO];dsimp only;rw [IL V hg.1,bO,Er (by simp),bO,Er (by simp),bO,Er (by simp),bO,Er (by simp),bO,bO];rw [w64 (by simp) (by simp),w64 (by omega) (by omega)];have ht:tot (stM p 0).1=(clo p k0).length:=by
   show tot [(k0,clo p k0, -1, -1)] =_;unfold tot;simp
  unfold yOf;rw [ht];simp;exact ⟨rfl,rfl,rfl,rfl,rfl⟩
 refine AK e0 ?_;unfold Jw;refine CG (fun (z:Int×RS (List Edge))=>∃i:Nat,z=((i:Int),yOf (stM p i).1 (stM p i).2)∧(i=0∨Fit (CX st) (CX it) (stM p (i - 1)).1∧i≤(stM p (i - 1)).1.length)) (fun z=>1099511627777 - z.1.toNat) (fun r=>(r=none∧ ∃n,¬Fit (CX st) (CX it) (stM p n).1)∨ ∃n,r=some (yOf (stM p n).1 (stM p n).2)∧(stM p n).1.length≤n) ⟨0,rfl,.inl rfl⟩ (fun z hz=> ?_) fun r hr=> ?_
 ·obtain ⟨i,rfl,hI⟩:=hz;have hK:(yOf (stM p i).1 (stM p i).2).1.length=(stM p i).1.length:=by unfold yOf;rw [bQ]
  dsimp only;rw [hK];refine AX (fun h=> ?_) fun h=>A7 (.inr ⟨i,rfl,by have:=of_decide_eq_false h;omega⟩);have h:=of_decide_eq_true h;refine AL (Kc st it (stM p i).1 (stM p i).2) fun m hm=> ?_;rcases hm with ⟨rfl,hm⟩|⟨rfl,hm⟩
  ·exact A4 rfl (A7 (.inl ⟨rfl,i,hm⟩))
  ·have hm':=hm;unfold Fit at hm';have hb:=bM (show i< (stM p i).1.length by omega);refine AU rfl (AK (MW V S hp hb (by omega) (by omega)) (Bi ?_));rw [w64 (n:=(i:Int)+1) (by omega) (by omega)];refine ⟨⟨i+1,rfl,.inr ⟨?_,?_⟩⟩,?_⟩
   ·rw [dR];exact hm
   ·rw [dR];omega
   ·dsimp only;omega
 ·rcases hr with ⟨rfl,hr⟩|⟨n,rfl,hn⟩
  ·exact AC (.inr ⟨rfl,hr⟩)
  ·refine AL (Kc st it (stM p n).1 (stM p n).2) fun m hm=> ?_;rcases hm with ⟨rfl,hm⟩|⟨rfl,hm⟩
   ·exact A4 rfl (AC (.inr ⟨rfl,n,hm⟩))
   ·exact AU rfl (AC (.inl ⟨n,hn,hm,rfl⟩))
end
theorem Ot:G0 bZ 26 26 3 1:=⟨cZ,.inl cZ,⟨Tryz.t3,by kernel_rfl,rfl,⟨_,rfl,rfl⟩,by decide,by decide⟩,by decide⟩
noncomputable def JS (a:ET) (n:Int):Option (List Int):=(Aq a n).bind fun x=>(loop (σ:=Int×Int×List Int×Int) (β:=List Int) (x.2.2.2.1,x.2.2.2.2,([]:List Int),n) fun z=>(cond (decide (z.2.2.2>0)) (some (decide (z.2.2.2< (a.2.2.2.2.2.2.1.length:Int)))) (some false)).bind fun c=>cond c ((app z.2.2.1 ([z.2.1]:List Int)).bind fun out=>(Aq a z.1).bind fun y=>some (dY (y.2.2.2.1,y.2.2.2.2,out,z.1))) (some (dZ z.2.2.1))).bind fun out=>BR out
set_option maxHeartbeats 4000000 in
theorem Kd {φ:AF}{h:AE}{F:List Chk}{a_0:Option Addr}{d:ET}{n_1:Int}(k1:Pt Ic φ a_0 d) (s0:St φ F h) {r:List Int}(hd:JS d n_1=some r):
 CallsH bZ 19 [(.pointer a_0),(.int .i64 n_1)] h (BL fun v h'=>∃ψ:AF,∃y:Slc,∃l:List Int,Sub φ ψ∧v=((.one aS):Sh).val y∧l=r∧Ro.SliceIs (bT .i64) ψ y l∧St ψ F h'):=by
 refine AV mixed Tryz.func19 ?_;rw [GU];unfold Ec;unfold JS at hd;obtain ⟨x,hx,hd⟩:=bS hd;refine AM (Bk k1 s0 hx) ?_;rintro _ h1 ⟨ψ1,t1,l1,l2,l3,le1,rfl,rfl,q1,q2,q3,s1⟩;refine ⟨t1,rfl,?_⟩;dsimp only at hd;refine AZ (vs:=[.slice none 0 0,.slice none 0 0,.slice none 0 0,.int .i64 (0:Int),.int .i64 (0:Int)]) s1 fun r2 h2 s2=>AI s2 rfl rfl fun h3 s3=>AI s3 rfl rfl fun h4 s4=>AI s4 rfl rfl fun h5 s5=>AI s5 rfl rfl fun h6 s6=>AI s6 rfl rfl fun h7 s7=> ?_;have s8:=(s7.nil 3 (bT .i64)).at1;obtain ⟨out,hl,hd⟩:=bS hd;refine Bc (fun (y:Option Addr×Slc×Int×Unit) w g=>∃(ψ:AF),Sub φ ψ∧St ψ (cR 3 (bT .i64) y.2.1 g::F) w) (g:=out) ?_ ?_
 ·refine Cr hl (fun (y:Option Addr×Slc×Int×Unit) w (g:Int×Int×List Int×Int)=>∃(ψ:AF) (b:Nat) (u v s:Slc),Sub φ ψ∧y.1=some ⟨b,0,none⟩∧y.2.2.1=g.2.2.2∧St ψ (cW 77 b [sv u,sv v,sv s,.int .i64 g.1,.int .i64 g.2.1]::cR 3 (bT .i64) y.2.1 g.2.2.1::F) w) (some ⟨r2,0,none⟩,(none,0,0),n_1,()) rfl ⟨ψ1,r2,t1.1,t1.2.1,t1.2.2.1,le1,rfl,rfl,s8⟩ ?_;rintro ⟨z1,z2,z3,_⟩ w ⟨fr,wi,o,m⟩ e ⟨ψ,b,u,v,s,le,rfl,rfl,s9⟩ hd' hb;dsimp only at hd' s9 ⊢;obtain ⟨c,hc,hd'⟩:=bS hd';refine Ai (fun (y:Bool×Unit) w' g=>y.1=g∧w'=w) (g:=c) ?_ ?_
  ·refine AG hc rfl (fun _ hc=> ?_) (fun _ hc=> ?_)
   ·obtain ⟨a',vs',e',⟨_,_,rfl,⟨u0,rfl,p0⟩,_,_,rfl,⟨u1,rfl,p1⟩,_,_,rfl,⟨u2,rfl,p2⟩,_,_,rfl,⟨u3,rfl,p3⟩,_,_,rfl,⟨u4,rfl,p4⟩,_,_,rfl,⟨u5,rfl,p5⟩,_,_,rfl,⟨u6,rfl,p6⟩,rfl⟩,hcell⟩:=id k1;have n6:=p6.length;refine AH _ e'<|AN (x:=u6) (AD (cA le s9.sub) (hcell.at 6 rfl)) rfl ?_;obtain rfl:=iS hc;exact AP (_,()) rfl ⟨by rw [n6],rfl⟩
   ·obtain rfl:=iS hc;exact AP (_,()) rfl ⟨rfl,rfl⟩
  rintro ⟨z5,_⟩ w' ⟨rfl,rfl⟩;refine AG hd' rfl (fun _ hd'=> ?_) (fun _ hd'=> ?_)
  ·obtain ⟨o',ho,hd'⟩:=bS hd';obtain ⟨y',hy,hd'⟩:=bS hd';obtain rfl:=iS hd';refine AH _ rfl<|AA (x:=wi) s9 rfl<|AZ (vs:=[.int .i64 wi]) s9 fun r10 h10 s10=> ?_;have cw:=St.cells s10;refine Aa (r:=bT .i64) (ms:=[wi]) Ot s10.tail.at1 rfl cw (.cons (a:=[_]) rfl .nil) rfl ho fun t11 h11 s11=>AH _ rfl<|AA (x:=fr) s11.at1 rfl<|AH _ rfl<|AA (x:=u) s11.at1 rfl<|AA (x:=v) s11.at1 rfl<|AA (x:=s) s11.at1 rfl<|AA (x:=fr) s11.at1 rfl<|AA (x:=wi) s11.at1 rfl<|AZ (vs:=[.slice none 0 0,.slice none 0 0,.slice none 0 0,.int .i64 (0:Int),.int .i64 (0:Int)]) s11.at1.tail fun r20 h20 s20=>AI s20 rfl rfl fun h21 s21=>AI s21 rfl rfl fun h22 s22=>AI s22 rfl rfl fun h23 s23=>AI s23 rfl rfl fun h24 s24=>AI s24 rfl rfl fun h25 s25=>AM (Bk (k1.mono le) s25 hy) ?_;rintro _ h26 ⟨ψ2,t21,m1,m2,m3,le2,rfl,rfl,o1,o2,o3,s26⟩;refine ⟨t21,rfl,?_⟩;refine AI s26 rfl rfl fun h27 s27=>AI s27 rfl rfl fun h28 s28=>AI s28 rfl rfl fun h29 s29=>AI s29 rfl rfl fun h30 s30=>AI s30 rfl rfl fun h31 s31=>Al (some ⟨r20,0,none⟩,t11,fr,()) _ rfl rfl ⟨ψ2,r20,t21.1,t21.2.1,t21.2.2.1,le.trans le2,rfl,rfl,s31⟩
  ·obtain rfl:=iS hd';obtain rfl:=hb _ rfl;exact AO (AR (some ⟨b,0,none⟩,z2,z3,()) rfl ⟨ψ,le,s9.tail⟩)
 rintro ⟨z1,z2,z3,_⟩ w ⟨ψ,le,s9⟩;dsimp only at s9 ⊢;refine AM (Eo s9 hd) ?_;rintro _ h1 ⟨ψ2,_,l,le2,rfl,rfl,s10⟩;refine ⟨(),rfl,?_⟩;obtain ⟨ψ3,le3,kk,s11⟩:=bU s10;exact AB ⟨ψ3,z2,l,(le.trans le2).trans le3,rfl,rfl,kk,s11⟩
theorem Pl.vp {nt nl:Nat}{p:Aw}(H:Pl nt nl p):VPp p:=by
 have hT:=H.terms.len;obtain ⟨st,s1,s2,s3⟩:=H.first;have each:∀r∈p.2.2.1,((nt+1:Nat):Int) ≤r.1∧r.2.1.length≤8∧ ∀s∈r.2.1,0≤s:=fun r hr=>by
  obtain ⟨k,hk⟩:=bR hr;rcases bX k with rfl | h
  ·rw [s3]at hk;cases hk;refine ⟨by dsimp only;omega,by simp,fun s hs=> ?_⟩
   have:s=st:=by simpa using hs
   omega
  ·have:=H.rules k r h hk
   exact ⟨this.left.1,this.few,fun s hs=>by have:=this.right s hs;omega⟩
 have:=H.room
 exact ⟨by omega,fun r hr=>by rw [hT];exact (each r hr).1,fun r hr=>(each r hr).2.2,by omega,fun r hr=>by have:=(each r hr).2.1;omega⟩
theorem Pl.pos {nt nl:Nat}{p:Aw}(H:Pl nt nl p):1≤p.2.2.1.length:=H.room.1
structure Fin (p:Aw) (B:List dtK) (E:List (List Edge)):Prop where
 wf:∀b∈B,GF p.2.2.1 b.1∧b.2.1=clo p b.1
 len:E.length=B.length
 zero:B[0]? =some (k0,clo p k0, -1, -1)
 from_:∀(j:Nat) b,1≤j→B[j]? =some b→ ∃(f:Nat) (bf:dtK) (e:List Edge),f<j∧b.2.2.1=(f:Int)∧B[f]? =some bf∧b.1=nx p.2.2.1 bf.2.1 b.2.2.2∧b.2.2.2∈sy p.2.2.1 bf.2.1∧E[f]? =some e∧(b.2.2.2,(j:Int))∈e
 apart:∀(i j:Nat) bi bj,B[i]? =some bi→B[j]? =some bj→bi.1=bj.1→i=j
 done:∀(j:Nat) b e,B[j]? =some b→E[j]? =some e→E7 p.2.2.1 B b (sy p.2.2.1 b.2.1) e
theorem Ou {p:Aw}(V:VPp p) (hp:1≤p.2.2.1.length) {n:Nat}(h:(stM p n).1.length≤n):Fin p (stM p n).1 (stM p n).2:=by
 have H:=H7 V hp n;exact ⟨H.wf,H.len,H.zero,H.from_,H.apart,fun j b e hb he=>H.done j b e (by have:=EP hb;omega) hb he⟩
abbrev Eu (p:Aw) (B:List dtK) (E:List (List Edge)) (t:Int):ET:=(p.1,p.2.1,p.2.2.1,p.2.2.2.1,p.2.2.2.2.1,p.2.2.2.2.2,C4 B E,t)
section
variable {p:Aw}{B:List dtK}{E:List (List Edge)}{t:Int}
theorem Ov (H:Fin p B E):Bo (Eu p B E t)=some (B.length:Int):=by
 unfold Bo;rw [CP H.len]
theorem Ow {j:Nat}{b:dtK}{e:List Edge}(hb:B[j]? =some b) (he:E[j]? =some e):(C4 B E)[j]? =some (G8 b e):=by
 unfold C4;rw [List.getElem?_zipWith,hb,he]
theorem JT (H:Fin p B E) {j:Nat}{b:dtK}{e:List Edge}(hb:B[j]? =some b) (he:E[j]? =some e):Aq (Eu p B E t) (j:Int)=some (G8 b e):=by
 refine dE ?_
 have:=EP hb
 unfold Aq;refine AL (Q:=fun c=>c=false) (AU (decide_eq_false (by omega)) (AC (decide_eq_false (by rw [CP H.len];omega)))) fun c hc=> ?_;subst hc;exact AU rfl (AY (Ow hb he) (AC rfl))
theorem Fin.edge (H:Fin p B E) {j:Nat}{b:dtK}(hb:B[j]? =some b):∃e,E[j]? =some e:=⟨_,bM (by have:=EP hb;have:=H.len;omega)⟩
theorem Fin.good (V:VPp p) (H:Fin p B E) {j:Nat}{b:dtK}(hb:B[j]? =some b):GF p.2.2.1 b.1∧GF p.2.2.1 b.2.1∧Jt p.2.2.1 b.1 b.2.1∧b.1.length≤10100∧b.2.1.length≤10100:=by
 obtain ⟨h1,h2⟩:=H.wf b (bN hb);obtain ⟨_,c1,c2,c3⟩:=Dq V h1;rw [←h2]at c1 c2 c3;exact ⟨h1,c2,c1,Dp V h1.ok (eA h1.up),c3⟩
theorem MY (V:VPp p) (H:Fin p B E) {j:Nat}{b:dtK}(hb:B[j]? =some b):Ax (Eu p B E t) (j:Int)=some b.1:=by
 obtain ⟨e,he⟩:=H.edge hb
 have:=(H.good V hb).2.2.2.1
 refine dE ?_;unfold Ax;exact AK (JT H hb he) (AK (x:=b.1) (by unfold EF;rw [if_pos (by dsimp only;omega)]) (AC rfl))
theorem NW (V:VPp p) (H:Fin p B E) {j:Nat}{b:dtK}(hb:B[j]? =some b):BB (Eu p B E t) (j:Int)=some b.2.1:=by
 obtain ⟨e,he⟩:=H.edge hb
 have:=(H.good V hb).2.2.2.2
 refine dE ?_;unfold BB;exact AK (JT H hb he) (AK (x:=b.2.1) (by unfold EF;rw [if_pos (by dsimp only;omega)]) (AC rfl))
theorem Fin.edges_len (V:VPp p) (H:Fin p B E) {j:Nat}{b:dtK}{e:List Edge}(hb:B[j]? =some b) (he:E[j]? =some e):e.length≤10100:=by
 have h1:=(H.done j b e hb he).1;have h2:=LO p.2.2.1 b.2.1;have h3:=(H.good V hb).2.2.2.2;rw [←h1,bQ]at h2;omega
theorem NX (V:VPp p) (H:Fin p B E) {j:Nat}{b:dtK}{e:List Edge}(hb:B[j]? =some b) (he:E[j]? =some e):Bs (Eu p B E t) (j:Int)=some e:=by
 have:=H.edges_len V hb he
 refine dE ?_;unfold Bs;exact AK (JT H hb he) (AK (x:=e) (by unfold EF;rw [if_pos (by dsimp only;omega)]) (AC rfl))
def Ke (R:Rl) (B:List dtK) (b:dtK) (e:List Edge) (s t:Int):Prop:=
 (s∈sy R b.2.1∧ ∃(q:Nat) (bt:dtK),t=(q:Int)∧1≤q∧B[q]? =some bt∧bt.1=nx R b.2.1 s∧(s,t)∈e)∨(s∉sy R b.2.1∧t= -1)
theorem PE (V:VPp p) (H:Fin p B E) {j:Nat}{b:dtK}{e:List Edge}(hb:B[j]? =some b) (he:E[j]? =some e) (s:Int):Ok (Ar (Eu p B E t) (j:Int) s) (Ke p.2.2.1 B b e s):=by
 have hl:=H.edges_len V hb he;have hd:=H.done j b e hb he;unfold Ar;refine AK (JT H hb he)<|Ho e (fun _ x=>x.1==s) (fun _ x=>x.2) (by omega) (fun k x hx=> ?_) (fun hn=>AC (.inr ⟨fun hs=> ?_,rfl⟩)) fun k x hx hq _=>AC (.inl ?_)
 ·rw [Gw,hx,bO];cases x.1==s<;>rfl
 ·rw [←hd.1]at hs;obtain ⟨x,hx,hxs⟩:=List.mem_map.1 hs;obtain ⟨k,hk⟩:=bR hx
  have:=hn k x hk
  rw [hxs]at this;simp at this
 ·have hxs:x.1=s:=eq_of_beq hq;have hm:=bN hx;obtain ⟨q,bt,h1,h2,h3,h4⟩:=hd.2 x hm;rw [hxs]at h4;refine ⟨by rw [←hd.1,←hxs];exact List.mem_map.2 ⟨x,hm,rfl⟩,q,bt,h1,h2,h3,h4,?_⟩;rw [←hxs];exact hm
theorem Ke.unique (H:Fin p B E) {b:dtK}{e:List Edge}{s t1 t2:Int}(h1:Ke p.2.2.1 B b e s t1) (h2:Ke p.2.2.1 B b e s t2):t1=t2:=by
 rcases h1 with ⟨a1,q1,b1,c1,d1,e1,f1,_⟩|⟨a1,c1⟩ <;>rcases h2 with ⟨a2,q2,b2,c2,d2,e2,f2,_⟩|⟨a2,c2⟩
 ·rw [c1,c2,H.apart q1 q2 b1 b2 e1 e2 (by rw [f1,f2])]
 ·exact absurd a1 a2
 ·exact absurd a2 a1
 ·rw [c1,c2]
inductive Walk (R:Rl) (B:List dtK) (E:List (List Edge)):Int→List Int→Int→Prop
 |nil (j:Int):Walk R B E j [] j
 |stop {j:Nat} {b:dtK} {e:List Edge} {s:Int} {l:List Int} :B[j]? =some b→E[j]? =some e→Ke R B b e s (-1)→Walk R B E j (s::l) (-1)
 |step {j q:Nat} {b:dtK} {e:List Edge} {s:Int} {l:List Int} {t:Int} :B[j]? =some b→E[j]? =some e→Ke R B b e s (q:Int)→q<B.length→Walk R B E (q:Int) l t→Walk R B E j (s::l) t
theorem NY (l:List Int) (hl:l.length≤1099512000000):BR l=some l.reverse:=by
 refine dE ?_;unfold BR;have hlast:∀m:List Int,m.length=l.length→(∀k,k<l.length→m[k]? =l.reverse[k]?)→m=l.reverse:=fun m h1 h2=>by
  refine cY fun k=> ?_;rcases bW k l.length with g | g
  ·exact h2 k g
  ·rw [bP (by omega),bP (by simp;omega)]
 refine CG (fun (z:Int×Int×List Int)=>0≤z.2.1∧z.1+z.2.1=(l.length:Int) - 1∧ -1≤z.1∧z.2.2.length=l.length∧ ∀k,k<l.length→z.2.2[k]? =if (k:Int) <z.2.1∨z.1< (k:Int) then l.reverse[k]? else l[k]?) (fun z=>(z.1+1 - z.2.1).toNat) (fun m=>m=l.reverse) ⟨dL _,?_,?_,rfl,fun k hk=> ?_⟩ (fun z hz=> ?_) fun m hm=>AC hm
 ·dsimp only;rw [w64 (by omega) (by omega)];omega
 ·dsimp only;rw [w64 (by omega) (by omega)];omega
 ·dsimp only;rw [w64 (by omega) (by omega),if_neg (by omega)]
 ·obtain ⟨i,j,m⟩:=z;obtain ⟨h0,h1,h2,h3,h4⟩:=hz;dsimp only at h0 h1 h2 h3 h4 ⊢;refine AX (fun hc=> ?_) fun hc=>A7 (hlast m h3 fun k hk=> ?_)
  ·have hc:=of_decide_eq_true hc;have hi:i.toNat<m.length:=by omega
   have hj:j.toNat<m.length:=by omega
   refine Dn (by omega) (bM hi) (Dn h0 (bM hj) (Hn (by omega) (by omega) (Hn (by omega) (by rw [dJ];omega) ?_)));rw [w64 (by omega) (by omega),w64 (by omega) (by omega)];refine Bi ⟨⟨by dsimp only;omega,by dsimp only;omega,by dsimp only;omega,by simp [h3],fun k hk=> ?_⟩,by dsimp only;omega⟩;dsimp only;have e1:=h4 i.toNat (by omega);have e2:=h4 j.toNat (by omega);rw [if_neg (by omega)]at e1 e2;rw [cQ hk]at *;by_cases hki:k=i.toNat
   ·subst hki;rw [cG (by simp;omega),if_pos (by omega),←bM hj,e2];congr 1;omega
   ·rw [dM (fun h=>hki h.symm)];by_cases hkj:k=j.toNat
    ·subst hkj;rw [cG (by omega),if_pos (by omega),←bM hi,e1];congr 1;omega
    ·rw [dM (fun h=>hkj h.symm),h4 k hk,cQ hk];by_cases g:(k:Int) <j∨i< (k:Int)
     ·rw [if_pos g,if_pos (by omega)]
     ·rw [if_neg g,if_neg (by omega)]
  ·have hc:=of_decide_eq_false hc;rw [h4 k hk];by_cases g:(k:Int) <j∨i< (k:Int)
   ·rw [if_pos g]
   ·rw [if_neg g,cQ hk];congr 1;omega
end
section
variable {p:RP}{B:List dtK}{E:List (List Edge)}{t:Int}
def Off (B:List dtK) (n:Int):Prop:=n<0∨(B.length:Int) ≤n
theorem Jx (H:Fin p B E) (n:Int):Ok (Aq (Eu p B E t) n) fun x=>(∃(j:Nat) (b:dtK) (e:List Edge),n=(j:Int)∧B[j]? =some b∧E[j]? =some e∧x=G8 b e)∨(Off B n∧x=([],[],[],0,0)):=by
 rcases dC n 0 with h | h
 ·unfold Aq;refine AL (Q:=fun c=>c=true) (A4 (decide_eq_true h) (AC rfl)) fun c hc=> ?_;subst hc;exact A4 rfl (AC (.inr ⟨.inl h,rfl⟩))
 ·rcases dC n (B.length:Int) with g | g
  ·obtain ⟨j,rfl⟩:=cE h;have hb:=bM (show j<B.length by omega);obtain ⟨e,he⟩:=H.edge hb;exact Ok.of (JT H hb he) (.inl ⟨j,_,e,rfl,hb,he,rfl⟩)
  ·unfold Aq;refine AL (Q:=fun c=>c=true) (AU (decide_eq_false (by omega)) (AC (decide_eq_true (by rw [CP H.len];omega)))) fun c hc=> ?_;subst hc;exact A4 rfl (AC (.inr ⟨.inr g,rfl⟩))
def GoZ (p:RP) (B:List dtK) (E:List (List Edge)) (n s r:Int):Prop:=(∃(j:Nat) (b:dtK) (e:List Edge),n=(j:Int)∧B[j]? =some b∧E[j]? =some e∧Ke p.2.2.1 B b e s r)∨(Off B n∧r= -1)
theorem GoZ.unique (H:Fin p B E) {n s r r':Int}(h:GoZ p B E n s r) (h':GoZ p B E n s r'):r=r':=by
 have no:∀ {j:Nat} {b:dtK},B[j]? =some b→ ¬Off B (j:Int):=fun h g=>by
  have:=(List.getElem?_eq_some_iff.1 h).1
  unfold Off at g;omega
 rcases h with ⟨j,b,e,rfl,h1,h2,h3⟩|⟨h1,h2⟩ <;>rcases h' with ⟨j',b',e',q,g1,g2,g3⟩|⟨g1,g2⟩
 ·have:j'=j:=by omega
  subst this;rw [h1]at g1;rw [h2]at g2;cases g1;cases g2;exact Ke.unique H h3 g3
 ·exact absurd g1 (no h1)
 ·subst q;exact absurd h1 (no g1)
 ·rw [h2,g2]
theorem Ox (V:VPp p) (H:Fin p B E) (n s:Int):Ok (Ar (Eu p B E t) n s) (GoZ p B E n s):=by
 rcases dC n 0 with h | h
 ·unfold Ar;refine AL (Jx H n) fun x hx=> ?_;rcases hx with ⟨j,_,_,rfl,_⟩|⟨h1,rfl⟩
  ·omega
  ·exact AC (.inr ⟨h1,rfl⟩)
 ·rcases dC n (B.length:Int) with g | g
  ·obtain ⟨j,rfl⟩:=cE h;have hb:=bM (show j<B.length by omega);obtain ⟨e,he⟩:=H.edge hb;exact (PE V H hb he s).mono fun r hr=>.inl ⟨j,_,e,rfl,hb,he,hr⟩
  ·unfold Ar;refine AL (Jx H n) fun x hx=> ?_;rcases hx with ⟨j,_,_,rfl,h1,_⟩|⟨h1,rfl⟩
   ·have:=(List.getElem?_eq_some_iff.1 h1).1;omega
   ·exact AC (.inr ⟨h1,rfl⟩)
theorem NZ (V:VPp p) (H:Fin p B E) (n s:Int):Ok (Ay (mkW p (yOf B E)) n s) (GoZ p B E n s):=by
 have hE:=H.len;unfold Ay;refine AL (Q:=fun c=>(c=true∧Off B n)∨(c=false∧0≤n∧n< (B.length:Int))) (AX (fun h=>AC (.inl ⟨rfl,.inl (of_decide_eq_true h)⟩)) fun h=>AC ?_) fun c hc=> ?_
 ·have h:=of_decide_eq_false h;show (decide (n≥ (E.length:Int))=true∧_)∨_;by_cases g:n≥ (E.length:Int)
  ·exact .inl ⟨decide_eq_true g,.inr (by omega)⟩
  ·exact .inr ⟨decide_eq_false g,by omega,by omega⟩
 ·rcases hc with ⟨rfl,hc⟩|⟨rfl,h0,h1⟩
  ·exact A4 rfl (AC (.inr ⟨hc,rfl⟩))
  ·obtain ⟨j,rfl⟩:=cE h0;have hb:=bM (show j<B.length by omega);obtain ⟨b,hbe⟩:∃b,B[j] =b:=⟨_,rfl⟩;rw [hbe]at hb;obtain ⟨e,he⟩:=H.edge hb;have hl:=H.edges_len V hb he;have hd:=H.done j b e hb he;refine AU rfl (CG (fun z=>∃i:Nat,z=(i:Int)∧i≤e.length∧ ∀(k:Nat) x,k<i→e[k]? =some x→x.1≠s) (fun z=>e.length - z.toNat) (fun r=>(∃u,r= .next u∧s∉sy p.2.2.1 b.2.1)∨ ∃(k:Nat) (x:Edge),r= .done x.2∧e[k]? =some x∧x.1=s) ⟨0,rfl,cN _,fun k x h=>by omega⟩ (fun z hz=> ?_) fun r hr=> ?_)
   ·obtain ⟨i,rfl,hi,hI⟩:=hz;refine AY (x:=e) he ?_;rcases bW i e.length with hlt | hge
    ·have hx:=bM hlt;obtain ⟨x,hxe⟩:∃x,e[i] =x:=⟨_,rfl⟩;rw [hxe]at hx;refine A4 (decide_eq_true (by omega)) (AY (x:=e) he (AY hx (AX (fun h=>AY (x:=e) he (AY hx (A7 (.inr ⟨i,x,rfl,hx,eq_of_beq h⟩)))) fun h=>Bi ?_)));rw [w64 (n:=(i:Int)+1) (by omega) (by omega)];refine ⟨⟨i+1,by omega,hlt,fun k y hk hy=> ?_⟩,by omega⟩;rcases Nat.lt_succ_iff_lt_or_eq.1 hk with g | rfl
     ·exact hI k y g hy
     ·rw [hx]at hy;cases hy;exact ne_of_beq_false h
    ·refine AU (decide_eq_false (by omega)) (A7 (.inl ⟨(),rfl,fun hs=> ?_⟩));rw [←hd.1]at hs;obtain ⟨x,hx,hxs⟩:=List.mem_map.1 hs;obtain ⟨k,hk⟩:=bR hx;exact hI k x (by have:=(List.getElem?_eq_some_iff.1 hk).1;omega) hk hxs
   ·rcases hr with ⟨u,rfl,hs⟩|⟨k,x,rfl,hx,hxs⟩
    ·exact AC (.inl ⟨j,b,e,rfl,hb,he,.inr ⟨hs,rfl⟩⟩)
    ·have hm:=bN hx;obtain ⟨q,bt,g1,g2,g3,g4⟩:=hd.2 x hm;rw [hxs]at g4;refine AC (.inl ⟨j,b,e,rfl,hb,he,.inl ⟨by rw [←hd.1,←hxs];exact List.mem_map.2 ⟨x,hm,rfl⟩,q,bt,g1,g2,g3,g4,?_⟩⟩);rw [←hxs];exact hm
noncomputable def goF (p:RP) (B:List dtK) (E:List (List Edge)) (n s:Int):Int:=(Ay (mkW p (yOf B E)) n s).getD (-1)
theorem OM (V:VPp p) (H:Fin p B E) (n s:Int):Ay (mkW p (yOf B E)) n s=some (goF p B E n s):=by
 obtain ⟨r,h1,_⟩:=NZ V H n s;unfold goF;rw [h1];rfl
theorem ON (V:VPp p) (H:Fin p B E) (n s:Int):Ar (Eu p B E t) n s=some (goF p B E n s):=by
 obtain ⟨r,h1,h2⟩:=NZ V H n s;obtain ⟨r',h3,h4⟩:=Ox (t:=t) V H n s;unfold goF;rw [h1,h3,GoZ.unique H h4 h2];rfl
noncomputable def Ev (p:RP) (B:List dtK) (E:List (List Edge)):Int→List Int→Int | n,[] =>n | n,s::l=>if n<0 then n else Ev p B E (goF p B E n s) l
theorem JU {n:Int}(h:n<0) (l:List Int):Ev p B E n l=n:=by
 cases l with
 |nil=>rfl
 |cons s l=>unfold Ev;rw [if_pos h]
theorem I0 {n:Int}(h:¬n<0) {l:List Int}{k:Nat}(hk:k<l.length):Ev p B E n (l.drop k)=Ev p B E (goF p B E n l[k]) (l.drop (k+1)):=by
 rw [List.drop_eq_getElem_cons hk];unfold Ev;rw [if_neg h];cases l.drop (k+1) <;>rfl
noncomputable def Lo (p:RP) (B:List dtK) (E:List (List Edge)) (n:Int) (l:List Int):Int:=if n<0∨(B.length:Int) ≤n then -1 else Ev p B E n l
theorem Oy (V:VPp p) (H:Fin p B E) (n:Int) {l:List Int}(hl:l.length≤9223372036854775807):Ok (Bx (Eu p B E t) n l) fun r=>r=Lo p B E n l:=by
 unfold Bx Lo;refine AL (Q:=fun c=>c=decide (n<0∨(B.length:Int) ≤n)) (AX (fun h=>AC ?_) fun h=>AC ?_) fun c hc=> ?_
 ·exact (decide_eq_true (.inl (of_decide_eq_true h))).symm
 ·have h:=of_decide_eq_false h;rw [CP H.len,Bool.eq_iff_iff,decide_eq_true_eq,decide_eq_true_eq];constructor
  ·intro g;exact .inr g
  ·rintro (g | g)
   ·exact absurd g h
   ·exact g
 ·subst hc;refine AX (fun h=>AC ?_) fun h=> ?_
  ·rw [if_pos (of_decide_eq_true h)]
  ·have h:=of_decide_eq_false h;rw [if_neg h];have key:Ok ((CV (σ:=Int) (β:=Int) (0:Int) (l.length:Int) n fun i_z5 z5=>
    (idx l i_z5).bind fun e=>
    (Ar (Eu p B E t) z5 e).bind fun t8=>
    cond (decide (t8< (0:Int)))
    (some (dZ t8))
    (some (dY t8))).bind some) (fun r=>AT.get r=Ev p B E n l):=by
    refine Gm (fun k (z:Int)=>¬z<0∧Ev p B E n l=Ev p B E z (l.drop k)) (fun r=>r=Ev p B E n l) hl ⟨by omega,rfl⟩ (fun k z hk hz=> ?_) (fun z hz=>AC ?_) fun r hr=>AC hr
    ·have hx:=bM hk;refine AY hx (AK (ON V H z l[k]) ?_);have hw:=I0 (p:=p) (B:=B) (E:=E) hz.1 hk;refine AX (fun g=>A7 ?_) fun g=>Bi ⟨of_decide_eq_false g,by rw [hz.2,hw]⟩;rw [hz.2,hw,JU (of_decide_eq_true g)]
    ·rw [hz.2,dD (cP _)];rfl
   obtain ⟨r,h1,h2⟩:=key;rw [show ∀o:Option (AT Int Int),o.bind some=o from fun o=>by cases o<;>rfl]at h1
   refine AL (Q:=fun r=>r=Ev p B E n l) ⟨AT.get r,?_,h2⟩ fun x hx=>AC hx;rw [h1];rfl
theorem Oz (V:VPp p) (H:Fin p B E) (n:Int) {l:List Int}(hl:l.length≤1000000):Ok (BS (mkW p (yOf B E)) n l) fun r=>r=Lo p B E n l:=by
 have hK:(mkW p (yOf B E)).2.2.2.2.2.2.1.length=B.length:=by show (B.map (·.1)).length=_;rw [bQ]
 unfold BS Lo;rw [hK];refine AL (Q:=fun c=>c=decide (n<0∨(B.length:Int) ≤n)) (AX (fun h=>AC ?_) fun h=>AC ?_) fun c hc=> ?_
 ·exact (decide_eq_true (.inl (of_decide_eq_true h))).symm
 ·have h:=of_decide_eq_false h;rw [Bool.eq_iff_iff,decide_eq_true_eq,decide_eq_true_eq];constructor
  ·intro g;exact .inr g
  ·rintro (g | g)
   ·exact absurd g h
   ·exact g
 ·subst hc;refine AX (fun h=>AC ?_) fun h=> ?_
  ·rw [if_pos (of_decide_eq_true h)]
  ·have h:=of_decide_eq_false h;rw [if_neg h];refine CG (fun (z:Int×Int)=>∃k:Nat,z.1=(k:Int)∧k≤l.length∧Ev p B E n l=Ev p B E z.2 (l.drop k)) (fun z=>l.length - z.1.toNat) (fun r=>r=Ev p B E n l) ⟨0,rfl,cN _,rfl⟩ (fun z hz=> ?_) fun r hr=>AC hr;obtain ⟨k',st⟩:=z;obtain ⟨k,h1,h2,h3⟩:=hz;dsimp only at h1 h3 ⊢;subst h1;refine AL (Q:=fun c=>(c=true∧k<l.length∧ ¬st<0)∨(c=false∧(k=l.length∨st<0))) (AX (fun g=>AC ?_) fun g=>AC (.inr ⟨rfl,.inl (by have:=of_decide_eq_false g;omega)⟩)) fun c hc=> ?_
   ·have g:=of_decide_eq_true g;by_cases q:st≥0
    ·exact .inl ⟨decide_eq_true q,by omega,by omega⟩
    ·exact .inr ⟨decide_eq_false q,.inr (by omega)⟩
   ·rcases hc with ⟨rfl,hk,hst⟩|⟨rfl,hc⟩
    ·have hx:=bM hk;refine A4 rfl (AY hx (AK (OM V H st l[k]) (Bi ⟨⟨k+1,?_,hk,by rw [h3,I0 hst hk]⟩,?_⟩)))
     ·dsimp only;rw [w64 (by omega) (by omega)];omega
     ·dsimp only;rw [w64 (by omega) (by omega)];omega
    ·refine AU rfl (A7 ?_);rw [h3];rcases hc with rfl | hc
     ·rw [dD (cP _)];rfl
     ·rw [JU hc]
inductive Pth (B:List dtK):Nat→List Int→Prop
 |zero:Pth B 0 []
 |step {m f:Nat} {b:dtK} {l:List Int} :1≤m→B[m]? =some b→b.2.2.1=(f:Int)→Pth B f l→Pth B m (l++ [b.2.2.2])
theorem Pth.unique {m:Nat}{l l':List Int}(h:Pth B m l) (h':Pth B m l'):l=l':=by
 induction h generalizing l' with
 |zero=>cases h' with
  |zero=>rfl
  |step h1=>omega
 |step h1 h2 h3 _ ih=>cases h' with
  |zero=>omega
  |step g1 g2 g3 g4=>
   rw [h2]at g2;cases g2
   have:_=_:=Int.ofNat.inj (h3.symm.trans g3)
   subst this;rw [ih g4]
def MZ (B:List dtK) (n:Int) (l:List Int):Prop:=l.length≤B.length∧((∃j:Nat,n=(j:Int)∧1≤j∧j<B.length∧Pth B j l)∨((n≤0∨(B.length:Int) ≤n)∧l= []))
theorem MZ.unique {n:Int}{l l':List Int}(h:MZ B n l) (h':MZ B n l'):l=l':=by
 rcases h.2 with ⟨j,rfl,h1,h2,h3⟩|⟨h1,h2⟩ <;>rcases h'.2 with ⟨j',q,g1,g2,g3⟩|⟨g1,g2⟩
 ·have:j'=j:=by omega
  subst this;exact h3.unique g3
 ·omega
 ·omega
 ·rw [h2,g2]
theorem Na (H:Fin p B E) (hB:B.length≤1099512000000) (n:Int):Ok (JS (Eu p B E t) n) (MZ B n):=by
 have hlen:(((dX (C4 B E)):Nat):Int)=(B.length:Int):=by rw [CP H.len]
 unfold JS;refine AL (Jx H n) fun x hx=> ?_;rcases hx with ⟨j,b,e,rfl,hb,he,rfl⟩|⟨h1,rfl⟩
 ·have hj:=EP hb;refine CG (fun (z:Int×Int×List Int×Int)=>∃(m:Nat) (b:dtK),z.2.2.2=(m:Int)∧B[m]? =some b∧z.1=b.2.2.1∧z.2.1=b.2.2.2∧(∀l,Pth B m l→Pth B j (l++z.2.2.1.reverse))∧z.2.2.1.length+m≤j) (fun z=>z.2.2.2.toNat) (fun l=>Pth B j l.reverse∧l.length≤j) ⟨j,b,rfl,hb,rfl,rfl,fun l h=>by simpa using h,by simp⟩ (fun z hz=> ?_) fun l hl=> ?_
  ·obtain ⟨fr,wi,o,m'⟩:=z;obtain ⟨m,b,h1,h2,h3,h4,h5,h6⟩:=hz;dsimp only at h1 h3 h4 h5 h6 ⊢;subst h1 h3 h4;have hm:=EP h2;rw [hlen];rcases bX m with rfl | hm0
   ·refine AL (Q:=fun c=>c=false) (AU rfl (AC rfl)) fun c hc=> ?_;subst hc;exact AU rfl (A7 ⟨by have:=h5 [] .zero;simpa using this,by omega⟩)
   ·refine AL (Q:=fun c=>c=true) (A4 (decide_eq_true (by omega)) (AC (decide_eq_true (by omega)))) fun c hc=> ?_;subst hc;obtain ⟨f,bf,ef,g1,g2,g3,g4,g5,g6,g7⟩:=H.from_ m b hm0 h2;have g2':=g2;rw [g2];refine A4 rfl (BW (by simp;omega) (AK (JT H g3 g6) (Bi ⟨⟨f,bf,rfl,g3,rfl,rfl,fun l hl=> ?_,?_⟩,?_⟩)))
    ·dsimp only
     have:=h5 _ (.step hm0 h2 g2' hl)
     rw [dV]at this;simpa using this
    ·dsimp only;rw [bY];simp;omega
    ·dsimp only;omega
  ·rw [NY l (by omega)];refine AC ⟨by rw [List.length_reverse];omega,?_⟩;rcases bX j with rfl | h
   ·exact .inr ⟨.inl (dL _),by have:=hl.1.unique .zero;exact this⟩
   ·exact .inl ⟨j,rfl,h,hj,hl.1⟩
 ·have hoff:n≤0∨(B.length:Int) ≤n:=by unfold Off at h1;omega
  refine CG (fun (z:Int×Int×List Int×Int)=>z=(0,0,[],n)) (fun _=>0) (fun l=>l= []) rfl (fun z hz=> ?_) fun l hl=> ?_
  ·subst hz;dsimp only;rw [hlen];refine AL (Q:=fun c=>c=false) (AX (fun g=>AC (decide_eq_false ?_)) fun _=>AC rfl) fun c hc=> ?_
   ·have:=of_decide_eq_true g;omega
   ·subst hc;exact AU rfl (A7 rfl)
  ·subst hl;rw [NY [] (by simp)];exact AC ⟨by simp,.inr ⟨hoff,rfl⟩⟩
theorem Nb (H:Fin p B E) (hB:B.length≤1099512000000) (n:Int):Ok (A9 (mkW p (yOf B E)) n) (MZ B n):=by
 have hK:(mkW p (yOf B E)).2.2.2.2.2.2.1.length=B.length:=by show (B.map (·.1)).length=_;rw [bQ]
 unfold A9;rw [hK];refine CG (fun (z:List Int×Int)=>(z=([],n)∧(n≤0∨(B.length:Int) ≤n))∨ ∃(j m:Nat),n=(j:Int)∧1≤j∧j<B.length∧z.2=(m:Int)∧m≤j∧(∀l,Pth B m l→Pth B j (l++z.1))∧z.1.length+m≤j) (fun z=>z.2.toNat) (MZ B n) ?_ (fun z hz=> ?_) fun l hl=>AC hl
 ·by_cases h:n≤0∨(B.length:Int) ≤n
  ·exact .inl ⟨rfl,h⟩
  ·obtain ⟨j,rfl⟩:=cE (show 0≤n by omega);exact .inr ⟨j,j,rfl,by omega,by omega,rfl,cP _,fun l h=>by simpa using h,by simp⟩
 ·rcases hz with ⟨rfl,h⟩|⟨j,m,hn,hj1,hj,hm,hmj,hI,hlen⟩
  ·refine AL (Q:=fun c=>c=false) (AX (fun g=>AC (decide_eq_false ?_)) fun _=>AC rfl) fun c hc=> ?_
   ·have:=of_decide_eq_true g
    dsimp only at this ⊢;omega
   ·subst hc;exact AU rfl (A7 ⟨by simp,.inr ⟨h,rfl⟩⟩)
  ·obtain ⟨o,m'⟩:=z;dsimp only at hm hI hlen ⊢;subst hm;rcases bX m with rfl | hm0
   ·refine AL (Q:=fun c=>c=false) (AU rfl (AC rfl)) fun c hc=> ?_;subst hc;exact AU rfl (A7 ⟨by omega,.inl ⟨j,hn,hj1,hj,by have:=hI [] .zero;simpa using this⟩⟩)
   ·refine AL (Q:=fun c=>c=true) (A4 (decide_eq_true (by omega)) (AC (decide_eq_true (by omega)))) fun c hc=> ?_;subst hc;have hb:=bM (show m<B.length by omega);obtain ⟨b,hbe⟩:∃b,B[m] =b:=⟨_,rfl⟩;rw [hbe]at hb;obtain ⟨f,bf,ef,g1,g2,_⟩:=H.from_ m b hm0 hb;refine A4 rfl (AY (x:=b.2.2.2) (by show (B.map (·.2.2.2))[m]? =_;rw [cB,hb];rfl) (BW (by simp;omega) (AY (x:=b.2.2.1) (by show (B.map (·.2.2.1))[m]? =_;rw [cB,hb];rfl) (Bi ⟨.inr ⟨j,f,hn,hj1,hj,g2,by omega,fun l hl=> ?_,?_⟩,?_⟩))))
    ·have:=hI _ (.step hm0 hb g2 hl)
     rw [dV]at this;exact this
    ·dsimp only;rw [bY];simp;omega
    ·dsimp only;rw [g2];omega
end
abbrev S6:Type:=Slc×Slc×Slc×Slc×Slc×Slc
abbrev S5:Type:=Slc×Slc×Slc×Slc×Slc
def PF (φ:AF) (p:RP) (t:S6):Prop:=Ro.SliceIs dN φ t.1 p.1∧Ro.SliceIs dN φ t.2.1 p.2.1∧Ro.SliceIs A5 φ t.2.2.1 p.2.2.1∧Ro.SliceIs (bT .i64) φ t.2.2.2.1 p.2.2.2.1∧Ro.SliceIs (bT .i64) φ t.2.2.2.2.1 p.2.2.2.2.1∧Ro.SliceIs dN φ t.2.2.2.2.2 p.2.2.2.2.2
theorem PF.mono {φ ψ:AF}{p:RP}{t:S6}(H:PF φ p t) (h:Sub φ ψ):PF ψ p t:=⟨H.1.mono h,H.2.1.mono h,H.2.2.1.mono h,H.2.2.2.1.mono h,H.2.2.2.2.1.mono h,H.2.2.2.2.2.mono h⟩
abbrev opW (b:Nat) (t:S6) (u:S5) (y:RS Slc) (F:List Chk):List Chk:=
 cW 44 b [sv t.1,sv t.2.1,sv t.2.2.1,sv t.2.2.2.1,sv t.2.2.2.2.1,sv t.2.2.2.2.2,sv u.1,sv u.2.1,sv u.2.2.1,sv u.2.2.2.1,sv u.2.2.2.2,.int .i64 y.2.2.2.2.2]::
 cR 46 (cC Av) u.1 y.1::cR 46 (cC Av) u.2.1 y.2.1::cR 50 eF u.2.2.1 y.2.2.1::cR 3 (bT .i64) u.2.2.2.1 y.2.2.2.1::cR 3 (bT .i64) u.2.2.2.2 y.2.2.2.2.1::F
section
variable {φ:AF}{h:AE}{F:List Chk}
theorem OO {q:Option Addr}{p:RP}{y:RS Slc}(H:St φ (cO 44 rW q (mkW p y)::F) h):∃(b:Nat) (t:S6) (u:S5),q=some ⟨b,0,none⟩∧PF φ p t∧St φ (opW b t u y F) h:=by
 obtain ⟨b,vs,e,_,H⟩:=H.open;have H:=H.at1;obtain ⟨_,_,rfl,_,H⟩:=H.pair;obtain ⟨⟨t0,rfl,k0⟩,H⟩:=eC H;obtain ⟨_,_,rfl,_,H⟩:=H.pair;obtain ⟨⟨t1,rfl,k1⟩,H⟩:=eC H;obtain ⟨_,_,rfl,_,H⟩:=H.pair;obtain ⟨⟨t2,rfl,k2⟩,H⟩:=eC H;obtain ⟨_,_,rfl,_,H⟩:=H.pair;obtain ⟨⟨t3,rfl,k3⟩,H⟩:=eC H;obtain ⟨_,_,rfl,_,H⟩:=H.pair;obtain ⟨⟨t4,rfl,k4⟩,H⟩:=eC H;obtain ⟨_,_,rfl,_,H⟩:=H.pair;obtain ⟨⟨t5,rfl,k5⟩,H⟩:=eC H;obtain ⟨_,_,rfl,_,H⟩:=H.pair;obtain ⟨u0,e0⟩:=H.rowCs;subst e0;have H:=H.at1;obtain ⟨_,_,rfl,_,H⟩:=H.pair;obtain ⟨u1,e1⟩:=H.rowCs;subst e1;have H:=H.at1;obtain ⟨_,_,rfl,_,H⟩:=H.pair;obtain ⟨u2,e2⟩:=H.rowCs;subst e2;have H:=H.at1;obtain ⟨_,_,rfl,_,H⟩:=H.pair;obtain ⟨u3,e3⟩:=H.rowCs;subst e3;have H:=H.at1;obtain ⟨_,_,rfl,_,H⟩:=H.pair;obtain ⟨u4,e4⟩:=H.rowCs;subst e4;have H:=H.at1;obtain ⟨rfl,H⟩:=eC H;exact ⟨b,(t0,t1,t2,t3,t4,t5),(u0,u1,u2,u3,u4),by simpa using e,⟨k0,k1,k2,k3,k4,k5⟩,H.at1.at2.at3.at4.at5⟩
theorem OP {b:Nat}{t:S6}{u:S5}{p:RP}{y:RS Slc}(hp:PF φ p t) (H:St φ (opW b t u y F) h):St φ (cO 44 rW (some ⟨b,0,none⟩) (mkW p y)::F) h:=by
 obtain ⟨k0,k1,k2,k3,k4,k5⟩:=hp;have H:=dO (r:=bT .i64) (cs:=[.int .i64 y.2.2.2.2.2]) (x:=y.2.2.2.2.2) H rfl;have H:=cH H.at6;have H:=cH H.at5;have H:=cH H.at4;have H:=cH H.at3;have H:=cH H.at2;have H:=cH (dO (r:=cC dN) H ⟨_,rfl,k5⟩);have H:=cH (dO (r:=cC (bT .i64)) H ⟨_,rfl,k4⟩);have H:=cH (dO (r:=cC (bT .i64)) H ⟨_,rfl,k3⟩);have H:=cH (dO (r:=cC A5) H ⟨_,rfl,k2⟩);have H:=cH (dO (r:=cC dN) H ⟨_,rfl,k1⟩);have H:=cH (dO (r:=cC dN) H ⟨_,rfl,k0⟩);exact St.shut H.at1
theorem OD {α:Type}{r:Ro α}:∀ {S:List Slc}{E:List (List α)}{vs:List Value},S.length=E.length→(∀(j:Nat) s e,S[j]? =some s→E[j]? =some e→Ro.SliceIs r φ s e)→Ro.slc.All φ vs S→(cC r).All φ vs E:=by
 intro S
 induction S with
 |nil=>
  intro E vs hl _ H;cases E with
  |nil=>cases H;exact .nil
  |cons e E=>cases hl
 |cons s S ih=>
  intro E vs hl hq H;cases E with
  |nil=>cases hl
  |cons e E=>
   cases H with
   | @cons a v _ _ hx hr=>
    obtain rfl:=hx;exact Ro.All.cons (a:=[_]) ⟨s,rfl,hq 0 s e rfl rfl⟩ (ih (by simpa using hl) (fun j s' e' g1 g2=>hq (j+1) s' e' (by simpa using g1) (by simpa using g2)) hr)
theorem Ma {α:Type}{r:Ro α}{t:Slc}{S:List Slc}{E:List (List α)}(hl:S.length=E.length) (hq:∀(j:Nat) s e,S[j]? =some s→E[j]? =some e→Ro.SliceIs r φ s e) (H:Ro.SliceIs eF φ t S):Ro.SliceIs (cC r) φ t E:=by
 obtain ⟨g1,g2,g3,g4,vs,g5,g6⟩:=H;exact ⟨hl.symm.trans g1,g2,g3,fun hp=>cU (by rw [←hl,g4 hp];rfl),vs,OD hl hq g5,g6⟩
end
def PG (φ:AF) (a r1:Nat) (t0:S6) (p:RP) (F:List Chk) (i:Nat) (y:RS (List Edge)) (w:AE):Prop:=
 ∃(ψ:AF) (S:List Slc) (t:S6) (u:S5),Sub φ ψ∧PF ψ p t∧S.length=y.1.length∧y.2.2.1.length=y.1.length∧y.2.1.length=y.1.length∧By ψ S y.2.2.1 i∧D9 S y.2.2.1 i∧
  St ψ (opW a t u (y.1,y.2.1,S,y.2.2.2) (cW 32 r1 [sv t0.1,sv t0.2.1,sv t0.2.2.1,sv t0.2.2.2.1,sv t0.2.2.2.2.1,sv t0.2.2.2.2.2]::F)) w
def RIn (φ:AF) (a r1:Nat) (t0:S6) (p:RP) (F:List Chk) (i:Nat) (I:List Item) (y:RS (List Edge)) (w:AE):Prop:=
 ∃(ψ:AF) (S:List Slc) (t:S6) (u:S5) (s:Slc) (e:List Edge),Sub φ ψ∧PF ψ p t∧S.length=y.1.length∧y.2.2.1.length=y.1.length∧y.2.1.length=y.1.length∧By ψ S y.2.2.1 i∧D9 S y.2.2.1 (i+1)∧S[i]? =some s∧y.2.2.1[i]? =some e∧y.2.1[i]? =some I∧
  St ψ (opW a t u (y.1,y.2.1,S,y.2.2.2) (cR 84 ES s e::cW 32 r1 [sv t0.1,sv t0.2.1,sv t0.2.2.1,sv t0.2.2.2.1,sv t0.2.2.2.2.1,sv t0.2.2.2.2.2]::F)) w
theorem Kf {p:RP}{y y':RS Slc}{k:List Item}{fr wi n:Int}(h:placeG B1 p y k fr wi=some (n,y')):BO (mkW p y) k fr wi=some (n,mkW p y'):=by rw [NT,h];rfl
theorem Kg {φ:AF}{S S':List Slc}{E E':List (List Edge)}{K K' I I':List (List Item)}{c i:Nat}(hS:S.length=K.length) (hE:E.length=K.length) (hI:I.length=K.length) (H:By φ S E c) (hf:D9 S E i) (h:(K'=K∧I'=I∧E'=E∧S'=S)∨ ∃k x,S'=S++ [B1] ∧E'=E++ [[]] ∧K'=K++ [k] ∧I'=I++ [x]):
 S'.length=K'.length∧E'.length=K'.length∧I'.length=K'.length∧By φ S' E' c∧D9 S' E' i∧(∀(j:Nat) s,S[j]? =some s→S'[j]? =some s)∧(∀(j:Nat) e,E[j]? =some e→E'[j]? =some e)∧ ∀(j:Nat) b,I[j]? =some b→I'[j]? =some b:=by
 have ap:∀ {α:Type} {l:List α} {x y:α} {j:Nat},l[j]? =some y→(l++ [x])[j]? =some y:=fun {α l x y j} h=>by
  rw [bV (List.getElem?_eq_some_iff.1 h).1];exact h
 rcases h with ⟨rfl,rfl,rfl,rfl⟩|⟨k,x,rfl,rfl,rfl,rfl⟩
 ·exact ⟨hS,hE,hI,H,hf,fun _ _ h=>h,fun _ _ h=>h,fun _ _ h=>h⟩
 ·exact ⟨by simp [hS],by simp [hE],by simp [hI],H.snoc (by omega),hf.snoc,fun _ _ h=>ap h,fun _ _ h=>ap h,fun _ _ h=>ap h⟩
theorem JV {p:RP}{K I:List (List Item)}{E:List (List Edge)}{S:List Slc}{F W:List Int}{tot:Int}{k:List Item}{fr wi:Int}{n:Int}{y:RS (List Edge)}(hl:S.length=E.length) (h:placeG [] p (K,I,E,F,W,tot) k fr wi=some (n,y)):
 ∃S',placeG B1 p (K,I,S,F,W,tot) k fr wi=some (n,(y.1,y.2.1,S',y.2.2.2))∧((y.1=K∧y.2.1=I∧y.2.2.1=E∧S'=S)∨ ∃k' x,S'=S++ [B1] ∧y.2.2.1=E++ [[]] ∧y.1=K++ [k'] ∧y.2.1=I++ [x]):=by
 obtain ⟨S',h1,h2⟩:=LS hl h;refine ⟨S',h1,?_⟩;rcases h2 with ⟨rfl,rfl⟩|⟨h3,h4,c,h5,h6⟩
 ·exact .inl ⟨rfl,rfl,rfl,rfl⟩
 ·exact .inr ⟨k,c,h3,h4,h5,h6⟩
set_option maxHeartbeats 8000000 in
theorem Jy {φ:AF}{h:AE}{F:List Chk}{p_0:Slc×Slc×Slc×Slc×Slc×Slc×Unit}{d0:List ByteArray}{d1:List ByteArray}{d2:List A0}{d3:List Int}{d4:List Int}{d5:List ByteArray}{st it:Int}
 (k0:Ro.SliceIs dN φ p_0.1 d0) (k1:Ro.SliceIs dN φ p_0.2.1 d1) (k2:Ro.SliceIs A5 φ p_0.2.2.1 d2) (k3:Ro.SliceIs (bT .i64) φ p_0.2.2.2.1 d3) (k4:Ro.SliceIs (bT .i64) φ p_0.2.2.2.2.1 d4) (k5:Ro.SliceIs dN φ p_0.2.2.2.2.2.1 d5) (s0:St φ F h) {r:Option I7} (hd:Iy (d0,d1,d2,d3,d4,d5) st it=some r):
 CallsH bZ 8 [(.agg #[.slice p_0.1.1 p_0.1.2.1 p_0.1.2.2,.slice p_0.2.1.1 p_0.2.1.2.1 p_0.2.1.2.2,.slice p_0.2.2.1.1 p_0.2.2.1.2.1 p_0.2.2.1.2.2,.slice p_0.2.2.2.1.1 p_0.2.2.2.1.2.1 p_0.2.2.2.1.2.2,.slice p_0.2.2.2.2.1.1 p_0.2.2.2.2.1.2.1 p_0.2.2.2.2.1.2.2,.slice p_0.2.2.2.2.2.1.1 p_0.2.2.2.2.2.1.2.1 p_0.2.2.2.2.2.1.2.2]),.int .i64 st,.int .i64 it] h (BL fun v h'=>∃ψ:AF,∃y:Option Addr,∃l1:Option I7,Sub φ ψ∧v=((.one aP):Sh).val y∧l1=r∧Np Mz ψ y l1∧St ψ F h'):=by
 refine AV mixed Tryz.func8 ?_;rw [Fs];unfold D6;unfold Iy at hd;obtain ⟨⟨n0,y0⟩,hra,hd⟩:=bS hd;have n0':=k0.length;have n1':=k1.length;refine AZ (vs:=[sv p_0.1,sv p_0.2.1,sv p_0.2.2.1,sv p_0.2.2.2.1,sv p_0.2.2.2.2.1,sv p_0.2.2.2.2.2.1]) s0 fun r1 h1 s1=>AA (x:=p_0.1) s1 rfl<|AA (x:=p_0.2.1) s1 rfl<|AA (x:=p_0.2.2.1) s1 rfl<|AA (x:=p_0.2.2.2.1) s1 rfl<|AA (x:=p_0.2.2.2.2.1) s1 rfl<|AA (x:=p_0.2.2.2.2.2.1) s1 rfl<|AZ (vs:=[sv p_0.1,sv p_0.2.1,sv p_0.2.2.1,sv p_0.2.2.2.1,sv p_0.2.2.2.2.1,sv p_0.2.2.2.2.2.1,.slice none 0 0,.slice none 0 0,.slice none 0 0,.slice none 0 0,.slice none 0 0,.int .i64 (0:Int)]) s1 fun a h2 s2=>AZ (vs:=[.int .i64 (0:Int),.int .i64 (0:Int)]) s2 fun r9 h3 s3=> ?_;have s4:=eB (r:=Av) (l:=[((0:Int),(0:Int))]) (n:=1) s3 (.cons (a:=[_,_]) ⟨[_],_,rfl,rfl,rfl⟩ .nil) rfl (by decide);obtain ⟨ψ1,le1,kk,s5⟩:=bU (t:=(some ⟨r9,0,none⟩,1,1)) s4;have hP:PF φ (d0,d1,d2,d3,d4,d5) (p_0.1,p_0.2.1,p_0.2.2.1,p_0.2.2.2.1,p_0.2.2.2.2.1,p_0.2.2.2.2.2.1):=⟨k0,k1,k2,k3,k4,k5⟩;have s6:St ψ1 (opW a (p_0.1,p_0.2.1,p_0.2.2.1,p_0.2.2.2.1,p_0.2.2.2.2.1,p_0.2.2.2.2.2.1) (B1,B1,B1,B1,B1) ([],[],[],[],[],0) (cW 32 r1 [sv p_0.1,sv p_0.2.1,sv p_0.2.2.1,sv p_0.2.2.2.1,sv p_0.2.2.2.2.1,sv p_0.2.2.2.2.2.1]::F)) h3:=
  (((((s5.nil 3 (bT .i64)).nil 3 (bT .i64)).nil 50 eF).nil 46 (cC Av)).nil 46 (cC Av)).at5
 obtain ⟨S0,e0,hG0⟩:=JV (S:=[]) rfl hra;refine AM (CU kk (OP (hP.mono le1) s6) (Kf e0)) ?_;rintro _ h5 ⟨ψ2,y10,l10,le2,rfl,e10,s7⟩;cases e10;refine ⟨n0,rfl,?_⟩;obtain ⟨_,t7,u7,ea7,hP7,s8⟩:=OO s7;cases ea7;have le12:=le1.trans le2;obtain ⟨g1,g2,g3,g4,g5,_⟩:=Kg (φ:=ψ2) (S:=[]) (E:=[]) (K:=[]) (I:=[]) (c:=0) (i:=0) rfl rfl rfl (fun j s e _ h _=>by simp at h) (fun j _=>⟨fun s h=>by simp at h,fun e h=>by simp at h⟩) hG0;obtain ⟨g,hg,hd⟩:=bS hd;refine Bc (fun (z:Int×Option Addr×Unit) w (g:Option (RS (List Edge)))=>∃y i,g=some y∧y.1.length≤i∧PG φ a r1 (p_0.1,p_0.2.1,p_0.2.2.1,p_0.2.2.2.1,p_0.2.2.2.2.1,p_0.2.2.2.2.2.1) (d0,d1,d2,d3,d4,d5) F i y w) (g:=g) ?_ ?_
 ·unfold Jw at hg;refine Cr hg (fun (z:Int×Option Addr×Unit) w (x:Int×RS (List Edge))=>z.1=x.1∧0≤x.1∧PG φ a r1 (p_0.1,p_0.2.1,p_0.2.2.1,p_0.2.2.2.1,p_0.2.2.2.2.1,p_0.2.2.2.2.2.1) (d0,d1,d2,d3,d4,d5) F x.1.toNat x.2 w) ((0:Int),none,()) rfl ⟨rfl,dL _,ψ2,S0,t7,u7,le12,hP7,g1,g2,g3,g4,g5,s8⟩ ?_;rintro ⟨i,z2,_⟩ w ⟨_,K,I,E,Fr,W,tot⟩ eo ⟨rfl,hi0,ψ,S,t,u,le,hPt,hS,hE,hI,hok,hfr,s⟩ hd' hbo;dsimp only at hi0 hS hE hI hok hfr s hd' ⊢;have nK:=St.rowLen s.at1;have nM:=St.rowMax s.at1;refine AA (x:=u.1) s rfl<|AG hd' (by rw [nK]) (fun hlt hd'=> ?_) (fun hge hd'=> ?_)
  ·have hlt:=of_decide_eq_true hlt;obtain ⟨m,hm,hd'⟩:=bS hd';refine Ai (fun (z:Bool×Unit) w g=>∃ψ',Sub ψ ψ'∧z.1=g∧St ψ' (opW a t u (K,I,S,Fr,W,tot) (cW 32 r1 [sv p_0.1,sv p_0.2.1,sv p_0.2.2.1,sv p_0.2.2.2.1,sv p_0.2.2.2.2.1,sv p_0.2.2.2.2.2.1]::F)) w) (g:=m) ?_ ?_
   ·unfold JR at hm;obtain ⟨hh,hh1,hm⟩:=bS hm;refine AA (x:=u.1) s rfl<|AM (B0 s hh1) ?_;rintro _ w1 ⟨ψ3,y16,le3,rfl,rfl,s1⟩;refine ⟨y16,rfl,?_⟩;refine AS (dP s1 rfl)<|AG hm (by rw [nK]) (fun _ hm=> ?_) (fun _ hm=> ?_)
    ·obtain rfl:=iS hm;exact AP (true,()) rfl ⟨ψ3,le3,rfl,s1⟩
    ·obtain ⟨h2,hh2,hm⟩:=bS hm;refine AA (x:=tot) s1 rfl<|AM (B0 s1 hh2) ?_;rintro _ w2 ⟨ψ4,y18,le4,rfl,rfl,s2⟩;refine ⟨y18,rfl,?_⟩;refine AS (dP s2 rfl) ?_;obtain rfl:=iS hm;exact AP (_,()) rfl ⟨ψ4,le3.trans le4,rfl,s2⟩
   rintro ⟨m',_⟩ w1 ⟨ψ3,le3,rfl,s9⟩;refine AG hd' rfl (fun _ hd'=> ?_) (fun _ hd'=> ?_)
   ·obtain rfl:=iS hd';obtain rfl:=hbo _ rfl;obtain rfl:=iS hd;exact Ae (Ah (AB ⟨ψ3,none,none,le.trans le3,rfl,rfl,Np.none _ _,s9.tail.tail.tail.tail.tail.tail.tail⟩))
   obtain ⟨y2,hy2,hd'⟩:=bS hd';obtain rfl:=iS hd';obtain ⟨f1,f2⟩:=KY hfr (by omega) (by omega);have hIi:=bM (show i.toNat<I.length by omega);obtain ⟨Ii,hIe⟩:∃x,I[i.toNat] =x:=⟨_,rfl⟩;rw [hIe]at hIi;have hIx:idx I i=some Ii:=by unfold idx;rw [if_pos hi0];exact hIi
   have s10:=(s9.nil 84 ES).at6.at6.at6.at6.at6.at6;refine Bc (fun (z:Int×Unit) w g=>RIn ψ3 a r1 (p_0.1,p_0.2.1,p_0.2.2.1,p_0.2.2.2.1,p_0.2.2.2.2.1,p_0.2.2.2.2.2.1) (d0,d1,d2,d3,d4,d5) F i.toNat Ii g w) (g:=y2) ?_ ?_
   ·unfold Jv at hy2;refine K7 hy2 (fun j (z:Int×Unit) w y=>z.1=j∧RIn ψ3 a r1 (p_0.1,p_0.2.1,p_0.2.2.1,p_0.2.2.2.1,p_0.2.2.2.2.1,p_0.2.2.2.2.2.1) (d0,d1,d2,d3,d4,d5) F i.toNat Ii y w) ((0:Int),()) rfl ⟨rfl,ψ3,S,t,u,B1,[],cD _,hPt.mono le3,hS,hE,hI,hok.mono le3,hfr.mono (by omega),f1,f2,hIi,s10⟩ ?_ ?_
    ·rintro _ ⟨j,_⟩ w3 ⟨K3,I3,E3,Fr3,W3,tot3⟩ e3 ⟨rfl,ψ4,S3,t3,u3,s_,el,le4,hP3,hS3,hE3,hI3,hok3,hfr3,hs3,he3,hi3,s11⟩ hd3 hj1 hj2 hw;dsimp only at hS3 hE3 hI3 hok3 hfr3 he3 hi3 s11 hd3 hj1 hj2 hw ⊢;refine AA (x:=p_0.1) s11.at7 rfl<|AA (x:=p_0.2.1) s11.at7 rfl<|BF (by rw [n0',n1'];exact decide_eq_true (by omega)) ?_;unfold symR at hd3;obtain ⟨Ij,hIj,hd4⟩:=bS hd3;clear hd3;have hIx3:idx I3 i=some Ii:=by unfold idx;rw [if_pos hi0];exact hi3
     dsimp only at hIj;rw [hIx3]at hIj;obtain rfl:=Option.some.inj hIj;obtain ⟨k,hk,hd3⟩:=bS hd4;clear hd4;have lef:=(le.trans le3).trans le4;refine Bc (fun (z:Int×Slc×Unit) w g=>∃ψ',Sub ψ4 ψ'∧Ro.SliceIs Av ψ' z.2.1 g∧St ψ' (opW a t3 u3 (K3,I3,S3,Fr3,W3,tot3) (cR 84 ES s_ el::cW 32 r1 [sv p_0.1,sv p_0.2.1,sv p_0.2.2.1,sv p_0.2.2.2.1,sv p_0.2.2.2.2.1,sv p_0.2.2.2.2.2.1]::F)) w) (g:=k) ?_ ?_
     ·unfold OA at hk;refine K7 hk (fun jj (z:Int×Slc×Unit) w g=>z.1=jj∧ ∃ψ',Sub ψ4 ψ'∧Ro.SliceIs Av ψ' z.2.1 g∧St ψ' (opW a t3 u3 (K3,I3,S3,Fr3,W3,tot3) (cR 84 ES s_ el::cW 32 r1 [sv p_0.1,sv p_0.2.1,sv p_0.2.2.1,sv p_0.2.2.2.1,sv p_0.2.2.2.2.1,sv p_0.2.2.2.2.2.1]::F)) w) ((0:Int),B1,()) rfl ⟨rfl,ψ4,cD _,cX _ _,s11⟩ ?_ ?_
      ·rintro _ ⟨jj,zk,_⟩ w4 kk4 e4 ⟨rfl,ψ5,le5,kS,s12⟩ hd4 b1 b2 hw4;dsimp only at kS hd4 b1 b2 hw4 ⊢;obtain ⟨aI,csI,eaI,hiI,qI,clI⟩:=eG s12.at2 hIx3;refine AA (x:=u3.2.1) s12 rfl<|AH _ eaI (Am hiI ?_);obtain ⟨tI,rfl,kI⟩:=qI;refine AN (x:=tI) (clI 0 _ rfl) rfl<|BF (by rw [kI.length];exact decide_eq_true b2)<|AA (x:=u3.2.1) s12 rfl<|AH _ eaI (Am hiI ?_);refine AN (x:=tI) (clI 0 _ rfl) rfl ?_;obtain ⟨x,hx,hd5⟩:=bS hd4;clear hd4;obtain ⟨ax,csx,eax,hix,qx,clx⟩:=kI.get hx;refine AH _ eax (Am hix ?_);obtain ⟨_,_,rfl,rfl,rfl⟩:=qx;refine AN (x:=x.1) (AD s12.sub (clx 0 _ rfl)) rfl<|AN (x:=x.2) (by rw [Ac];exact AD s12.sub (clx 1 _ rfl)) rfl<|AZ (vs:=[.int .i64 (0:Int),.int .i64 (0:Int)]) s12 fun r34 h13 s13=>AI s13 rfl rfl fun h14 s14=>AI s14 rfl rfl fun h15 s15=>AA (x:=p_0.1) s15.at8 rfl<|AA (x:=p_0.2.1) s15.at8 rfl<|AA (x:=p_0.2.2.1) s15.at8 rfl<|AA (x:=p_0.2.2.2.1) s15.at8 rfl<|AA (x:=p_0.2.2.2.2.1) s15.at8 rfl<|AA (x:=p_0.2.2.2.2.2.1) s15.at8 rfl<|AA (x:=x.1) s15 rfl<|AA (x:=x.2) s15 rfl ?_;obtain ⟨b,hb,hd4⟩:=bS hd5;clear hd5;have leg:=lef.trans le5;refine AM (DJ (p_0:=p_0) (x_1:=(x.1,x.2,())) (k0.mono leg) (k1.mono leg) (k2.mono leg) (k3.mono leg) (k4.mono leg) (k5.mono leg) s15 hb) ?_;rintro _ h16 ⟨ψ6,y43,le6,rfl,rfl,s16⟩;refine ⟨y43,rfl,?_⟩;refine Ai (fun (z:Slc×Unit) w g=>∃ψ',Sub ψ5 ψ'∧Ro.SliceIs Av ψ' z.1 g∧St ψ' (opW a t3 u3 (K3,I3,S3,Fr3,W3,tot3) (cR 84 ES s_ el::cW 32 r1 [sv p_0.1,sv p_0.2.1,sv p_0.2.2.1,sv p_0.2.2.2.1,sv p_0.2.2.2.2.1,sv p_0.2.2.2.2.2.1]::F)) w) (g:=e4) ?_ ?_
       ·refine AG hd4 rfl (fun _ hd4=> ?_) (fun _ hd4=> ?_)
        ·refine AA (x:=x.1) s16 rfl<|AA (x:=x.2) s16 rfl<|AM (EB (x_1:=(x.1,cJ .i64 (x.2+(1:Int)),())) (kS.mono le6) s16 hd4) ?_;rintro _ h17 ⟨ψ7,y47,_,le7,rfl,rfl,k47,s17⟩;refine ⟨y47,rfl,?_⟩;exact AP (y47,()) rfl ⟨ψ7,le6.trans le7,k47,s17.tail⟩
        ·obtain rfl:=iS hd4;exact AP (zk,()) rfl ⟨ψ6,le6,kS.mono le6,s16.tail⟩
       rintro ⟨z44,_⟩ h18 ⟨ψ8,le8,k44,s18⟩;exact Al ((cJ .i64 (jj+(1:Int))),z44,()) _ rfl rfl ⟨hw4,ψ8,le5.trans le8,k44,s18⟩
      ·rintro _ ⟨jj,zk,_⟩ w4 ⟨rfl,ψ5,le5,kS,s12⟩ hge4;obtain ⟨aI,csI,eaI,hiI,qI,clI⟩:=eG s12.at2 hIx3;refine AA (x:=u3.2.1) s12 rfl<|AH _ eaI (Am hiI ?_);obtain ⟨tI,rfl,kI⟩:=qI;refine AN (x:=tI) (clI 0 _ rfl) rfl<|As (by rw [kI.length];exact decide_eq_false (Int.not_lt.2 hge4))<|AO (AR (jj,zk,()) rfl ⟨ψ5,le5,kS,s12⟩)
     rintro ⟨z23,kz,_⟩ w4 ⟨ψ5,le5,kS,s12⟩;refine Ai (fun (z:Unit) w g=>RIn ψ3 a r1 (p_0.1,p_0.2.1,p_0.2.2.1,p_0.2.2.2.1,p_0.2.2.2.2.1,p_0.2.2.2.2.2.1) (d0,d1,d2,d3,d4,d5) F i.toNat Ii g w) (g:=e3) ?_ ?_
     ·refine AG hd3 (by rw [kS.length]) (fun _ hd3=> ?_) (fun _ hd3=> ?_)
      ·obtain ⟨⟨n3,y3⟩,hp3,hd4⟩:=bS hd3;clear hd3;obtain ⟨S4,e5,hG⟩:=JV (hS3.trans hE3.symm) hp3;refine AM (CU kS (OP (hP3.mono le5) s12) (Kf e5)) ?_;rintro _ h13 ⟨ψ6,y49,l49,le6,rfl,e49,s13⟩;cases e49;refine ⟨n3,rfl,?_⟩;obtain ⟨_,t4,u4,ea4,hP4,s14⟩:=OO s13;cases ea4;obtain ⟨g1,g2,g3,g4,g5,g6,g7,g8⟩:=Kg hS3 hE3 hI3 ((hok3.mono le5).mono le6) hfr3 hG;obtain ⟨el0,hel,hd5⟩:=bS hd4;clear hd4;obtain ⟨el',hel',hd6⟩:=bS hd5;clear hd5;obtain ⟨E',hE',hd7⟩:=bS hd6;clear hd6;obtain rfl:=iS hd7;dsimp only at hel hel' hE' g1 g2 g3 g4 g5 g6 g7 g8 s14 ⊢;have hs4:=g6 _ _ hs3;have he4:=g7 _ _ he3;obtain ⟨_,hlE,helx⟩:=Ea hel;rw [he4]at helx;obtain rfl:=Option.some.inj helx;have hSx:idx S4 i=some s_:=by unfold idx;rw [if_pos hi0];exact hs4
       refine AA (x:=u4.2.2.1) s14 rfl<|AA (x:=u4.2.2.1) s14 rfl ?_;obtain ⟨aE,csE,eaE,hiE,qE,clE⟩:=eG s14.at3 hSx;refine AH _ eaE (Am hiE ?_);obtain rfl:=qE;refine AN (x:=s_) (clE 0 _ rfl) rfl<|GR (vs:=[.int .i64 j,.int .i64 n3]) s14 fun r54 h15 keep s15=>AS (keep _ _ (clE 0 _ rfl))<|AS (dP s15.at1 rfl)<|AS (dP s15.at1 rfl)<|Aa (r:=ES) (ms:=[(j,n3)]) Oe s15.tail.at6 rfl (St.cells s15) (.cons (a:=[_,_]) ⟨[_],_,rfl,rfl,rfl⟩ .nil) rfl hel' fun s46 h16 s16=>AS (dP s16.at1 rfl)<|AH _ eaE (Am hiE ?_);have hset:GO S4 i s46=some (S4.set i.toNat s46):=by unfold GO;rw [if_pos ⟨hi0,by omega⟩]
       refine Mx (r:=eF) s16.at4 hset rfl eaE fun h17 s17=> ?_;obtain ⟨_,_,rfl⟩:=FI hE';obtain ⟨q1,q2⟩:=NR (s:=s46) (e:=el') g4 g5;exact AP () rfl ⟨ψ6,S4.set i.toNat s46,t4,u4,s46,el',(le4.trans le5).trans le6,hP4,by rw [dJ];exact g1,by rw [dJ];exact g2,g3,q1,q2,by rw [cG (by omega)],by rw [cG (by omega)],g8 _ _ hi3,s17.at6.at6.at2.at6.at6.at6⟩
      ·obtain rfl:=iS hd3;exact AP () rfl ⟨ψ5,S3,t3,u3,s_,el,le4.trans le5,hP3.mono le5,hS3,hE3,hI3,hok3.mono le5,hfr3,hs3,he3,hi3,s12⟩
     rintro _ w5 hR;exact Al ((cJ .i64 (j+(1:Int))),()) _ rfl rfl ⟨hw,hR⟩
    ·rintro _ ⟨j,_⟩ w3 ⟨rfl,ψ4,S3,t3,u3,s_,el,le4,hP3,hS3,hE3,hI3,hok3,hfr3,hs3,he3,hi3,s11⟩ hge3;refine AA (x:=p_0.1) s11.at7 rfl<|AA (x:=p_0.2.1) s11.at7 rfl<|As (by rw [n0',n1'];exact decide_eq_false (by dsimp only at hge3 ⊢;omega))<|AO (AR (j,()) rfl ⟨ψ4,S3,t3,u3,s_,el,le4,hP3,hS3,hE3,hI3,hok3,hfr3,hs3,he3,hi3,s11⟩)
   rintro ⟨z1,_⟩ w3 ⟨ψ4,S3,t3,u3,s_,el,le4,hP3,hS3,hE3,hI3,hok3,hfr3,hs3,he3,hi3,s11⟩;obtain ⟨ψ5,le5,kE,s12⟩:=bU s11.at6;dsimp only at nM hlt;have hw:cJ .i64 (i+1)=i+1:=w64 (by omega) (by unfold maxLen at nM;omega);have hi1:(i+1).toNat=i.toNat+1:=by omega
   refine Al ((cJ .i64 (i+(1:Int))),z2,()) _ rfl rfl ⟨rfl,by rw [hw];omega,ψ5,S3,t3,u3,((le.trans le3).trans le4).trans le5,hP3.mono le5,hS3,hE3,hI3,?_,?_,s12⟩
   ·rw [hw,hi1];exact NS (hok3.mono le5) hs3 he3 kE
   ·rw [hw,hi1];exact hfr3
  ·have hge:=of_decide_eq_false hge;obtain rfl:=iS hd';obtain rfl:=hbo _ rfl;exact AO (AR (i,z2,()) rfl ⟨_,i.toNat,rfl,by dsimp only;omega,ψ,S,t,u,le,hPt,hS,hE,hI,hok,hfr,s⟩)
 rintro ⟨z1,z2,_⟩ w ⟨⟨K,I,E,Fr,W,tot⟩,i,rfl,hi,ψ,S,t,u,le,hPt,hS,hE,hI,hok,hfr,s⟩;dsimp only at hd hi hS hE hI hok hfr s;have nK:=St.rowLen s.at1;obtain ⟨m,hm,hd⟩:=bS hd;refine Ai (fun (z:Bool×Unit) w g=>∃ψ',Sub ψ ψ'∧z.1=g∧St ψ' (opW a t u (K,I,S,Fr,W,tot) (cW 32 r1 [sv p_0.1,sv p_0.2.1,sv p_0.2.2.1,sv p_0.2.2.2.1,sv p_0.2.2.2.2.1,sv p_0.2.2.2.2.2.1]::F)) w) (g:=m) ?_ ?_
 ·unfold JR at hm;obtain ⟨hh,hh1,hm⟩:=bS hm;refine AA (x:=u.1) s rfl<|AM (B0 s hh1) ?_;rintro _ w1 ⟨ψ3,y16,le3,rfl,rfl,s1⟩;refine ⟨y16,rfl,?_⟩;refine AS (dP s1 rfl)<|AG hm (by rw [nK]) (fun _ hm=> ?_) (fun _ hm=> ?_)
  ·obtain rfl:=iS hm;exact AP (true,()) rfl ⟨ψ3,le3,rfl,s1⟩
  ·obtain ⟨h2,hh2,hm⟩:=bS hm;refine AA (x:=tot) s1 rfl<|AM (B0 s1 hh2) ?_;rintro _ w2 ⟨ψ4,y18,le4,rfl,rfl,s2⟩;refine ⟨y18,rfl,?_⟩;refine AS (dP s2 rfl) ?_;obtain rfl:=iS hm;exact AP (_,()) rfl ⟨ψ4,le3.trans le4,rfl,s2⟩
 rintro ⟨m',_⟩ w1 ⟨ψ3,le3,rfl,s9⟩;refine AG hd rfl (fun _ hd=> ?_) (fun _ hd=> ?_)
 ·obtain rfl:=iS hd;exact AB ⟨ψ3,none,none,le.trans le3,rfl,rfl,Np.none _ _,s9.tail.tail.tail.tail.tail.tail.tail⟩
 obtain rfl:=iS hd;obtain ⟨ψ4,l4,qK,s10⟩:=bU s9.at1;obtain ⟨ψ5,l5,qI,s11⟩:=bU s10.at1;obtain ⟨ψ6,l6,qE,s12⟩:=bU s11.at1;obtain ⟨ψ7,l7,qF,s13⟩:=bU s12.at1;obtain ⟨ψ8,l8,qW,s14⟩:=bU s13.at1;have l48:=((l5.trans l6).trans l7).trans l8;have kE:=Ma (hS.trans hE.symm) (fun j s e h1 h2=>(hok j s e (by have:=(List.getElem?_eq_some_iff.1 h1).1;omega) h1 h2).mono (((le3.trans l4).trans l5).trans l6)) qE;have hP8:=hPt.mono ((le3.trans l4).trans l48);have s15:=St.shutR (r:=Mz) (x:=(d0,d1,d2,d3,d4,d5,K,I,E,Fr,W,tot)) s14 ⟨[_],_,rfl,⟨_,rfl,hP8.1⟩,[_],_,rfl,⟨_,rfl,hP8.2.1⟩,[_],_,rfl,⟨_,rfl,hP8.2.2.1⟩,[_],_,rfl,⟨_,rfl,hP8.2.2.2.1⟩,[_],_,rfl,⟨_,rfl,hP8.2.2.2.2.1⟩,[_],_,rfl,⟨_,rfl,hP8.2.2.2.2.2⟩,[_],_,rfl,⟨_,rfl,qK.mono l48⟩,[_],_,rfl,⟨_,rfl,qI.mono ((l6.trans l7).trans l8)⟩,[_],_,rfl,⟨_,rfl,kE.mono (l7.trans l8)⟩,[_],_,rfl,⟨_,rfl,qF.mono l8⟩,[_],_,rfl,⟨_,rfl,qW⟩,rfl⟩;obtain ⟨ψ9,l9,kP,s16⟩:=St.freezeR (Mw _) s15;exact AB ⟨ψ9,some ⟨a,0,none⟩,some _,(((le.trans le3).trans l4).trans l48).trans l9,rfl,rfl,kP,s16.tail⟩
section
variable {φ:AF}{h:AE}{F:List Chk}
noncomputable def CB:Option Bool:=(A2 (1,0,([(0:Int),0]:List Int),([([(0:Int),2]:List Int),([(1:Int)]:List Int)]:List (List Int)),([]:List Int),([]:List Int),([]:List Int))).bind fun t5=>(HN (t5.1,t5.2.1,t5.2.2.1,t5.2.2.2.1,t5.2.2.2.2.1,t5.2.2.2.2.2) 5 100).bind fun t13=>(HN (t5.1,t5.2.1,t5.2.2.1,t5.2.2.2.1,t5.2.2.2.2.1,t5.2.2.2.2.2) 4 100).bind fun t20=>cond (cI t13.1) (some false) ((cond (t13.2==0) (t13.1.bind fun e91=>(Bo e91).bind fun t22=>cond (t22==5) ((Ax e91 4).bind fun t23=>(Ad t23 ([(1,2)]:List Aj)).bind fun t25=>cond t25 ((Ar e91 1 3).bind fun t26=>cond (t26==4) ((Ar e91 2 3).bind fun t27=>cond (t27==(-1:Int)) (cond (cI t20.1) (some (t20.2==5)) (some false)) (some false)) (some false)) (some false)) (some false)) (some false)).bind fun z21=>some z21)
theorem Fy (gk:IM φ) (s0:St φ (F) h) {r:Bool}(hd:CB=some r):
 CallsH bZ 4 [] h (BL fun v h'=>∃ψ:AF,∃y:Bool,Sub φ ψ∧v=((.one aB):Sh).val y∧y=r∧St ψ (F) h'):=by
 refine AV mixed Tryz.func4 ?_;rw [Fo];unfold D3;unfold CB at hd;refine AZ (vs:=[.int .u8 (0:Int),.int .u8 (0:Int)]) s0 fun r1 bu ag=>AZ (vs:=[.int .u8 (0:Int),.int .u8 (2:Int)]) ag fun r2 bv ah=>AZ (vs:=[.int .u8 (1:Int)]) ah fun r3 bw ai=>AZ (vs:=[.slice (some ⟨r2,0,none⟩) 2 2,.slice (some ⟨r3,0,none⟩) 1 1]) ai fun r4 bx aj=> ?_;have ak:=eB (r:=(bT .u8)) (l:=([(0:Int),(0:Int)]:List Int)) (n:=2) aj.at3 (.cons (a:=[_]) rfl (.cons (a:=[_]) rfl .nil)) rfl (by decide);obtain ⟨bz,s,al,am⟩:=bU (t:=((some ⟨r1,0,none⟩,2,2):Slc)) ak;have an:=eB (r:=(bT .u8)) (l:=([(0:Int),(2:Int)]:List Int)) (n:=2) am.at2 (.cons (a:=[_]) rfl (.cons (a:=[_]) rfl .nil)) rfl (by decide);obtain ⟨c0,o,ao,ap⟩:=bU (t:=((some ⟨r2,0,none⟩,2,2):Slc)) an;have aq:=eB (r:=(bT .u8)) (l:=([(1:Int)]:List Int)) (n:=1) ap.at1 (.cons (a:=[_]) rfl .nil) rfl (by decide);obtain ⟨c1,m,ar,au⟩:=bU (t:=((some ⟨r3,0,none⟩,1,1):Slc)) aq;have av:=eB (r:=(cC (bT .u8))) (l:=([([(0:Int),(2:Int)]:List Int),([(1:Int)]:List Int)]:List (List Int))) (n:=2) au (.cons (a:=[_]) ⟨((some ⟨r2,0,none⟩,2,2):Slc),rfl,(ao.mono m)⟩ (.cons (a:=[_]) ⟨((some ⟨r3,0,none⟩,1,1):Slc),rfl,ar⟩ .nil)) rfl (by decide);obtain ⟨z,p,aw,ax⟩:=bU (t:=((some ⟨r4,0,none⟩,2,2):Slc)) av;obtain ⟨c2,ay,hd⟩:=bS hd;refine AM (CS (s_0:=((1:Int),(0:Int),((some ⟨r1,0,none⟩,2,2):Slc),((some ⟨r4,0,none⟩,2,2):Slc),((none,0,0):Slc),((none,0,0):Slc),((none,0,0):Slc),())) (al.mono ((o.trans m).trans p)) aw (cX (bT .u8) z) (cX (bT .u8) z) (cX (bT .u8) z) ax ay) ?_;rintro _ c3 ⟨c4,t5,c5,c6,c7,c8,c9,ca,u,rfl,rfl,a6,a7,a8,a9,aa,ab,az⟩;refine ⟨t5,rfl,?_⟩;try dsimp only at hd
 refine AZ (vs:=[.slice none 0 0,.slice none 0 0,.slice none 0 0,.slice none 0 0,.slice none 0 0,.slice none 0 0]) az fun r6 cb b0=>AI b0 rfl rfl fun cc b1=>AI b1 rfl rfl fun cd b2=>AI b2 rfl rfl fun ce b3=>AI b3 rfl rfl fun cf b4=>AI b4 rfl rfl fun cg b5=>AI b5 rfl rfl fun ch f=>AA (x:=t5.1) f rfl<|AA (x:=t5.2.1) f rfl<|AA (x:=t5.2.2.1) f rfl<|AA (x:=t5.2.2.2.1) f rfl<|AA (x:=t5.2.2.2.2.1) f rfl<|AA (x:=t5.2.2.2.2.2.1) f rfl ?_;obtain ⟨ci,b6,hd⟩:=bS hd;refine AM (H8 (p_0:=(t5.1,t5.2.1,t5.2.2.1,t5.2.2.2.1,t5.2.2.2.2.1,t5.2.2.2.2.2.1,())) (gk.mono ((((s.trans o).trans m).trans p).trans u)) a6 a7 a8 a9 aa ab f b6) ?_;rintro _ cj ⟨ck,t13,cl,c,rfl,rfl,ac,i⟩;refine ⟨t13,rfl,?_⟩;try dsimp only at hd
 have b7:=ac.nil;refine AA (x:=t5.1) i rfl<|AA (x:=t5.2.1) i rfl<|AA (x:=t5.2.2.1) i rfl<|AA (x:=t5.2.2.2.1) i rfl<|AA (x:=t5.2.2.2.2.1) i rfl<|AA (x:=t5.2.2.2.2.2.1) i rfl ?_;obtain ⟨cm,b8,hd⟩:=bS hd;refine AM (H8 (p_0:=(t5.1,t5.2.1,t5.2.2.1,t5.2.2.2.1,t5.2.2.2.2.1,t5.2.2.2.2.2.1,())) (gk.mono (((((s.trans o).trans m).trans p).trans u).trans c)) (a6.mono c) (a7.mono c) (a8.mono c) (a9.mono c) (aa.mono c) (ab.mono c) i b8) ?_;rintro _ cn ⟨a0,t20,co,a1,rfl,rfl,b9,a2⟩;refine ⟨t20,rfl,?_⟩;try dsimp only at hd
 have ba:=b9.nil;refine AG hd (by rw [b7] <;>rfl) (fun _ hd=> ?_) (fun _ hd=> ?_)
 ·obtain rfl:=iS hd;exact AB ⟨a0,false,((((((s.trans o).trans m).trans p).trans u).trans c).trans a1),rfl,rfl,a2.tail⟩
 obtain ⟨bb,b,hd⟩:=bS hd;refine Ai (fun (y:Bool×Unit) w_ g=>∃ψ:AF,Sub a0 ψ∧y.1=g∧St ψ (cW 32 r6 [sv t5.1,sv t5.2.1,sv t5.2.2.1,sv t5.2.2.2.1,sv t5.2.2.2.2.1,sv t5.2.2.2.2.2.1]::F) w_) (g:=bb) ?_ ?_
 ·refine AG b rfl (fun _ b=> ?_) (fun _ b=> ?_)
  ·obtain ⟨cp,bc,b⟩:=bS b;have w:=((ac.mono a1)).get bc;obtain ⟨cq,bd,b⟩:=bS b;refine AM (EO w a2 bd) ?_;rintro _ cr ⟨be,t22,d,rfl,rfl,ad⟩;refine ⟨t22,rfl,?_⟩;refine AG b rfl (fun _ b=> ?_) (fun _ b=> ?_)
   ·obtain ⟨cs,bf,b⟩:=bS b;refine AM (CM (w.mono d) ad bf) ?_;rintro _ ct ⟨cu,t23,cv,j,rfl,rfl,bg,bh⟩;refine ⟨t23,rfl,?_⟩;refine AZ (vs:=[.int .i64 (1:Int),.int .i64 (2:Int)]) bh fun r24 cw bi=> ?_;have bj:=eB (r:=Av) (l:=([((1:Int),(2:Int))]:List Aj)) (n:=1) bi (.cons (a:=[_,_]) ⟨[_],_,rfl,rfl,rfl⟩ .nil) rfl (by decide);obtain ⟨cx,e,bk,bl⟩:=bU (t:=((some ⟨r24,0,none⟩,1,1):Slc)) bj;obtain ⟨cy,bm,b⟩:=bS b;refine AM (Bu (bg.mono e) bk bl bm) ?_;rintro _ cz ⟨bn,t25,k,rfl,rfl,ae⟩;refine ⟨t25,rfl,?_⟩;refine AG b rfl (fun _ b=> ?_) (fun _ b=> ?_)
    ·obtain ⟨d0,bo,b⟩:=bS b;refine AM (CL (w.mono (((d.trans j).trans e).trans k)) ae bo) ?_;rintro _ d1 ⟨bp,t26,q,rfl,rfl,af⟩;refine ⟨t26,rfl,?_⟩;refine AG b rfl (fun _ b=> ?_) (fun _ b=> ?_)
     ·obtain ⟨d2,bq,b⟩:=bS b;refine AM (CL (w.mono ((((d.trans j).trans e).trans k).trans q)) af bq) ?_;rintro _ d3 ⟨a3,t27,a4,rfl,rfl,a5⟩;refine ⟨t27,rfl,?_⟩;refine AG b rfl (fun _ b=> ?_) (fun _ b=> ?_)
      ·refine AG b (by rw [ba] <;>rfl) (fun _ b=> ?_) (fun _ b=> ?_)
       ·obtain rfl:=iS b;exact AP ((t20.2.1==(5:Int)),()) rfl ⟨a3,(((((d.trans j).trans e).trans k).trans q).trans a4),rfl,a5⟩
       obtain rfl:=iS b;exact AP (false,()) rfl ⟨a3,(((((d.trans j).trans e).trans k).trans q).trans a4),rfl,a5⟩
      obtain rfl:=iS b;exact AP (false,()) rfl ⟨a3,(((((d.trans j).trans e).trans k).trans q).trans a4),rfl,a5⟩
     obtain rfl:=iS b;exact AP (false,()) rfl ⟨bp,((((d.trans j).trans e).trans k).trans q),rfl,af⟩
    obtain rfl:=iS b;exact AP (false,()) rfl ⟨bn,(((d.trans j).trans e).trans k),rfl,ae⟩
   obtain rfl:=iS b;exact AP (false,()) rfl ⟨be,d,rfl,ad⟩
  obtain rfl:=iS b;exact AP (false,()) rfl ⟨a0,(cD _),rfl,a2⟩
 rintro z21 d4 ⟨br,bs,rfl,bt⟩;try dsimp only at hd
 obtain rfl:=iS hd;exact AB ⟨br,z21.1,(((((((s.trans o).trans m).trans p).trans u).trans c).trans a1).trans bs),rfl,rfl,bt.tail⟩
noncomputable def Bd (small_0:Ib) (most_1:Int) (items_2:Int) (n_3:Int) (seq_4:List Int):Option Bool:=
 (CB).bind fun t2=>
 (BQ (small_0.1,small_0.2.1,small_0.2.2.1,small_0.2.2.2.1,small_0.2.2.2.2.1,small_0.2.2.2.2.2.1,small_0.2.2.2.2.2.2) 12 5).bind fun t10=>
 (cond (!t10)
 (some true)
 (some (decide ((seq_4.length:Int) >10)))).bind fun z11=>
 cond z11
 (some t2)
 ((A2 (small_0.1,small_0.2.1,small_0.2.2.1,small_0.2.2.2.1,small_0.2.2.2.2.1,small_0.2.2.2.2.2.1,small_0.2.2.2.2.2.2)).bind fun t19=>
  (HN (t19.1,t19.2.1,t19.2.2.1,t19.2.2.2.1,t19.2.2.2.2.1,t19.2.2.2.2.2) most_1 items_2).bind fun t27=>
  (Iy (t19.1,t19.2.1,t19.2.2.1,t19.2.2.2.1,t19.2.2.2.2.1,t19.2.2.2.2.2) most_1 items_2).bind fun t34=>
  (cond (cI t27.1)
  (some true)
  (some (cI t34))).bind fun z35=>
  cond z35
  ((cond t2
   (cond (cI t27.1)
    (cond (cI t34)
     (some (t27.2==5))
     (some false))
    (some false))
   (some false)).bind fun z36=>
   some z36)
  ((cond (t27.2 !=0)
   (some true)
   (t34.bind fun e128=>
    t27.1.bind fun e169=>
    (Bo e169).bind fun t40=>
    cond (t40 !=(e128.2.2.2.2.2.2.1.length:Int))
    (some true)
    ((Ct e169).bind fun t43=>
     cond (t43 !=e128.2.2.2.2.2.2.2.2.2.2.2)
     (some true)
     ((Ar e169 n_3 3).bind fun t44=>
      (Ay e128 n_3 3).bind fun t45=>
      cond (t44 !=t45)
      (some true)
      ((Ax e169 (-1:Int)).bind fun t46=>
       cond ((t46.length:Int) !=0)
       (some true)
       ((BB e169 (e128.2.2.2.2.2.2.1.length:Int)).bind fun t49=>
        some ((t49.length:Int) !=0))))))).bind fun z37=>
   cond z37
   (some false)
   ((loop (σ:=Int) (β:=AT Unit Bool) 0 fun z51=>
    t34.bind fun e246=>
    cond (decide (z51< (e246.2.2.2.2.2.2.1.length:Int)))
    (((idx e246.2.2.2.2.2.2.1 z51).bind fun e294=>
     t27.1.bind fun e301=>
     (Ax e301 z51).bind fun t59=>
     (Ad t59 e294).bind fun t60=>
     cond (!t60)
     (some true)
     ((idx e246.2.2.2.2.2.2.2.1 z51).bind fun e327=>
      (BB e301 z51).bind fun t65=>
      (Ad t65 e327).bind fun t66=>
      cond (!t66)
      (some true)
      ((idx e246.2.2.2.2.2.2.2.2.1 z51).bind fun e356=>
       (Bs e301 z51).bind fun t71=>
       (CA t71 e356).bind fun t72=>
       cond (!t72)
       (some true)
       ((JS e301 z51).bind fun t73=>
        (A9 e246 z51).bind fun t74=>
        (BZ t73 t74).bind fun t75=>
        some (!t75))))).bind fun z54=>
     cond z54
     (some (dZ (dZ false)))
     (some (dY (cJ .i64 (z51+1)))))
    (some (dZ (dY ())))).bind fun e_z50=>match e_z50 with
    |.next z50=>
     (cond t2
     (t27.1.bind fun e428=>
      (Bx e428 n_3 seq_4).bind fun t77=>
      t34.bind fun e438=>
      (BS e438 n_3 seq_4).bind fun t78=>
      cond (t77==t78)
      ((JS e428 n_3).bind fun t79=>
       (A9 e438 n_3).bind fun t80=>
       (BZ t79 t80).bind fun t81=>
       some t81)
      (some false))
     (some false)).bind fun z76=>
     some z76
    |.done q483=>some q483)))
theorem EY {small_0:Int×Int×Slc×Slc×Slc×Slc×Slc×Unit}{b4:List Int}{b5:List (List Int)}{b6:List Int}{b7:List Int}{b8:List Int}{most_1:Int}{items_2:Int}{n_3:Int}{seq_4:Slc}{au:List Int}(gk:IM φ) (b9:Ro.SliceIs (bT .u8) φ small_0.2.2.1 b4) (ba:Ro.SliceIs (cC (bT .u8)) φ small_0.2.2.2.1 b5) (bb:Ro.SliceIs (bT .u8) φ small_0.2.2.2.2.1 b6) (bc:Ro.SliceIs (bT .u8) φ small_0.2.2.2.2.2.1 b7) (bd:Ro.SliceIs (bT .u8) φ small_0.2.2.2.2.2.2.1 b8) (av:Ro.SliceIs (bT .i64) φ seq_4 au) (s0:St φ (F) h) {r:Bool}(hd:Bd (small_0.1,small_0.2.1,b4,b5,b6,b7,b8) most_1 items_2 n_3 au=some r):
 CallsH bZ 3 [(.agg #[(.int .u8 small_0.1),(.int .u8 small_0.2.1),(sv small_0.2.2.1),(sv small_0.2.2.2.1),(sv small_0.2.2.2.2.1),(sv small_0.2.2.2.2.2.1),(sv small_0.2.2.2.2.2.2.1)]),(.int .i64 most_1),(.int .i64 items_2),(.int .i64 n_3),(sv seq_4)] h (BL fun v h'=>∃ψ:AF,∃y:Bool,Sub φ ψ∧v=((.one aB):Sh).val y∧y=r∧St ψ (F) h'):=by
 refine AV mixed Tryz.func3 ?_;rw [EV];unfold Cp;unfold Bd at hd;have cg:seq_4.2.1=dX au:=av.length;refine AZ (vs:=[.int .u8 small_0.1,.int .u8 small_0.2.1,sv small_0.2.2.1,sv small_0.2.2.2.1,sv small_0.2.2.2.2.1,sv small_0.2.2.2.2.2.1,sv small_0.2.2.2.2.2.2.1]) s0 fun r1 g0 ch=> ?_;obtain ⟨g1,ci,hd⟩:=bS hd;refine AM (Fy gk ch ci) ?_;rintro _ g2 ⟨g3,t2,d,rfl,rfl,z⟩;refine ⟨t2,rfl,?_⟩;refine AA (x:=small_0.1) z rfl<|AA (x:=small_0.2.1) z rfl<|AA (x:=small_0.2.2.1) z rfl<|AA (x:=small_0.2.2.2.1) z rfl<|AA (x:=small_0.2.2.2.2.1) z rfl<|AA (x:=small_0.2.2.2.2.2.1) z rfl<|AA (x:=small_0.2.2.2.2.2.2.1) z rfl ?_;obtain ⟨g4,cj,hd⟩:=bS hd;refine AM (En (s_0:=(small_0.1,small_0.2.1,small_0.2.2.1,small_0.2.2.2.1,small_0.2.2.2.2.1,small_0.2.2.2.2.2.1,small_0.2.2.2.2.2.2.1,())) (b9.mono d) (ba.mono d) (bb.mono d) (bc.mono d) (bd.mono d) z cj) ?_;rintro _ g5 ⟨aw,t10,k,rfl,rfl,be⟩;refine ⟨t10,rfl,?_⟩;obtain ⟨ck,a9,hd⟩:=bS hd;refine Ai (fun (y:Bool×Unit) w_ g=>∃ψ:AF,Sub aw ψ∧y.1=g∧St ψ (Wq0 r1 small_0::F) w_) (g:=ck) ?_ ?_
 ·refine AG a9 rfl (fun _ a9=> ?_) (fun _ a9=> ?_)
  ·obtain rfl:=iS a9;exact AP (true,()) rfl ⟨aw,(cD _),rfl,be⟩
  obtain rfl:=iS a9;exact AP ((decide ((seq_4.2.1:Int) >(10:Int))),()) rfl ⟨aw,(cD _),(by rw [cg]),be⟩
 rintro z11 g6 ⟨cl,l,rfl,s⟩;try dsimp only at hd
 refine AG hd rfl (fun _ hd=> ?_) (fun _ hd=> ?_)
 ·obtain rfl:=iS hd;exact AB ⟨cl,t2,((d.trans k).trans l),rfl,rfl,s.tail⟩
 refine AA (x:=small_0.1) s rfl<|AA (x:=small_0.2.1) s rfl<|AA (x:=small_0.2.2.1) s rfl<|AA (x:=small_0.2.2.2.1) s rfl<|AA (x:=small_0.2.2.2.2.1) s rfl<|AA (x:=small_0.2.2.2.2.2.1) s rfl<|AA (x:=small_0.2.2.2.2.2.2.1) s rfl ?_;obtain ⟨g7,cm,hd⟩:=bS hd;refine AM (CS (s_0:=(small_0.1,small_0.2.1,small_0.2.2.1,small_0.2.2.2.1,small_0.2.2.2.2.1,small_0.2.2.2.2.2.1,small_0.2.2.2.2.2.2.1,())) (b9.mono ((d.trans k).trans l)) (ba.mono ((d.trans k).trans l)) (bb.mono ((d.trans k).trans l)) (bc.mono ((d.trans k).trans l)) (bd.mono ((d.trans k).trans l)) s cm) ?_;rintro _ g8 ⟨g9,t19,ga,gb,gc,gd,ge,gf,a0,rfl,rfl,bf,bg,bh,bi,bj,bk,cn⟩;refine ⟨t19,rfl,?_⟩;try dsimp only at hd
 refine AZ (vs:=[.slice none 0 0,.slice none 0 0,.slice none 0 0,.slice none 0 0,.slice none 0 0,.slice none 0 0]) cn fun r20 gg co=>AI co rfl rfl fun gh cp=>AI cp rfl rfl fun gi cq=>AI cq rfl rfl fun gj cr=>AI cr rfl rfl fun gl cs=>AI cs rfl rfl fun gm ct=>AI ct rfl rfl fun gn a1=>AA (x:=t19.1) a1 rfl<|AA (x:=t19.2.1) a1 rfl<|AA (x:=t19.2.2.1) a1 rfl<|AA (x:=t19.2.2.2.1) a1 rfl<|AA (x:=t19.2.2.2.2.1) a1 rfl<|AA (x:=t19.2.2.2.2.2.1) a1 rfl ?_;obtain ⟨go,cu,hd⟩:=bS hd;refine AM (H8 (p_0:=(t19.1,t19.2.1,t19.2.2.1,t19.2.2.2.1,t19.2.2.2.2.1,t19.2.2.2.2.2.1,())) (gk.mono (((d.trans k).trans l).trans a0)) bf bg bh bi bj bk a1 cu) ?_;rintro _ gp ⟨gq,t27,gr,n,rfl,rfl,ah,a2⟩;refine ⟨t27,rfl,?_⟩;try dsimp only at hd
 have bl:=ah.nil;refine AA (x:=t19.1) a2 rfl<|AA (x:=t19.2.1) a2 rfl<|AA (x:=t19.2.2.1) a2 rfl<|AA (x:=t19.2.2.2.1) a2 rfl<|AA (x:=t19.2.2.2.2.1) a2 rfl<|AA (x:=t19.2.2.2.2.2.1) a2 rfl ?_;obtain ⟨gs,cv,hd⟩:=bS hd;refine AM (Jy (p_0:=(t19.1,t19.2.1,t19.2.2.1,t19.2.2.2.1,t19.2.2.2.2.1,t19.2.2.2.2.2.1,())) (bf.mono n) (bg.mono n) (bh.mono n) (bi.mono n) (bj.mono n) (bk.mono n) a2 cv) ?_;rintro _ gt ⟨ax,t34,gu,t,rfl,rfl,ai,bm⟩;refine ⟨t34,rfl,?_⟩;have bn:=ai.nil;obtain ⟨cw,aa,hd⟩:=bS hd;refine Ai (fun (y:Bool×Unit) w_ g=>∃ψ:AF,Sub ax ψ∧y.1=g∧St ψ (cW 32 r20 [sv t19.1,sv t19.2.1,sv t19.2.2.1,sv t19.2.2.2.1,sv t19.2.2.2.2.1,sv t19.2.2.2.2.2.1]::Wq0 r1 small_0::F) w_) (g:=cw) ?_ ?_
 ·refine AG aa (by rw [bl] <;>rfl) (fun _ aa=> ?_) (fun _ aa=> ?_)
  ·have cx:=bm.at1;obtain rfl:=iS aa;exact AP (true,()) rfl ⟨ax,(cD _),rfl,cx.at1⟩
  have cy:=bm.at1.at1;obtain rfl:=iS aa;exact AP ((cI t34),()) rfl ⟨ax,(cD _),(by rw [bn]),cy⟩
 rintro z35 gv ⟨a3,o,rfl,a4⟩;try dsimp only at hd
 refine AG hd rfl (fun _ hd=> ?_) (fun _ hd=> ?_)
 ·obtain ⟨cz,m,hd⟩:=bS hd;refine Ai (fun (y:Bool×Unit) w_ g=>∃ψ:AF,Sub a3 ψ∧y.1=g∧St ψ (cW 32 r20 [sv t19.1,sv t19.2.1,sv t19.2.2.1,sv t19.2.2.2.1,sv t19.2.2.2.2.1,sv t19.2.2.2.2.2.1]::Wq0 r1 small_0::F) w_) (g:=cz) ?_ ?_
  ·refine AG m rfl (fun _ m=> ?_) (fun _ m=> ?_)
   ·refine AG m (by rw [bl] <;>rfl) (fun _ m=> ?_) (fun _ m=> ?_)
    ·refine AG m (by rw [bn] <;>rfl) (fun _ m=> ?_) (fun _ m=> ?_)
     ·have d0:=a4.at1;obtain rfl:=iS m;exact AP ((t27.2.1==(5:Int)),()) rfl ⟨a3,(cD _),rfl,d0.at1⟩
     obtain rfl:=iS m;exact AP (false,()) rfl ⟨a3,(cD _),rfl,a4.at1.at1⟩
    obtain rfl:=iS m;exact AP (false,()) rfl ⟨a3,(cD _),rfl,a4.at1.at1⟩
   obtain rfl:=iS m;exact AP (false,()) rfl ⟨a3,(cD _),rfl,a4.at1.at1⟩
  rintro z36 gw ⟨d1,d2,rfl,d3⟩;try dsimp only at hd
  obtain rfl:=iS hd;exact AB ⟨d1,z36.1,(((((((d.trans k).trans l).trans a0).trans n).trans t).trans o).trans d2),rfl,rfl,d3.tail.tail⟩
 obtain ⟨d4,b,hd⟩:=bS hd;refine Ai (fun (y:Bool×Unit) w_ g=>∃ψ:AF,Sub a3 ψ∧y.1=g∧St ψ (cW 32 r20 [sv t19.1,sv t19.2.1,sv t19.2.2.1,sv t19.2.2.2.1,sv t19.2.2.2.2.1,sv t19.2.2.2.2.2.1]::Wq0 r1 small_0::F) w_) (g:=d4) ?_ ?_
 ·refine AG b rfl (fun _ b=> ?_) (fun _ b=> ?_)
  ·have d5:=a4.at1;obtain rfl:=iS b;exact AP (true,()) rfl ⟨a3,(cD _),rfl,d5.at1⟩
  obtain ⟨d6,d7,b⟩:=bS b;have bo:=((ai.mono o)).get d7;obtain ⟨gx,gy,ay,⟨_,_,rfl,⟨gz,rfl,h0⟩,_,_,rfl,⟨h1,rfl,h2⟩,_,_,rfl,⟨h3,rfl,h4⟩,_,_,rfl,⟨h5,rfl,h6⟩,_,_,rfl,⟨h7,rfl,h8⟩,_,_,rfl,⟨h9,rfl,hb⟩,_,_,rfl,⟨bp,rfl,d8⟩,_,_,rfl,⟨hc,rfl,he⟩,_,_,rfl,⟨hf,rfl,hg⟩,_,_,rfl,⟨hh,rfl,hi⟩,_,_,rfl,⟨hj,rfl,hk⟩,rfl⟩,ab⟩:=id bo;have bq:=d8.length;refine AH _ ay<|AN (x:=bp) (AD a4.sub (ab.at 6 rfl)) rfl ?_;obtain ⟨hl,d9,b⟩:=bS b;have ac:=((ah.mono (t.trans o))).get d9;obtain ⟨hm,da,b⟩:=bS b;refine AM (EO ac a4 da) ?_;rintro _ hn ⟨db,t40,i,rfl,rfl,aj⟩;refine ⟨t40,rfl,?_⟩;refine AS (AD (cA i aj.sub) (ab.at 6 rfl))<|AG b (by rw [bq] <;>rfl) (fun _ b=> ?_) (fun _ b=> ?_)
  ·have dc:=aj.at1;obtain rfl:=iS b;exact AP (true,()) rfl ⟨db,i,rfl,dc.at1⟩
  refine AH _ ay<|AN (x:=d6.2.2.2.2.2.2.2.2.2.2.2) (AD (cA i aj.sub) (ab.at 11 rfl)) rfl ?_;obtain ⟨ho,dd,b⟩:=bS b;refine AM (GD (ac.mono i) aj dd) ?_;rintro _ hp ⟨de,t43,q,rfl,rfl,az⟩;refine ⟨t43,rfl,?_⟩;refine AS (AD (cA (i.trans q) az.sub) (ab.at 11 rfl))<|AG b rfl (fun _ b=> ?_) (fun _ b=> ?_)
  ·have df:=az.at1;obtain rfl:=iS b;exact AP (true,()) rfl ⟨de,(i.trans q),rfl,df.at1⟩
  obtain ⟨hq,dg,b⟩:=bS b;refine AM (CL (ac.mono (i.trans q)) az dg) ?_;rintro _ hr ⟨hs,t44,a5,rfl,rfl,dh⟩;refine ⟨t44,rfl,?_⟩;obtain ⟨ht,di,b⟩:=bS b;refine AM (C5 (bo.mono ((i.trans q).trans a5)) dh di) ?_;rintro _ hu ⟨dj,t45,a8,rfl,rfl,br⟩;refine ⟨t45,rfl,?_⟩;refine AG b rfl (fun _ b=> ?_) (fun _ b=> ?_)
  ·have dk:=br.at1;obtain rfl:=iS b;exact AP (true,()) rfl ⟨dj,(((i.trans q).trans a5).trans a8),rfl,dk.at1⟩
  obtain ⟨hv,dl,b⟩:=bS b;refine AM (CM (ac.mono (((i.trans q).trans a5).trans a8)) br dl) ?_;rintro _ hw ⟨dm,t46,hx,ak,rfl,rfl,dn,b0⟩;refine ⟨t46,rfl,?_⟩;have dp:=dn.length;refine AG b (by rw [dp] <;>rfl) (fun _ b=> ?_) (fun _ b=> ?_)
  ·have dq:=b0.at1;obtain rfl:=iS b;exact AP (true,()) rfl ⟨dm,((((i.trans q).trans a5).trans a8).trans ak),rfl,dq.at1⟩
  refine AH _ ay<|AN (x:=bp) (AD (cA ((((i.trans q).trans a5).trans a8).trans ak) b0.sub) (ab.at 6 rfl)) rfl ?_;obtain ⟨hy,bs,b⟩:=bS b;rw [←bq]at bs;refine AM (Dh (ac.mono ((((i.trans q).trans a5).trans a8).trans ak)) b0 bs) ?_;rintro _ hz ⟨dr,t49,i0,ds,rfl,rfl,dt,du⟩;refine ⟨t49,rfl,?_⟩;have dv:=dt.length;have dw:=du.at1.at1;obtain rfl:=iS b;exact AP (((t49.2.1:Int) !=(0:Int)),()) rfl ⟨dr,(((((i.trans q).trans a5).trans a8).trans ak).trans ds),(by rw [dv]),dw⟩
 rintro z37 i1 ⟨al,u,rfl,bt⟩;try dsimp only at hd
 refine AG hd rfl (fun _ hd=> ?_) (fun _ hd=> ?_)
 ·obtain rfl:=iS hd;exact AB ⟨al,false,(((((((d.trans k).trans l).trans a0).trans n).trans t).trans o).trans u),rfl,rfl,bt.tail.tail⟩
 obtain ⟨dx,dy,hd⟩:=bS hd;refine Bc (fun (y:Int×Bool×Unit) w_ g=>∃ψ:AF,Sub al ψ∧dY ()=g∧St ψ (cW 32 r20 [sv t19.1,sv t19.2.1,sv t19.2.2.1,sv t19.2.2.2.1,sv t19.2.2.2.2.1,sv t19.2.2.2.2.2.1]::Wq0 r1 small_0::F) w_) (g:=dx) ?_ ?_
 ·refine Cr dy (fun (y:Int×Bool×Unit) w_ g=>∃ψ:AF,Sub al ψ∧y.1=g∧St ψ (cW 32 r20 [sv t19.1,sv t19.2.1,sv t19.2.2.1,sv t19.2.2.2.1,sv t19.2.2.2.2.1,sv t19.2.2.2.2.2.1]::Wq0 r1 small_0::F) w_) ((0:Int),false,()) rfl ⟨al,(cD _),rfl,bt.at1.at1⟩ ?_
  ·rintro z51 i2 _ _ ⟨bu,ad,rfl,ae⟩ f bv;try dsimp only at f
   obtain ⟨i3,dz,f⟩:=bS f;have bw:=((ai.mono ((o.trans u).trans ad))).get dz;obtain ⟨i4,i5,am,⟨_,_,rfl,⟨i6,rfl,i7⟩,_,_,rfl,⟨i8,rfl,i9⟩,_,_,rfl,⟨ia,rfl,ib⟩,_,_,rfl,⟨ic,rfl,ie⟩,_,_,rfl,⟨ig,rfl,ih⟩,_,_,rfl,⟨ii,rfl,ij⟩,_,_,rfl,⟨bx,rfl,bz⟩,_,_,rfl,⟨e0,rfl,e1⟩,_,_,rfl,⟨e2,rfl,e3⟩,_,_,rfl,⟨ik,rfl,il⟩,_,_,rfl,⟨im,rfl,io⟩,rfl⟩,a6⟩:=id bw;have e4:=bz.length;refine AH _ am<|AN (x:=bx) (AD ae.sub (a6.at 6 rfl)) rfl<|AG f (by rw [e4] <;>rfl) (fun _ f=> ?_) (fun _ f=> ?_)
   ·obtain ⟨e5,a,f⟩:=bS f;refine Ai (fun (y:Bool×Unit) w_ g=>∃ψ:AF,Sub bu ψ∧y.1=g∧St ψ (cW 32 r20 [sv t19.1,sv t19.2.1,sv t19.2.2.1,sv t19.2.2.2.1,sv t19.2.2.2.2.1,sv t19.2.2.2.2.2.1]::Wq0 r1 small_0::F) w_) (g:=e5) ?_ ?_
    ·refine AH _ am<|AN (x:=bx) (AD ae.sub (a6.at 6 rfl)) rfl ?_;obtain ⟨ip,e6,a⟩:=bS a;obtain ⟨iq,ir,e7,e8,e9,c0⟩:=bz.get e6;refine AH _ e7 (Am e8 ?_);obtain ⟨ea,rfl,eb⟩:=e9;refine AN (x:=ea) (AD ae.sub (c0 0 _ rfl)) rfl ?_;obtain ⟨it,ec,a⟩:=bS a;have an:=((ah.mono (((t.trans o).trans u).trans ad))).get ec;obtain ⟨iu,ed,a⟩:=bS a;refine AM (CM an ae ed) ?_;rintro _ iv ⟨iw,t59,ix,e,rfl,rfl,ee,b1⟩;refine ⟨t59,rfl,?_⟩;refine AS (AD (cA e b1.sub) (c0 0 _ rfl))<|AS (AD (cA e b1.sub) (a6.at 6 rfl)) ?_;obtain ⟨iy,ef,a⟩:=bS a;refine AM (Bu ee (eb.mono e) b1 ef) ?_;rintro _ iz ⟨eg,t60,j,rfl,rfl,ao⟩;refine ⟨t60,rfl,?_⟩;refine AG a rfl (fun _ a=> ?_) (fun _ a=> ?_)
     ·have eh:=ao.at1;obtain rfl:=iS a;exact AP (true,()) rfl ⟨eg,(e.trans j),rfl,eh.at1⟩
     refine AH _ am<|AN (x:=e0) (AD (cA (e.trans j) ao.sub) (a6.at 7 rfl)) rfl ?_;obtain ⟨j0,ei,a⟩:=bS a;obtain ⟨j1,j2,ej,ek,el,c1⟩:=(e1.mono (e.trans j)).get ei;refine AH _ ej (Am ek ?_);obtain ⟨em,rfl,en⟩:=el;refine AN (x:=em) (AD ao.sub (c1 0 _ rfl)) rfl ?_;obtain ⟨j3,eo,a⟩:=bS a;refine AM (Dh (an.mono (e.trans j)) ao eo) ?_;rintro _ j4 ⟨j5,t65,j6,p,rfl,rfl,ep,b2⟩;refine ⟨t65,rfl,?_⟩;refine AS (AD (cA p b2.sub) (c1 0 _ rfl))<|AS (AD (cA ((e.trans j).trans p) b2.sub) (a6.at 7 rfl)) ?_;obtain ⟨j7,er,a⟩:=bS a;refine AM (Bu ep (en.mono p) b2 er) ?_;rintro _ j8 ⟨es,t66,w,rfl,rfl,ap⟩;refine ⟨t66,rfl,?_⟩;refine AG a rfl (fun _ a=> ?_) (fun _ a=> ?_)
     ·have eu:=ap.at1;obtain rfl:=iS a;exact AP (true,()) rfl ⟨es,(((e.trans j).trans p).trans w),rfl,eu.at1⟩
     refine AH _ am<|AN (x:=e2) (AD (cA (((e.trans j).trans p).trans w) ap.sub) (a6.at 8 rfl)) rfl ?_;obtain ⟨j9,ev,a⟩:=bS a;obtain ⟨ja,jb,ew,ex,ey,c2⟩:=(e3.mono (((e.trans j).trans p).trans w)).get ev;refine AH _ ew (Am ex ?_);obtain ⟨ez,rfl,f0⟩:=ey;refine AN (x:=ez) (AD ap.sub (c2 0 _ rfl)) rfl ?_;obtain ⟨jc,f1,a⟩:=bS a;refine AM (GE (an.mono (((e.trans j).trans p).trans w)) ap f1) ?_;rintro _ jd ⟨je,t71,jf,a7,rfl,rfl,f2,b3⟩;refine ⟨t71,rfl,?_⟩;refine AS (AD (cA a7 b3.sub) (c2 0 _ rfl))<|AS (AD (cA ((((e.trans j).trans p).trans w).trans a7) b3.sub) (a6.at 8 rfl)) ?_;obtain ⟨jg,f3,a⟩:=bS a;refine AM (Fx f2 (f0.mono a7) b3 f3) ?_;rintro _ jh ⟨f4,t72,aq,rfl,rfl,c3⟩;refine ⟨t72,rfl,?_⟩;refine AG a rfl (fun _ a=> ?_) (fun _ a=> ?_)
     ·have f5:=c3.at1;obtain rfl:=iS a;exact AP (true,()) rfl ⟨f4,(((((e.trans j).trans p).trans w).trans a7).trans aq),rfl,f5.at1⟩
     obtain ⟨ji,f6,a⟩:=bS a;refine AM (Kd (an.mono (((((e.trans j).trans p).trans w).trans a7).trans aq)) c3 f6) ?_;rintro _ jj ⟨jk,t73,jl,c4,rfl,rfl,f7,f8⟩;refine ⟨t73,rfl,?_⟩;obtain ⟨jm,f9,a⟩:=bS a;refine AM (Cj (bw.mono ((((((e.trans j).trans p).trans w).trans a7).trans aq).trans c4)) f8 f9) ?_;rintro _ jn ⟨jo,t74,jp,c5,rfl,rfl,fa,fb⟩;refine ⟨t74,rfl,?_⟩;obtain ⟨jq,fc,a⟩:=bS a;refine AM (Di (f7.mono c5) fa fb fc) ?_;rintro _ jr ⟨fd,t75,fe,rfl,rfl,ff⟩;refine ⟨t75,rfl,?_⟩;obtain rfl:=iS a;exact AP ((!t75),()) rfl ⟨fd,((((((((e.trans j).trans p).trans w).trans a7).trans aq).trans c4).trans c5).trans fe),rfl,ff.at1.at1⟩
    rintro z54 js ⟨c6,c7,rfl,c8⟩;try dsimp only at f
    refine AG f rfl (fun _ f=> ?_) (fun _ f=> ?_)
    ·obtain rfl:=iS f;obtain rfl:=bv _ rfl;try dsimp only at hd
     obtain rfl:=iS hd;exact Ae (Ah (AB ⟨c6,false,(((((((((d.trans k).trans l).trans a0).trans n).trans t).trans o).trans u).trans ad).trans c7),rfl,rfl,c8.tail.tail⟩))
    obtain rfl:=iS f;exact Al ((wN z51.1),z51.2.1,()) _ rfl rfl ⟨c6,(ad.trans c7),rfl,c8.at1.at1⟩
   obtain rfl:=iS f;obtain rfl:=bv _ rfl;exact AO (AR (z51.1,z51.2.1,()) rfl ⟨bu,ad,rfl,ae.at1.at1⟩)
 rintro z50 jt ⟨c9,af,rfl,ca⟩;try dsimp only at hd
 obtain ⟨fg,c,hd⟩:=bS hd;refine Ai (fun (y:Bool×Unit) w_ g=>∃ψ:AF,Sub c9 ψ∧y.1=g∧St ψ (cW 32 r20 [sv t19.1,sv t19.2.1,sv t19.2.2.1,sv t19.2.2.2.1,sv t19.2.2.2.2.1,sv t19.2.2.2.2.2.1]::Wq0 r1 small_0::F) w_) (g:=fg) ?_ ?_
 ·refine AG c rfl (fun _ c=> ?_) (fun _ c=> ?_)
  ·obtain ⟨ju,fh,c⟩:=bS c;have cb:=((ah.mono (((t.trans o).trans u).trans af))).get fh;obtain ⟨jv,fi,c⟩:=bS c;refine AM (Gj cb (av.mono ((((((((d.trans k).trans l).trans a0).trans n).trans t).trans o).trans u).trans af)) ca fi) ?_;rintro _ jw ⟨jx,t77,ag,rfl,rfl,fj⟩;refine ⟨t77,rfl,?_⟩;obtain ⟨jy,fk,c⟩:=bS c;have cc:=((ai.mono (((o.trans u).trans af).trans ag))).get fk;obtain ⟨jz,fl,c⟩:=bS c;refine AM (Et cc (av.mono (((((((((d.trans k).trans l).trans a0).trans n).trans t).trans o).trans u).trans af).trans ag)) fj fl) ?_;rintro _ k0 ⟨fm,t78,ar,rfl,rfl,cd⟩;refine ⟨t78,rfl,?_⟩;refine AG c rfl (fun _ c=> ?_) (fun _ c=> ?_)
   ·obtain ⟨k1,fn,c⟩:=bS c;refine AM (Kd (cb.mono (ag.trans ar)) cd fn) ?_;rintro _ k2 ⟨k3,t79,k4,ce,rfl,rfl,fo,fp⟩;refine ⟨t79,rfl,?_⟩;obtain ⟨k5,fq,c⟩:=bS c;refine AM (Cj (cc.mono (ar.trans ce)) fp fq) ?_;rintro _ k6 ⟨k7,t80,k8,cf,rfl,rfl,fr,fs⟩;refine ⟨t80,rfl,?_⟩;obtain ⟨k9,ft,c⟩:=bS c;refine AM (Di (fo.mono cf) fr fs ft) ?_;rintro _ ka ⟨fu,t81,fv,rfl,rfl,fw⟩;refine ⟨t81,rfl,?_⟩;obtain rfl:=iS c;exact AP (t81,()) rfl ⟨fu,((((ag.trans ar).trans ce).trans cf).trans fv),rfl,fw.at1.at1⟩
   obtain rfl:=iS c;exact AP (false,()) rfl ⟨fm,(ag.trans ar),rfl,cd.at1.at1⟩
  obtain rfl:=iS c;exact AP (false,()) rfl ⟨c9,(cD _),rfl,ca.at1.at1⟩
 rintro z76 kb ⟨fx,fy,rfl,fz⟩;try dsimp only at hd
 obtain rfl:=iS hd;exact AB ⟨fx,z76.1,(((((((((d.trans k).trans l).trans a0).trans n).trans t).trans o).trans u).trans af).trans fy),rfl,rfl,fz.tail.tail⟩
end
theorem Mb:CB=some true:=by kernel_rfl
theorem Nc (p:RP) (st:Int):N9 p (CX st):=fun n m hl=>by
 have:=Gx st
 omega
theorem Lp {p:RP}{L M:Int}{n:Nat}(h1:(stM p n).1.length≤n) (h2:Fit L M (stM p n).1) (m:Nat):Fit L M (stM p m).1:=by
 rcases Nat.le_total n m with q | q
 ·rw [LP h1 q];exact h2
 ·obtain ⟨l,hl⟩:=NL p q;rw [hl]at h2;exact h2.of_app
theorem O0 {nt nl:Nat}{p:RP}(H:Pl nt nl p):SyB p:=by
 have hT:=H.terms.len;have hn:=H.nt5;have hv:=H.vars;obtain ⟨st,s1,s2,s3⟩:=H.first;refine ⟨by omega,fun r hm s hs=> ?_⟩;obtain ⟨k,hk⟩:=bR hm;rcases bX k with rfl | h
 ·rw [s3]at hk;cases hk
  have:s=st:=by simpa using hs
  omega
 ·have:=(H.rules k r h hk).right s hs
  omega
theorem Kh (l m:List Int) (h:l.length≤9223372036854775807):BZ l m=some (decide (l=m)):=by
 refine dE ?_;unfold BZ;refine AX (fun hc=>AC ?_) fun hc=> ?_
 ·have:l≠m:=fun e=>by subst e;simp at hc
  exact (decide_eq_false this).symm
 have hl:(l.length:Int)=(m.length:Int):=by simpa using hc
 refine Gm (fun i _=>∀j:Nat,j<i→l[j]? =m[j]?) (fun b=>b=decide (l=m)) h (fun j hj=>by omega) (fun i _ hi hI=> ?_) (fun _ hI=>AC ?_) fun b hb=>AC hb
 ·have h1:=bM hi;have h2:=bM (show i<m.length by omega);refine AY h1 (AY h2 (AX (fun hc=>A7 ?_) fun hc=>Bi ?_))
  ·refine (decide_eq_false fun e=> ?_).symm;subst e;simp at hc
  ·intro j hj;rcases Nat.lt_succ_iff_lt_or_eq.1 hj with g | rfl
   ·exact hI j g
   ·rw [h1,h2];have hc:l[j] =m[j]:=by simpa using hc
    rw [hc]
 ·refine (decide_eq_true (cY fun j=> ?_)).symm;rcases bW j l.length with g | g
  ·exact hI j g
  ·rw [bP g,bP (by omega)]
set_option maxHeartbeats 4000000 in
theorem Nd {s:Ib}(G:SmG s) (most items n:Int) {seq:List Int}(hq:seq.length≤9223372036854775807):Bd s most items n seq=some true:=by
 refine dE ?_;unfold Bd;refine AK Mb (AL (Oj G 12 5) fun b hb=> ?_);refine AL (Q:=fun c=>c=false→b=true∧seq.length≤10) (AX (fun _=>AC (by simp)) fun h=>AC fun h'=>⟨by simpa using h,by have:=of_decide_eq_false h';omega⟩) fun c hc=>AX (fun _=>AC rfl) fun h=> ?_;obtain ⟨hb1,hq10⟩:=hc h;refine AL (N3 G (hb hb1).up) fun p ⟨nt,nl,hp⟩=> ?_;have V:=hp.vp;have hpos:=hp.pos;have hs:=Gx most;refine AL (NQ V hpos (st:=most) (it:=items) (Nc p most)) fun r hr=>AL (MX V (O0 hp) hpos most items) fun ro hro=> ?_;rcases hr with ⟨m,h1,h2,rfl⟩|⟨rfl,m,h2⟩
 rotate_left
 ·rcases hro with ⟨m',g1,g2,rfl⟩|⟨rfl,_⟩
  ·exact absurd (Lp g1 g2 m) h2
  ·refine AL (Q:=fun c=>c=true) (A4 rfl (AC rfl)) fun c hc=> ?_;subst hc;exact A4 rfl (AL (Q:=fun c=>c=true) (A4 rfl (A4 rfl (A4 rfl (AC rfl)))) fun c hc=>AC hc)
 rcases hro with ⟨m',g1,g2,rfl⟩|⟨rfl,m',g2⟩
 rotate_left
 ·exact absurd (Lp h1 h2 m') g2
 have e:stM p m'=stM p m:=by
  rcases Nat.le_total m m' with q | q
  ·exact LP h1 q
  ·exact (LP g1 q).symm
 rw [e];have H:=Ou V hpos h1;have hF:=h2.1;show Ok _ _;refine AL (Q:=fun c=>c=false) (AU rfl (AC rfl)) fun c hc=> ?_;subst hc;refine AU rfl ?_;obtain ⟨B,hBe⟩:∃B,(stM p m).1=B:=⟨_,rfl⟩;obtain ⟨E,hEe⟩:∃E,(stM p m).2=E:=⟨_,rfl⟩;have hA:LQ p m=Eu p B E ((tot B:Nat):Int):=by unfold LQ;rw [hBe,hEe]
 rw [hA];rw [hBe]at hF;rw [hBe,hEe]at H ⊢;have hB:B.length≤1099512000000:=by omega
 have hK:(mkW p (yOf B E)).2.2.2.2.2.2.1.length=B.length:=by show (B.map (·.1)).length=_;rw [bQ]
 have hoff:∀n:Int,Off B n→Ax (Eu p B E ((tot B:Nat):Int)) n=some [] ∧BB (Eu p B E ((tot B:Nat):Int)) n=some []:=fun n hn=>by
  have no:∀ {j:Nat} {b:dtK},n=(j:Int)→B[j]? =some b→False:=fun e h=>by
   have:=(List.getElem?_eq_some_iff.1 h).1
   unfold Off at hn;omega
  obtain ⟨x,h1,h2⟩:=Jx (t:=((tot B:Nat):Int)) H n;rcases h2 with ⟨j,b,e,hj,hb,_⟩|⟨_,rfl⟩
  ·exact (no hj hb).elim
  ·unfold Ax BB;rw [h1];exact ⟨rfl,rfl⟩
 refine AL (Q:=fun c=>c=false) (AU rfl (AK rfl (AK rfl (AK (Ov H) (AU (by rw [hK];simp) ?_))))) fun c hc=> ?_
 ·refine AK (x:=((tot B:Nat):Int)) rfl (AU (by show (((tot B:Nat):Int) !=((tot B:Nat):Int))=false;simp) ?_);refine AK (ON V H n 3) (AK (OM V H n 3) (AU (by simp) ?_));refine AK (hoff (-1) (.inl (by omega))).1 (AU rfl ?_);rw [hK];exact AK (hoff _ (.inr (dL _))).2 (AC rfl)
 subst hc;refine AU rfl<|CG (fun z=>∃i:Nat,z=(i:Int)∧i≤B.length) (fun z=>B.length - z.toNat) (fun r=>r= .next ()) ⟨0,rfl,cN _⟩ (fun z hz=> ?_) fun r hr=> ?_
 ·obtain ⟨i,rfl,hi⟩:=hz;refine AK rfl ?_;rw [hK];rcases bW i B.length with hlt | hge
  ·have hb:=bM hlt;obtain ⟨b,hbe⟩:∃b,B[i] =b:=⟨_,rfl⟩;rw [hbe]at hb;obtain ⟨e,he⟩:=H.edge hb;obtain ⟨_,_,_,hl1,hl2⟩:=H.good V hb;have hel:=H.edges_len V hb he;refine A4 (decide_eq_true (by omega)) (AL (Q:=fun c=>c=false) ?_ fun c hc=> ?_)
   ·refine AY (x:=b.1) (by show (B.map (·.1))[i]? =_;rw [cB,hb];rfl) (AK rfl (AK (MY V H hb) (AK (Gy _ _ (by omega)) (AU (by simp) ?_))));refine AY (x:=b.2.1) (by show (B.map (·.2.1))[i]? =_;rw [cB,hb];rfl) (AK (NW V H hb) (AK (Gy _ _ (by omega)) (AU (by simp) ?_)));refine AY (x:=e) he (AK (NX V H hb he) (AK (MS _ _ (by omega)) (AU (by simp) ?_)));refine AL (Na H hB (i:Int)) fun l hl=>AL (Nb H hB (i:Int)) fun l' hl'=> ?_
    have:l=l':=hl.unique hl'
    subst this;exact AK (Kh l l (by have:=hl.1;omega)) (AC (by simp))
   ·subst hc;refine AU rfl (Bi ?_);rw [w64 (n:=(i:Int)+1) (by omega) (by omega)];exact ⟨⟨i+1,by omega,hlt⟩,by omega⟩
  ·exact AU (decide_eq_false (by omega)) (A7 rfl)
 ·subst hr;refine AL (Q:=fun c=>c=true) (A4 rfl (AK rfl (AL (Oy V H n hq) fun x hx=>AK rfl (AL (Oz V H n (by omega)) fun y hy=>A4 (by rw [hx,hy];simp) ?_)))) fun c hc=>AC hc;refine AL (Na H hB n) fun l hl=>AL (Nb H hB n) fun l' hl'=> ?_
  have:l=l':=hl.unique hl'
  subst this;exact AK (Kh l l (by have:=hl.1;omega)) (AC (by simp))
end Go.Proofs.YteoafgapjneblaaGreatDoor
namespace Go.Eng
open Go Go.RowKit
def DZ (P:Program) (h:AE):Nat→TypeId→List Value→Prop
 | 0,_,_=>False
 |n+1,t,cs=>match P.underlying t with
  |some .bool=>∃b,cs= [.bool b]
  |some (.int k)=>∃x,cs= [.int k x] ∧(Lit.int k x).wf=true
  |some .string=>∃s,cs= [.string s] ∧s.size≤maxLen
  |some (.slice e)=>∃p len cap,cs= [.slice p len cap] ∧len≤cap∧cap≤maxLen∧(p=none→len=0∧cap=0)∧
   ∀i,i<len→ ∃cs',cs'.length=P.cellsOf e∧(∀j v,cs'[j]? =some v→ ∃a,p=some a∧B4 h (a.add (i *P.cellsOf e+j))=some v)∧DZ P h n e cs'
  |some (.struct fs)=>cs.length=P.cellsOf t∧ ∀f∈fs.toList,DZ P h n f.type ((cs.drop f.offset).take (P.cellsOf f.type))
  |_=>True
theorem JA {α β:Type}{f:α→Option β}:∀ {l:List α}{r:List β},l.mapM f=some r→ ∀a∈l,∃b,f a=some b:=by
 intro l
 induction l with
 |nil=>intro r _ a ha;cases ha
 |cons x l ih=>
  intro r h a ha;rw [List.mapM_cons]at h;cases hx:f x with
  |none=>simp [hx]at h
  |some b=>
   cases hl:l.mapM f with
   |none=>simp [hx,hl]at h
   |some bs=>
    rcases List.mem_cons.1 ha with rfl | ha
    ·exact ⟨b,hx⟩
    ·exact ih hl a ha
theorem JB {H:Type}{enc:TypeId×Value→H}{P:Program}{w:World}{base:Nat}{spare:Nat→Bool}{CX:Bool}:∀(fuel:Nat) (t:TypeId) (cs:List Value) (x:DataW H×List MemPlace),
 DataW.trod enc P w base spare CX fuel t cs=some x→DZ P w.heap fuel t cs:=by
 intro fuel
 induction fuel with
 |zero=>intro t cs x h;simp [DataW.trod]at h
 |succ n ih=>
  intro t cs x h;have h0:=h;rw [DataW.trod_step]at h;unfold DataW.trodStep at h;unfold DZ
  split<;>rename_i hd<;>try trivial
  ·rw [hd]at h;split at h<;>first | cases h | skip
   all_goals rename_i h1;first | cases h1 | skip
   all_goals first | exact ⟨_,rfl⟩|skip
  ·rw [hd]at h;split at h<;>first | cases h | skip
   all_goals rename_i h1;first | cases h1 | skip
   split at h
   ·rename_i hk;obtain ⟨rfl,hw⟩:=hk;exact ⟨_,rfl,hw⟩
   ·cases h
  ·rw [hd]at h;split at h<;>first | cases h | skip
   all_goals rename_i h1;first | cases h1 | skip
   split at h
   ·rename_i hs;exact ⟨_,rfl,hs⟩
   ·cases h
  ·rename_i e
   rcases DataW.trod_slice hd h0 with ⟨rfl,_⟩|⟨a,len,cap,elems,rest,m,hm,rfl,_,_,hl,hc,hlen,hel,_⟩
   ·exact ⟨none,0,0,rfl,cP _,cN _,fun _=>⟨rfl,rfl⟩,fun i hi=>by omega⟩
   ·cases hm;refine ⟨some a,len,cap,rfl,hl,hc,(fun h=>by cases h),fun i hi=> ?_⟩;have h2:=hel i hi;rw [bM (by omega),Option.bind_eq_some_iff]at h2;obtain ⟨cs',h3,h4⟩:=h2;obtain ⟨_,h5,h6⟩:=World.cells?_some h3;refine ⟨cs',h5,fun j v hj=>⟨a,rfl,?_⟩,ih _ _ _ h4⟩;have hjl:j<P.cellsOf e:=by
     rcases bW j cs'.length with g | g
     ·omega
     ·rw [bP g]at hj;cases hj
    have:=h6 j hjl
    rw [hj,Ac]at this;exact this
  ·rename_i fs
   rw [hd]at h;dsimp only at h;by_cases hlen:cs.length=P.cellsOf t
   ·rw [if_pos hlen,Option.map_eq_some_iff]at h;obtain ⟨xs,h2,_⟩:=h;refine ⟨hlen,fun f hf=> ?_⟩;obtain ⟨y,hy⟩:=JA h2 f hf;exact ih _ _ _ hy
   ·rw [if_neg hlen]at h;cases h
theorem reads_of_Trod {H:Type}{enc:TypeId×Value→H}{P:Program}{w:World}{base:Nat}{spare:Nat→Bool}{CX:Bool}{t:TypeId}{v:Value}{d:DataW H}{ps:List MemPlace}
 (h:DataW.Trod enc P w base spare CX t v d ps):∃n,DZ P w.heap n t v.cells.toList:=by
 obtain ⟨fuel,hf⟩:=h;exact ⟨fuel,JB fuel t _ _ hf⟩
def Nf (h:AE) (v:Value) (h':AE):Prop:=v= .bool true∧F0 [] h h'
theorem law_walk {P:Program}{f:FuncId}{args:Array Value}{w:World}(H:CallsH P f args.toList w.heap (BL (Nf w.heap))):
 Calls P f args w fun e w'=>e= .returned (.bool true)∧Below w.heap.size w w':=by
 have:=H w rfl
 rw [Array.toArray_toList]at this;refine this.mono fun e w' he=> ?_;obtain ⟨hs,he⟩:=he;cases e with
 |returned v=>
  obtain ⟨v',hv,rfl,hk⟩:=he;cases hv;exact ⟨rfl,hs.os,hs.tape,hs.output,hk.1,fun k hk'=>hk.2 k hk' (by simp)⟩
 |panicked c=>obtain ⟨v',hv,_⟩:=he;cases hv
 |outgrown=>exact he.elim
section
variable {P:Program}{h:AE}
theorem H9 {n:Nat}{t:TypeId}{k:IntKind}{cs:List Value}(ht:P.underlying t=some (.int k)) (H:DZ P h n t cs):∃x,cs= [.int k x] ∧(Lit.int k x).wf=true:=by
 cases n with
 |zero=>exact H.elim
 |succ n=>unfold DZ at H;rw [ht]at H;exact H
theorem Ki {n:Nat}{t e:TypeId}{cs:List Value}(ht:P.underlying t=some (.slice e)) (H:DZ P h n t cs):
 ∃m p len cap,cs= [.slice p len cap] ∧len≤cap∧cap≤maxLen∧(p=none→len=0∧cap=0)∧
  ∀i,i<len→ ∃cs',cs'.length=P.cellsOf e∧(∀j v,cs'[j]? =some v→ ∃a,p=some a∧B4 h (a.add (i *P.cellsOf e+j))=some v)∧DZ P h m e cs':=by
 cases n with
 |zero=>exact H.elim
 |succ n=>
  unfold DZ at H;rw [ht]at H;obtain ⟨p,len,cap,h1,h2⟩:=H;exact ⟨n,p,len,cap,h1,h2⟩
theorem Kj {α:Type}{p:Nat→α→Prop}:∀(n:Nat),(∀i,i<n→ ∃x,p i x)→ ∃l:List α,l.length=n∧ ∀i x,l[i]? =some x→p i x:=by
 intro n
 induction n with
 |zero=>intro _;exact ⟨[],rfl,fun i x hx=>by simp at hx⟩
 |succ n ih=>
  intro H;obtain ⟨l,hl,hp⟩:=ih fun i hi=>H i (by omega);obtain ⟨x,hx⟩:=H n (by omega);refine ⟨l++ [x],by simp [hl],fun i y hy=> ?_⟩;rcases Nat.lt_trichotomy i l.length with g | g | g
  ·rw [bV g]at hy;exact hp i y hy
  ·subst g;simp at hy;subst hy;rw [hl];exact hx
  ·rw [bP (by simp;omega)]at hy;cases hy
end
end Go.Eng
namespace Go.Eng
open Go
def ReadsTo {α:Type}(P:Program) (h:AE) (t:TypeId) (r:Ro α) (G:α→Prop):Prop:= ∀n cs,DZ P h n t cs→ ∃x,r.is (BX h) cs x∧G x
theorem E8 {P:Program}{h:AE}{t:TypeId}{k:IntKind}(ht:P.underlying t=some (.int k)):ReadsTo P h t (bT k) fun x=>(Lit.int k x).wf=true:=fun n cs H=>by
 obtain ⟨x,rfl,hx⟩:=H9 ht H;exact ⟨x,rfl,hx⟩
theorem C6 {α:Type}{P:Program}{h:AE}{t e:TypeId}{r:Ro α}{G:α→Prop}(ht:P.underlying t=some (.slice e)) (hc:P.cellsOf e=r.sz) (he:ReadsTo P h e r G):
 ReadsTo P h t (cC r) fun l=>l.length≤maxLen∧ ∀x∈l,G x:=fun n cs H=>by
 obtain ⟨m,p,len,cap,rfl,h1,h2,h3,h4⟩:=Ki ht H;obtain ⟨l,hl,hp⟩:=Kj (p:=fun i (x:List Value×α)=>r.is (BX h) x.1 x.2∧G x.2∧ ∀j v,x.1[j]? =some v→ ∃a,p=some a∧B4 h (a.add (i *r.sz+j))=some v) len (fun i hi=>by
  obtain ⟨cs',g1,g2,g3⟩:=h4 i hi;obtain ⟨x,hx,hG⟩:=he m cs' g3;exact ⟨(cs',x),hx,hG,fun j v hv=>by have:=g2 j v hv;rw [hc]at this;exact this⟩)
 have key:∀k,k≤len→ ∃vs,r.All (BX h) vs ((l.take k).map (·.2))∧vs.length=k *r.sz∧EC (BX h) p vs:=fun k=>by
  induction k with
  |zero=>intro _;exact ⟨[],.nil,by simp,fun i v hv=>by simp at hv⟩
  |succ k ih=>
   intro hk;obtain ⟨vs,a1,a2,a3⟩:=ih (by omega);have hkl:k<l.length:=by omega
   obtain ⟨b1,b2,b3⟩:=hp k l[k] (bM hkl);refine ⟨vs++l[k].1,?_,by rw [bY,a2,r.len b1,Nat.add_mul,Nat.one_mul],fun i v hv=> ?_⟩
   ·rw [dU,bM hkl,dI];exact a1.append (.one b1)
   ·rcases bW i vs.length with g | g
    ·rw [bV g]at hv;exact a3 i v hv
    ·rw [List.getElem?_append_right g]at hv;obtain ⟨a,ha,hcell⟩:=b3 _ v hv;refine ⟨a,ha,?_⟩;rw [HE,show i=k *r.sz+(i - vs.length) by omega];exact hcell
 obtain ⟨vs,a1,a2,a3⟩:=key len (cP _);rw [dB (by omega)]at a1;refine ⟨l.map (·.2),⟨(p,len,cap),rfl,by simp [hl],h1,h2,fun hp0=> ?_,vs,a1,a3⟩,by simp;omega,fun x hx=> ?_⟩
 ·have:=(h3 hp0).1
  have:l= []:=cU (by omega)
  rw [this];rfl
 ·obtain ⟨y,hy,rfl⟩:=List.mem_map.1 hx;obtain ⟨i,hi⟩:=bR hy;exact (hp i y hi).2.1
theorem Kk {α:Type}{P:Program}{h:AE}{t:TypeId}{r:Ro α}{G:List α→Prop}(H:ReadsTo P h t (cC r) G) {n:Nat}{p:Option Addr}{len cap:Nat}(hr:DZ P h n t [.slice p len cap]):∃l,Ro.SliceIs r (BX h) (p,len,cap) l∧G l:=by
 obtain ⟨l,⟨⟨p',n',c'⟩,e,hs⟩,hG⟩:=H n _ hr;simp only [List.cons.injEq,Value.slice.injEq,and_true]at e;obtain ⟨rfl,rfl,rfl⟩:=e;exact ⟨l,hs,hG⟩
theorem St.start (h:AE):St (BX h) [] h:=cD _
theorem Ng {P:Program}{f:FuncId}{args:List Value}{h:AE}
 (H:CallsH P f args h (BL fun v h'=>∃ψ:AF,∃y:Bool,Sub (BX h) ψ∧v=((.one (.atom .bool)):Sh).val y∧y=true∧St ψ [] h')):CallsH P f args h (BL (Nf h)):=by
 refine H.mono fun e h' he=> ?_;obtain ⟨v,hv,ψ,y,hs,hv2,hy,s1⟩:=he;subst hy;refine ⟨v,hv,hv2,?_⟩;have hs':=hs.trans s1.sub;refine ⟨?_,fun i hi _=> ?_⟩
 ·rcases bW h'.size h.size with g | g
  ·have h1:BX h h'.size=some h[h'.size]:=cL g
   have:=A8 (hs' _ _ h1)
   omega
  ·exact g
 ·have h1:BX h i=some h[i]:=cL hi;have h2:h'[i]? =some h[i]:=hs' _ _ h1;rw [h2,cL hi]
end Go.Eng
namespace Go.Proofs.YteoafgapjneblaaGreatDoor
open Go Go.Eng
set_option linter.unusedVariables false
set_option maxRecDepth 100000
theorem glob_of {W:World}(hL:laidMetH bZ Rows.statesTellRow.laid W):IM (BX W.heap):=by
 rw [MakeChecks.laidMetH_plain _ _ _ (by kernel_rfl)] at hL;have h1:laidMet Tryz.prog (("internal/strconv.uint64pow10",Lib.tabData .u64 Lib.pow10Tab):: []) W:=hL.tail.tail;have hg:Tryz.prog.globalNamed "internal/strconv.uint64pow10" =some 0:=by kernel_rfl
 have h2:=Lib.tabIs_of_head hg (by kernel_rfl) Tryz.underlying159 Tryz.underlying126 (by kernel_rfl) (by kernel_rfl) h1;unfold Lib.TabIs World.var? at h2;rw [hg,bO]at h2;cases hb:W.heap[0]? with
 |none=>rw [hb]at h2;cases h2
 |some o=>
  rw [hb]at h2;cases o with
  |cells cs t f=>cases h2;exact ⟨0,t,f,hg,hb⟩
  |_=>cases h2
theorem wf8 {x:Int}(h:(Lit.int .u8 x).wf=true):0≤x∧x<256:=by
 simp only [Lit.wf,Bool.and_eq_true,decide_eq_true_eq]at h;have e1:IntKind.min .u8=0:=rfl;have e2:IntKind.max .u8=255:=rfl;omega
theorem PR {α:Type}{cs:List α}(h:cs.length=7):∃a b c d e f g,cs= [a,b,c,d,e,f,g]:=by
 match cs,h with
 | [a,b,c,d,e,f,g],_=>exact ⟨a,b,c,d,e,f,g,rfl⟩
section
variable {h:AE}
theorem Gz {n:Nat}{cs:List Value}(hr:DZ bZ h n 22 cs):∃(t:Slc) (l:List Int),cs= [.slice t.1 t.2.1 t.2.2] ∧Ro.SliceIs (bT .u8) (BX h) t l∧l.length≤9223372036854775807∧ ∀x∈l,0≤x∧x<256:=by
 obtain ⟨l,⟨t,e,hs⟩,h1,h2⟩:=(C6 dA (by kernel_rfl) (E8 cK)) n cs hr;exact ⟨t,l,e,hs,h1,fun x hx=>wf8 (h2 x hx)⟩
theorem PH {n:Nat}{p:Option Addr}{len cap:Nat}(hr:DZ bZ h n 22 [.slice p len cap]):∃l,Ro.SliceIs (bT .u8) (BX h) (p,len,cap) l∧ ∀x∈l,0≤x∧x<256:=by
 obtain ⟨l,h1,_,h2⟩:=Kk (C6 dA (by kernel_rfl) (E8 cK)) hr;exact ⟨l,h1,fun x hx=>wf8 (h2 x hx)⟩
theorem Nh {n:Nat}{cs:List Value}(hr:DZ bZ h n 23 cs):∃(t:Slc) (l:List (List Int)),cs= [.slice t.1 t.2.1 t.2.2] ∧Ro.SliceIs (cC (bT .u8)) (BX h) t l∧l.length≤9223372036854775807∧ ∀r∈l,r.length≤9223372036854775807∧ ∀x∈r,0≤x∧x<256:=by
 obtain ⟨l,⟨t,e,hs⟩,h1,h2⟩:=(C6 Tryz.underlying23 (by kernel_rfl) (C6 dA (by kernel_rfl) (E8 cK))) n cs hr;exact ⟨t,l,e,hs,h1,fun r hr=>⟨(h2 r hr).1,fun x hx=>wf8 ((h2 r hr).2 x hx)⟩⟩
theorem Ni {n:Nat}{cs:List Value}(H:DZ bZ h n 25 cs):∃(x:Int×Int×Slc×Slc×Slc×Slc×Slc×Unit) (d2:List Int) (d3:List (List Int)) (d4 d5 d6:List Int),
 cs= [.int .u8 x.1,.int .u8 x.2.1,sv x.2.2.1,sv x.2.2.2.1,sv x.2.2.2.2.1,sv x.2.2.2.2.2.1,sv x.2.2.2.2.2.2.1] ∧Ro.SliceIs (bT .u8) (BX h) x.2.2.1 d2∧Ro.SliceIs (cC (bT .u8)) (BX h) x.2.2.2.1 d3∧
 Ro.SliceIs (bT .u8) (BX h) x.2.2.2.2.1 d4∧Ro.SliceIs (bT .u8) (BX h) x.2.2.2.2.2.1 d5∧Ro.SliceIs (bT .u8) (BX h) x.2.2.2.2.2.2.1 d6∧SmG (x.1,x.2.1,d2,d3,d4,d5,d6):=by
 cases n with
 |zero=>exact H.elim
 |succ n=>
  unfold DZ at H;rw [Tryz.underlying25]at H;obtain ⟨hlen,hf⟩:=H;have hlen:cs.length=7:=hlen.trans (by kernel_rfl);obtain ⟨a,b,c,d,e,f,g,rfl⟩:=PR hlen;have e1:Tryz.prog.cellsOf 5=1:=by kernel_rfl
  have e2:Tryz.prog.cellsOf 22=1:=by kernel_rfl
  have e3:Tryz.prog.cellsOf 23=1:=by kernel_rfl
  have f0:=hf _ (.head _);have f1:=hf _ (.tail _ (.head _));have f2:=hf _ (.tail _ (.tail _ (.head _)));have f3:=hf _ (.tail _ (.tail _ (.tail _ (.head _))));have f4:=hf _ (.tail _ (.tail _ (.tail _ (.tail _ (.head _)))));have f5:=hf _ (.tail _ (.tail _ (.tail _ (.tail _ (.tail _ (.head _))))));have f6:=hf _ (.tail _ (.tail _ (.tail _ (.tail _ (.tail _ (.tail _ (.head _)))))));dsimp only at f0 f1 f2 f3 f4 f5 f6;rw [e1]at f0 f1;rw [e2]at f2 f4 f5 f6;rw [e3]at f3;obtain ⟨x0,h0,w0⟩:=H9 cK f0;obtain ⟨x1,h1,w1⟩:=H9 cK f1;obtain ⟨t2,l2,h2,s2,n2,w2⟩:=Gz f2;obtain ⟨t3,l3,h3,s3,n3,w3⟩:=Nh f3;obtain ⟨t4,l4,h4,s4,n4,w4⟩:=Gz f4;obtain ⟨t5,l5,h5,s5,n5,w5⟩:=Gz f5;obtain ⟨t6,l6,h6,s6,n6,w6⟩:=Gz f6;have h0: [a] =_:=h0;have h1: [b] =_:=h1;have h2: [c] =_:=h2;have h3: [d] =_:=h3;have h4: [e] =_:=h4;have h5: [f] =_:=h5;have h6: [g] =_:=h6;simp only [List.cons.injEq,and_true]at h0 h1 h2 h3 h4 h5 h6;exact ⟨(x0,x1,t2,t3,t4,t5,t6,()),l2,l3,l4,l5,l6,by rw [h0,h1,h2,h3,h4,h5,h6],s2,s3,s4,s5,s6,⟨wf8 w0,wf8 w1,⟨n2,w2⟩,⟨n3,w3⟩,⟨n4,w4⟩,⟨n5,w5⟩,⟨n6,w6⟩⟩⟩
theorem statesTell {n m:Nat}{cs:List Value}{x y z:Int}{q:Option Addr}{len cap:Nat}(gk:IM (BX h)) (hr:DZ bZ h n 25 cs) (hq:DZ bZ h m 26 [.slice q len cap]):
 CallsH bZ 3 [.agg cs.toArray,.int .i64 x,.int .i64 y,.int .i64 z,.slice q len cap] h (BL (Nf h)):=by
 obtain ⟨s,d2,d3,d4,d5,d6,rfl,h2,h3,h4,h5,h6,G⟩:=Ni hr;obtain ⟨l,h7,h8,_⟩:=Kk (C6 cZ (by kernel_rfl) (E8 Tryz.underlying3)) hq;exact Ng (EY (small_0:=s) gk h2 h3 h4 h5 h6 h7 (St.start h) (Nd G x y z h8))
end
end Go.Proofs.YteoafgapjneblaaGreatDoor
