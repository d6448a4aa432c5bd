/- The parts DgList to DgTarjanB, put together. Conditions: each tells its own. -/
import Derived.Test.YtfnppeejaimnbaaGreatDoorKt2
import Derived.Shelf.GgClosure.Gives
import Derived.KernelRfl
import Derived.Test.YtfnppeejaimnbaaGreatDoorProg
import Derived.Shelf.Strconv.AppendIntPublic10
import Derived.Lib.ItoaLen
import Derived.Test.YtfnppeejaimnbaaGreatDoorKt1
import Derived.Test.YtfnppeejaimnbaaGreatDoorRows
import Derived.MakeChecks
import Derived.Stop.LaidErr
import Derived.Lib.LaidTab
import Derived.Lib.Walk
import Derived.StillTailTactics
import Derived.Sort.Grow
set_option linter.unusedVariables false
set_option maxRecDepth 100000
set_option maxHeartbeats 4000000
open List renaming getElem?_eq_getElem → bD,mem_of_getElem? → eE,getElem?_eq_some_iff → hM,append_assoc → mE,mem_singleton → nY,getElem?_append_left → nZ,mem_append → oA,getElem?_of_mem → oC,length_cons → oD,getElem_mem → oE,perm_append_comm → oJ,length_append → oK,getElem?_append_right → oM,getElem?_eq_none → oO,length_nil → oQ,mem_append_left → oR,mem_cons → oS,take_of_length_le → oU,length_map → oV,take_succ_eq_append_getElem → oX,perm_middle → pA,take_add_one → pC,nodup_append → pD,length_filter_le → pE,mem_append_right → pF,mem_map → pH,size_toArray → pI,length_set → pJ,pairwise_iff_getElem → pK,cons_append → pM,length_take → pN,eq_nil_of_length_eq_zero → pP,mem_cons_of_mem → pQ,getElem?_set_ne → pR,getElem?_cons_zero → pT,getElem?_set_self → pV,nodup_iff_pairwise_ne → pZ,findIdx?_eq_none_iff → qB,foldl_cons → qC,append_nil → qG,append_toArray → qM,replicate → qN,take_length → qO,getElem?_take → qQ,length_pos_of_mem → qR,map_append → qS,count_cons → qT,take_append_drop → qV,push_toArray → qX,getElem?_set → qY,drop_eq_getElem_cons → qZ,nil_append → rC,foldl_append → rG,mem_range → rJ,filter_cons → rO,mem_of_mem_take → rQ,range → rY,getElem?_map → sB,length → sC,flatMap_cons → sD,mem_filter → sN,contains_iff_mem → sO,getElem?_zipWith → sP,pairwise_append → sR,zipWith_append → sS,flatMap_append → sT,getElem_of_mem → sU,filter_append → tF,pairwise_map → tH,ext_getElem? → tJ,map_map → tM,getElem_take → tQ,not_mem_nil → tR
open Option renaming bind_eq_some_iff → bO,bind_some → oB,getD_some → sG,map → sW,isNone_some → tC
open Go.Proofs.Tryz renaming prog → hC,underlying5 → pX,underlying22 → qL,underlying106 → rE,underlying9 → rL,underlying3 → sF,underlying131 → sX,underlying223 → sY,underlying276 → sZ,underlying273 → tA,underlying110 → tB,underlying177 → tD,underlying105 → tE,func165 → tG,underlying57 → tL,underlying73 → tN
open Go.IntKind renaming wrap → oF
open Go.Eng.Ro renaming SliceIs → oG,int → oL,list → rU,bool → sK,pt → tW,prod → uA
open List.Perm renaming append_right → oH,cons → oI,swap → oZ,append_left → qU,trans → rS,refl → tV
open Int renaming toNat → oN,toNat_natCast → pS,not_lt → rD,lt_or_le → rK,le_refl → tT
open Go.Eng.Rep renaming raw → oP,row → oW,ro → pU
open Nat renaming beq → oT,le_refl → oY,lt_succ_iff_lt_or_eq → pG,lt_or_ge → pO,lt_succ_self → pW,eq_zero_or_pos → pY,strongRecOn → rT,le_trans → rX,lt_trichotomy → tO,sub_self → tP
open Array renaming getElem?_eq_getElem → pB,replicate_succ → qH,replicate_zero → qJ,getElem?_push → rA,getElem?_eq_none → sH
open Go.Eng.Sub renaming refl → pL,trans → rN
open Go.Value renaming int → qD
open Classical renaming propDecidable → qP
open UInt8 renaming ofNat → rF
open Go.Eng.Ro.SliceIs renaming nil → rH
open Bool renaming not_eq_true' → rI,and_eq_true → rM,or_eq_true → sL
open Go.Eng.St renaming cells → rP,get → rR,freezeRow → rV,cell → sE,openR → tY,shutR → tZ,there → uB,nil → uC
open Prod renaming ext → rZ
open Go.Eng.AX renaming done → sI,next → sJ,get → tX
open Go.Eng.Bc renaming int → sQ
open Go.Eng.Ok renaming eq → sV
open Go.World renaming cell? → tS
open Go.Addr renaming add → tU
open Go renaming Value → uD,TypeId → uE,World → uF
open Go.Proofs.Tryz
namespace Go.Proofs.YtfnppeejaimnbaaGreatDoor.Dg
open Go Go.Eng Go.RowKit Go.Shelf
attribute [local go_sem] Oper.semAt_some
section
variable {φ:AD}{h:AH}{F:List Chk}
theorem St.ofOwns{α:Type}{φ:AD}{Γ:List Chk}{w j:uF}{e:uE}{r:Ro α}{v:uD}{l:List α}{vs:List uD}(H:St φ Γ w.heap)(B:Below w.heap.size w j)(F:j.ownsRow w.heap.size e 1 v l.length vs)(G:r.All φ vs l)(h:r.sz=1):
 ∃t:Slc,v= .slice t.1 t.2.1 t.2.2∧St φ (⟨oW e r,[.slice t.1 t.2.1 t.2.2],l⟩::Γ) j.heap:=by
 have C:=H.sub;have n:Sub φ (Bo j.heap):=λk o a=>by
  have D:=C k o a
  have:=BH D
  show j.heap[k]? =some o;rw[B.block k this];exact D
 have I:StX φ w.heap Γ λk=>w.heap.size≤k:=StX.more H λk a=>.inl a;have E:StX φ j.heap Γ λk=>w.heap.size≤k:=StX.heap I (λk a _=>B.block k a) n;obtain⟨M,⟨rfl,J⟩|⟨g,cap,p,rfl,K,c,x,y,z,A⟩⟩:=F
 ·have:l= []:=pP J
  subst this;exact⟨(none,0,0),rfl,uC _ _ (E.less λk a=>a.elim)⟩
 ·refine⟨(some ⟨g,0,none⟩,l.length,cap),rfl,λk=>k=g,⟨some ⟨g,0,none⟩,l.length,cap,vs,rfl,rfl,y,?_,.inr ⟨g,0,p,rfl,c,?_,x,?_,λi u m=>?_⟩,G,λi=>by simp[blk]⟩,λk a=>⟨?_,λq=>q⟩,E.less λk a=>?_⟩
  ·intro b off s q;cases q;exact⟨rfl,λL ty f d=>by rw[c]at d;cases d;rw[h];exact z⟩
  ·rw[h];omega
  ·rw[h];omega
  ·rw[←A,qQ]at m;split at m
   ·rw[Nat.zero_add];simpa using m
   ·cases m
  ·subst a;cases hφ:φ k with
   |none=>rfl
   |some o=>have:=BH (C k o hφ);omega
  ·rcases a with a | a
   ·exact a.elim
   ·subst a;exact K
theorem Tp(n:Nat)(l b:Nat)(p:nG)(cap:Nat)(J:nH→uF→Prop)(W:uF)(c:W.cell? ⟨b,0,none⟩=some (.slice p 0 cap))(d:J [] W):
 CallsIn Fence.wide n hC 165 #[.func (.yield l) #[] #[],.pointer (lF b)] W λe f=>(∃v,e= .returned v)∧J [] f:=by
 refine callsIn_of_wp tG rfl trivial ?_ rfl;simp only[ntmps165,pI,oD,oQ,Nat.reduceAdd,Nat.reduceSub,qH,qJ,qX,qM,rC,pM]
 gi_wp2
 gi_loopw [7] (λi wr=>i= .int .i64 0∧J [] wr) (λ_ _=>0)
 case atStart=>exact⟨rfl,d⟩
 case round=>
  obtain⟨rfl,a⟩:=hrel
  gi_wp2
  go_end0
  exact⟨⟨_,rfl⟩,a⟩
theorem RE(n:Nat)(U:3≤n){w:uF}{d:Nat}{t:Slc}{l:nH}(V:Glob (Bo w.heap))(m:∀x∈l,0≤x∧x<18446744073709551616)(r:l.length≤1000)
 (s:w.cell? ⟨d,0,none⟩=some (.slice t.1 t.2.1 t.2.2)) (O:l.length=t.2.1) (P:Cg w.heap t.1 (l.map (sQ .u64).val)) (F:∀a,t.1=some a→a.spot=none) (g:d<w.heap.size) (G:0<w.heap.size):
 ∃L:List Nat,(∀b∈L,b<w.heap.size∧(b=d∨b=0∨ ∃a,t.1=some a∧b=a.block))∧SeqStopsK Fence.wide n hC 165 #[.pointer (lF d)] cn (KpL L) (λX=>X=EU (l.map oN) l.length) (λH=>H<+:EU (l.map oN) l.length) (EU (l.map oN) l.length).length w:=by
 cases l with
 |nil=>
  refine⟨[],(λb h=>by cases h),λq J Q W z R I S K=>?_⟩;have D:=(z.cell (p:=⟨d,0,none⟩) g).trans s;have Y:t.2.1=0:=O.symm;rw[Y]at D;exact(Tp n q d t.1 t.2.2 J W D K).mono λe W' ⟨Z,i⟩=>⟨Z,.inl ⟨[],rfl,i⟩⟩
 |cons x l=>
  obtain⟨⟨k,off,sp⟩,E,_⟩:=P 0 ((sQ .u64).val x) rfl
  have:sp=none:=F _ E
  subst this;have c:∀j v,(((x::l).map (sQ .u64).val))[j]? =some v→w.cell? ⟨k,off+j,none⟩=some v:=λj v M=>by
   obtain⟨a',A,B⟩:=P j v M;rw[E]at A;cases A;rw[EN]at B;exact B
  have C:k<w.heap.size:=by
   have:=c 0 _ rfl
   unfold tS at this;dsimp only at this;cases ho:w.heap[k]? with
   |none=>rw[ho]at this;cases this
   |some o=>exact BH ho
  refine⟨[d,k,0],λb h=>?_,λq J Q W z R I S K=>?_⟩
  ·simp only[oS,tR,or_false]at h;rcases h with rfl | rfl | rfl
   ·exact⟨g,.inl rfl⟩
   ·exact⟨C,.inr (.inr ⟨_,E,rfl⟩)⟩
   ·exact⟨G,.inr (.inl rfl)⟩
  ·have D:=(z.cell (p:=⟨d,0,none⟩) g).trans s;have N:((x::l).map oN).length=t.2.1:=by rw[oV];exact O
   have f:((x::l).map oN).length=(x::l).length:=oV _;have T:=Zn n U q d k off t.2.2 ((x::l).map oN) (λu hu=>by
    obtain⟨y,hy,rfl⟩:=pH.1 hu
    have:=m y hy
    omega) (by rw[f];exact r) J Q W (KpL.glob (L:=[0]) (KpL.of_below (λb h=>by simp at h;omega) z) nP V) R (by rw[f];exact S) (by rw[N,←E];exact D) (λj i=>by
    rw[f]at i;have M:((x::l).map (sQ .u64).val)[j]? =some (.int .u64 (x::l)[j]):=by
     rw[sB,bD i];rfl
    have h3:=(z.cell (p:=⟨k,off+j,none⟩) C).trans (c j _ M);have h4:=m _ (oE i);have h5:((((x::l).map oN)[j]?.getD 0:Nat):Int)=(x::l)[j]:=by
     rw[sB,bD i];show(((x::l)[j].toNat:Nat):Int)=_;omega
    rw[h5];exact h3) K
   rw[f]at T;exact T
def Kc(s:Ae):Option nH:=if s.2.length≤1000∧ ∀x∈s.2,0≤x∧x<18446744073709551616 then some (EU (s.2.map oN) s.2.length) else none
theorem YB(w:Nat):(Gu w).length≤64:=by
 unfold Gu
 have:=pE w.testBit (rY 64)
 simpa using this
theorem Sj(a:List Nat)(k:Nat):(EU a k).length≤64 *k:=by
 induction k with
 |zero=>exact oY _
 |succ k b=>
  rw[Hq,oK,oV]
  have:=YB (a[k]?.getD 0)
  omega
abbrev Bi(p:nG)(x:Ae):Chk:=⟨Rep.obj 226 (Rep.prod (pU (oL .i64)) (oW 223 (oL .u64))),[.pointer p],x⟩
theorem Uw{p:nG}{s:Ae}(A:St φ (Bi p s::F) h)(B:s.2.length≤1073741824):nX hC 134 [.pointer p] h
 (An λv C=>∃ψ:AD,∃r:Nat,∃y:Slc,Sub φ ψ∧v= .func (.func 165) #[] #[.pointer (lF r)] ∧St ψ (⟨oP 224,[.pointer (lF r)],[.slice y.1 y.2.1 y.2.2]⟩::⟨oW 223 (oL .u64),[.slice y.1 y.2.1 y.2.2],s.2⟩::Bi p s::F) C):=by
 refine A9 mixed func134 ?_;rw[Mp];unfold IT;obtain⟨e,D,w,E,G⟩:=A.open;obtain rfl:p=some ⟨e,0,none⟩:=by simpa using w
 clear w;have H:=G.at1;obtain⟨J,K,rfl,z,f⟩:=H.pair;obtain⟨g,c⟩:=f.ro;subst g;obtain⟨a,i⟩:=c.rowCs;subst i;have d:St φ (⟨oW 223 (oL .u64),[.slice a.1 a.2.1 a.2.2],s.2⟩::⟨oP 226,[.pointer (lF e)],[.int .i64 s.1,.slice a.1 a.2.1 a.2.2]⟩::F) _:=c;refine AI _ rfl<|AA (b:=e) (j:=1) (x:=a) d.at1 rfl<|AK (clone53_own d (r:=s.2) (by unfold cloneD;rw[mZ B])) ?_;rintro _ L ⟨ψ,y,M,k,rfl,rfl,l⟩;refine⟨y,rfl,AU (vs:=[.slice none 0 0]) l ?_⟩;intro r N m;refine Cr (b:=r) (j:=0) (v:=.slice y.1 y.2.1 y.2.2) m rfl nQ ?_;intro I n;have o:=n.at 2;have q:=St.unro (r:=(oL .i64)) (cs:=[.int .i64 s.1]) (x:=s.1) o rfl;have t:=St.unpair q;have u:St ψ (Bi (lF e) (s.1,s.2)::⟨oP 224,[.pointer (lF r)],[.slice y.1 y.2.1 y.2.2]⟩::⟨oW 223 (oL .u64),[.slice y.1 y.2.1 y.2.2],s.2⟩::F) I:=St.shut (t.at 3);exact AC ⟨ψ,r,y,k,rfl,(u.at 2).at 2⟩
theorem Ux{k:IntKind}{ty:uE}{t:Slc}{l:nH}(s:St φ (⟨oW ty (oL k),[.slice t.1 t.2.1 t.2.2],l⟩::F) h):∀a,t.1=some a→a.spot=none:=by
 intro a g;obtain⟨F,⟨p,n,c,vs,e,m,o,i,j,f,q⟩,r,H⟩:=s;simp only[List.cons.injEq,Value.slice.injEq,and_true]at e;rw[g]at e;rcases j with⟨d,_⟩|⟨b,off,arr,d,_⟩
 ·rw[d]at e;cases e.1
 ·rw[d]at e;cases e.1;rfl
theorem Zo{p:nG}{s:Ae}(G:Glob φ)(H:St φ (Bi p s::F) h){r:nH}(hd:Kc s=some r):nX hC 101 [.pointer p] h
 (An λv x=>∃ψ:AD,∃y:Slc,∃E:nH,Sub φ ψ∧v=lS.val y∧E=r∧St ψ (⟨oW 3 (oL .i64),[.slice y.1 y.2.1 y.2.2],E⟩::Bi p s::F) x):=by
 unfold Kc at hd;split at hd
 ·rename_i z
  cases hd;obtain⟨g,A⟩:=z;refine A9 mixed func101 ?_;rw[Mo];unfold IS;refine AK (Uw H nJ) ?_;rintro _ i ⟨ψ,c,y,j,rfl,d⟩;refine⟨some (.func 165,#[],#[.pointer (lF c)]),rfl,?_⟩;have l:=(G.mono j).mono d.sub;have a:Bb i ⟨c,0,none⟩=some (.slice y.1 y.2.1 y.2.2):=d.cell rfl;have B:c<i.size:=by
   unfold Bb E9 tS at a;dsimp only at a;cases ho:i[c]? with
   |none=>rw[ho]at a;cases a
   |some o=>exact BH ho
  have C:0<i.size:=by
   obtain⟨t,f,z⟩:=l;exact BH z
  have m:nX hC 135 [.func (.func 165) #[] #[.pointer (lF c)]] i (An λv x=>∃t:Slc,v=lS.val t∧
   St ψ (⟨oW 3 (oL .i64),[.slice t.1 t.2.1 t.2.2],EU (s.2.map oN) s.2.length⟩::⟨oP 224,[.pointer (lF c)],[.slice y.1 y.2.1 y.2.2]⟩::⟨oW 223 (oL .u64),[.slice y.1 y.2.1 y.2.2],s.2⟩::Bi p s::F) x):=by
   intro w I;subst I;obtain⟨L,J,n⟩:=RE 8 nQ l A g a (d.at 1).rowLen.symm (PZ (d.at 1)) (Ux (d.at 1)) B C;have K:=Sj (s.2.map oN) s.2.length;have M:=callsIn_wide.1 (WB 10 nQ 165 #[.pointer (lF c)] (enters_of tG nU rfl) L (EU (s.2.map oN) s.2.length) _ nJ w (λb N=>(J b N).1) n);refine M.mono ?_;rintro e R ⟨v,rfl,q,_,u⟩;have⟨t,O,D⟩:=St.ofOwns d u q (F8 (k:=.i64) _) rfl;exact⟨⟨u.os,u.tape,u.output,u.size⟩,v,rfl,t,O,D⟩
  refine AK m ?_;rintro _ S ⟨t,rfl,D⟩;refine⟨t,rfl,?_⟩;have P:=(D.at 1).tail;have Q:=(P.at 1).tail;exact AC ⟨ψ,t,_,j,rfl,rfl,Q⟩
 ·cases hd
end
end Go.Proofs.YtfnppeejaimnbaaGreatDoor.Dg
namespace Go.Proofs.YtfnppeejaimnbaaGreatDoor.Dg
open Go Go.Eng
section
variable {φ ψ:AD}{h:AH}
def Tq(c:Chk):Prop:=(∀φ a h F,c.on φ h F→c.on a h F)∧ ∀φ h F,c.on φ h F→ ∀k,F k→ ∃cs ty f,h[k]? =some (.cells cs ty f)
theorem Uy(ty:uE)(b:Nat)(vs:List uD):Tq ⟨oP ty,[.pointer (lF b)],vs⟩:=by refine⟨λφ g h F H=>H,λφ h F H k c=>?_⟩;obtain⟨i,e,d,f⟩:=H;have a:=(f k).1 c;subst a;exact⟨_,_,_,d⟩
theorem co{k:IntKind}{a:AD}{vs:List uD}{l:nH}(h:(oL k).All φ vs l):(oL k).All a vs l:=by rw[Ds h];exact F8 l
theorem YC(p:nG)(s:Ae):Tq (Bi p s):=by
 constructor
 ·rintro φ E h F ⟨b,vs,G,e,f,⟨a,c,A,B,r,g,i,t,j⟩,u,l⟩;refine⟨b,vs,G,e,f,⟨a,c,A,B,r,g,?_,t,j⟩,u,l⟩;obtain⟨q,n,v,us,w,x,y,z,m,C,o⟩:=i;exact⟨q,n,v,us,w,x,y,z,m,co C,o⟩
 ·rintro φ h F ⟨b,vs,G,e,f,⟨a,c,A,B,r,g,i,t,j⟩,u,l⟩ k hk;rcases(l k).1 hk with rfl | hk
  ·exact⟨_,_,_,f⟩
  ·rcases(j k).1 hk with hk | hk
   ·exact nC hk (g.1 k)
   ·obtain⟨q,n,v,us,w,x,y,z,m,C,o⟩:=i;have⟨D,d⟩:=m.ty k ((o k).1 hk);exact⟨_,_,_,d⟩
theorem StX.frame:∀ {Γ Δ:List Chk}{X:GE},StX ψ h (Γ++Δ) X→ ∃Y:GE,(∀k,Y k→ψ k=none∧ ¬X k∧k<h.size)∧StX ψ h Δ (λk=>X k∨Y k)∧
 ∀Δ' (h':AH),Sub ψ (Bo h')→(∀k,Y k→h'[k]? =h[k]?)→StX ψ h' Δ' (λk=>X k∨Y k)→StX ψ h' (Γ++Δ') X:=by
 intro Γ
 induction Γ with
 |nil=>intro Δ X H;exact⟨λ_=>False,λk a=>a.elim,H.less λk a=>a.elim id False.elim,λΔ' h' _ _ H'=>H'.less λk a=>.inl a⟩
 |cons c Γ ih=>
  intro Δ X ⟨F,e,b,H⟩;obtain⟨Y,d,f,j⟩:=ih H;refine⟨λk=>F k∨Y k,λk a=>?_,f.less λk a=>?_,λΔ' h' hs hy H'=>⟨F,c.R.loc (λi l=>hy i (.inl l)) e,b,j Δ' h' hs (λk a=>hy k (.inr a)) (H'.less λk a=>?_)⟩⟩
  ·rcases a with a | a
   ·exact⟨(b k a).1,(b k a).2,c.R.lt e k a⟩
   ·exact⟨(d k a).1,λg=>(d k a).2.1 (.inl g),(d k a).2.2⟩
  ·rcases a with a | a | a
   ·exact .inl (.inl a)
   ·exact .inl (.inr a)
   ·exact .inr a
  ·rcases a with(a | a)|a
   ·exact .inl a
   ·exact .inr (.inl a)
   ·exact .inr (.inr a)
theorem StX.alone:∀ {Δ:List Chk}{X:GE},(∀c∈Δ,Tq c)→StX ψ h Δ X→ ∃Z:GE,(∀k,Z k→ψ k=none∧ ¬X k)∧(∀k,Z k→ ∃cs ty f,h[k]? =some (.cells cs ty f))∧ ∀(φ0:AD) (b:GE),(∀k,Z k→φ0 k=none∧ ¬b k)→Sub φ0 (Bo h)→StX φ0 h Δ b:=by
 intro Δ
 induction Δ with
 |nil=>intro X _ H;exact⟨λ_=>False,λk a=>a.elim,λk a=>a.elim,λφ0 b _ d=>d⟩
 |cons c Δ ih=>
  intro X e ⟨F,l,m,H⟩;obtain⟨Z,i,n,o⟩:=ih (λc p=>e c (by simp[p])) H;refine⟨λk=>F k∨Z k,λk a=>?_,λk a=>a.elim (λg=>(e c nP).2 _ _ _ l k g) (n k),λφ0 b j d=>⟨F,(e c nP).1 _ _ _ _ l,λk a=>j k (.inl a),o φ0 _ (λk a=>⟨(j k (.inr a)).1,λg=>?_⟩) d⟩⟩
  ·rcases a with a | a
   ·exact m k a
   ·exact⟨(i k a).1,λg=>(i k a).2 (.inl g)⟩
  ·rcases g with g | g
   ·exact(j k (.inr a)).2 g
   ·exact(i k a).2 (.inr g)
theorem St.apart{Γ Δ:List Chk}(H:St ψ (Γ++Δ) h)(t:∀c∈Δ,Tq c):∃φ0:AD,(∀k,φ0 k≠none→k<h.size)∧St φ0 Δ h∧Sub ψ φ0∧(∀k o,h[k]? =some o→φ0 k=some o∨ ∃cs ty f,o= .cells cs ty f)∧
 ∀Δ' (h':AH),(∀c∈Δ',Tq c)→St φ0 Δ' h'→St ψ (Γ++Δ') h':=by
 classical
 have q:Sub ψ (Bo h):=H.sub;have⟨Y,r,u,v⟩:=StX.frame H;have⟨Z,i,w,x⟩:=StX.alone t u;have s:∀k,¬Z k→(λk=>if Z k then none else h[k]? :AD) k=h[k]? :=λk b=>nA b;refine⟨λk=>if Z k then none else h[k]?,λk b=>?_,x _ _ (λk b=>⟨mZ b,λg=>g⟩) (λk o a=>?_),λk o a=>?_,λk o a=>?_,λΔ' h' hf' H'=>?_⟩
 ·rcases pO k h.size with g | g
  ·exact g
  ·exfalso;apply b
   show(if Z k then none else h[k]?)=none;split
   ·rfl
   ·exact sH g
 ·have a:(if Z k then none else h[k]?)=some o:=a;split at a
  ·cases a
  ·exact a
 ·show(if Z k then none else h[k]?)=some o;rw[nA]
  ·exact q k o a
  ·intro d;rw[(i k d).1]at a;cases a
 ·by_cases d:Z k
  ·have⟨cs,ty,f,e⟩:=w k d;rw[a]at e;exact .inr ⟨cs,ty,f,Option.some.inj e⟩
  ·exact .inl (by show(if Z k then none else h[k]?)=some o;rw[nA d];exact a)
 ·obtain⟨y,z,_,A⟩:=StX.alone hf' H';have j:=H'.sub;have l:∀k,y k→ψ k=none∧ ¬Y k:=λk b=>by
   have p:(if Z k then none else h[k]?)=none:=(z k b).1;split at p
   ·rename_i d
    exact⟨(i k d).1,λg=>(i k d).2 (.inr g)⟩
   ·constructor
    ·cases hψ:ψ k with
     |none=>rfl
     |some o=>have:=q k o hψ;rw[show Bo h k=h[k]? from rfl,p]at this;cases this
    ·intro g
     have:=(r k g).2.2
     rw[pB this]at p;cases p
  have m:Sub ψ (Bo h'):=λk o a=>j k o (by
   show(if Z k then none else h[k]?)=some o;rw[nA]
   ·exact q k o a
   ·intro d;rw[(i k d).1]at a;cases a)
  refine v Δ' h' m (λk b=>?_) (A ψ _ (λk b=>⟨(l k b).1,λg=>g.elim id (l k b).2⟩) m);have n:=(r k b).2.2
  have:(if Z k then none else h[k]?)=some h[k]:=by
   rw[nA]
   ·exact pB n
   ·intro d;exact(i k d).2 (.inr b)
  rw[show h'[k]? =some h[k] from j k _ this,pB n]
theorem St.abide{φ0:AD}{a:AH}:∀ {Δ:List Chk}{X:GE},(∀c∈Δ,Tq c)→StX φ0 h Δ X→(∀k,k<h.size→(∃cs ty f,h[k]? =some (.cells cs ty f))→a[k]? =h[k]?)→Sub φ0 (Bo a)→StX φ0 a Δ X:=by
 intro Δ
 induction Δ with
 |nil=>intro X _ _ _ b;exact b
 |cons c Δ ih=>
  intro X e ⟨F,d,j,H⟩ hk b;exact⟨F,c.R.loc (λi g=>hk i (c.R.lt d i g) ((e c nP).2 _ _ _ d i g)) d,j,ih (λc l=>e c (by simp[l])) H hk b⟩
theorem St.back{Δ:List Chk}(b:∀c∈Δ,Tq c)(le:Sub φ ψ)(H:St ψ Δ h):St φ Δ h:=by
 have⟨Z,d,_,e⟩:=StX.alone b H;have f:∀k,Z k→φ k=none:=λk a=>by
  cases hφ:φ k with
  |none=>rfl
  |some o=>have:=le k o hφ;rw[(d k a).1]at this;cases this
 exact e φ _ (λk a=>⟨f k a,λg=>g⟩) λk o i=>H.sub k o (le k o i)
theorem St.hide{c:Chk}{Γ:List Chk}(H:St φ (c::Γ) h):∃(ψ:AD) (F:GE),Sub φ ψ∧c.on φ h F∧(∀k,F k→ψ k=h[k]?)∧St ψ Γ h:=by
 classical
 obtain⟨F,d,f,H⟩:=H;have g:=H.sub;have le:Sub φ (λi=>if F i then h[i]? else φ i):=λi o a=>by
  show(if F i then h[i]? else φ i)=some o;rw[nA]
  ·exact a
  ·intro j;have e:=(f i j).1;rw[e]at a;cases a
 refine⟨λi=>if F i then h[i]? else φ i,F,le,d,λi l=>mZ l,?_⟩;refine StX.less (StX.grow H le (λi o a=>?_) λk b m=>?_) λk b=>b.elim
 ·split at a
  ·exact a
  ·exact g i o a
 ·split at b
  ·exact .inr (by assumption)
  ·exact nC m b
theorem fm{p:nG}{s:Ae}{F:List Chk}(H:St φ (Bi p s::F) h):∃b,p=some ⟨b,0,none⟩∧Bb h ⟨b,0,none⟩=some (.int .i64 s.1):=by have⟨b,vs,e,i,a⟩:=St.open H;obtain⟨c,d,rfl,j,f⟩:=St.pair (a.at1);have⟨g,_⟩:=St.ro f;cases g;refine⟨b,by cases e;rfl,a.cell rfl⟩
end
end Go.Proofs.YtfnppeejaimnbaaGreatDoor.Dg
namespace Go.Proofs.YtfnppeejaimnbaaGreatDoor.Dg
open Go Go.Eng Go.RowKit Go.Shelf
attribute [local go_sem] Oper.semAt_some
section
variable {s o:Ae}{W:uF}{φ:AD}{G G':List Chk}
noncomputable def JN(a:Ae×Bool)(i:Int):Ae×Bool:=if a.2 then a else if a.1.1≤i then(a.1,true) else(((Aw a.1 i).getD (false,a.1)).2,false)
noncomputable def iN(s:Ae)(l:nH):Ae×Bool:=l.foldl JN (s,false)
def EV(s:Ae):nH:=EU (s.2.map oN) s.2.length
noncomputable def BT(s o:Ae):Ae:=(iN s (EV o)).1
noncomputable def stepG(a:Ae×Bool×Bool)(i:Int):Ae×Bool×Bool:=if a.2.1 then a else if a.1.1≤i then(a.1,true,a.2.2) else(((Aw a.1 i).getD (false,a.1)).2,false,((Aw a.1 i).getD (false,a.1)).1 || a.2.2)
noncomputable def Ku(s:Ae)(l:nH):Ae×Bool×Bool:=l.foldl stepG (s,false,false)
noncomputable def F9(s o:Ae):Bool:=(Ku s (EV o)).2.2
theorem Sk(s:Ae)(l:nH)(i:Int):Ku s (l++ [i])=stepG (Ku s l) i:=by simp[Ku]
theorem cq(l:nH):∀(a:Ae×Bool×Bool),((l.foldl stepG a).1,(l.foldl stepG a).2.1)=l.foldl JN (a.1,a.2.1):=by
 induction l with
 |nil=>intro a;rfl
 |cons i l c=>
  intro a;rw[qC,qC,c];congr 1;unfold stepG JN;dsimp only;by_cases h:a.2.1=true
  ·rw[mZ h,mZ h]
  ·rw[nA h,nA h];by_cases b:a.1.1≤i
   ·rw[mZ b,mZ b]
   ·rw[nA b,nA b]
theorem fp(s:Ae)(l:nH):((Ku s l).1,(Ku s l).2.1)=iN s l:=cq l (s,false,false)
theorem Zp(l:nH){a:Ae×Bool×Bool}(h:a.2.1=true):l.foldl stepG a=a:=by
 induction l with
 |nil=>rfl
 |cons i l b=>
  rw[qC]
  have:stepG a i=a:=mZ h
  rw[this,b]
theorem fq{l a:nH}(b:a<+:l)(h:(Ku s a).2.1=true):Ku s l=Ku s a:=by obtain⟨r,rfl⟩:=b;unfold Ku at h ⊢;rw[rG,Zp r h]
theorem Zq(s o:Ae):(Ku s (EV o)).1=BT s o:=(Prod.mk.inj (fp s (EV o))).1
theorem ft(l:nH){a:Ae×Bool}(h:a.2=true):l.foldl JN a=a:=by
 induction l with
 |nil=>rfl
 |cons i l b=>
  rw[qC]
  have:JN a i=a:=mZ h
  rw[this,b]
abbrev IY(a bg:Nat)(p:nG)(g:Bool)(s:Ae):List Chk:=[⟨oP 187,[.pointer (lF a)],[.pointer p]⟩,⟨oP 4,[.pointer (lF bg)],[.bool g]⟩,Bi p s]
theorem D8(b bg:Nat)(p:nG)(g:Bool)(s:Ae):∀c∈IY b bg p g s,Tq c:=by
 intro c a;simp only[oS,tR,or_false]at a;rcases a with rfl | rfl | rfl
 ·exact Uy _ _ _
 ·exact Uy _ _ _
 ·exact YC _ _
theorem MW{φ0:AD}{B:Nat}{b:uF}{row:Option Nat}{Δ:List Chk}(j:∀k,φ0 k≠none→k<B)(l:∀c∈Δ,Tq c)(H:St φ0 Δ W.heap)(m:W.grownBy b row)(g:∀r,row=some r→B≤r∧ ∃o:Obj,W.heap[r]? =some o∧o.isCells=false):St φ0 Δ b.heap:=by
 obtain⟨_,_,_,n,h⟩:=m;refine St.abide l H (λk d ⟨cs,ty,f,p⟩=>h k d λe=>?_) λk o i=>?_
 ·have⟨_,o,a,q⟩:=g k e.symm;rw[p]at a;cases a;cases q
 ·have a:=H.sub k o i
  have:=BH a
  show b.heap[k]? =some o;rw[h k this λe=>by have:=j k (by rw[i];simp);have:=(g k e.symm).1;omega];exact a
theorem fu{φ0:AD}{b bg:Nat}{p:nG}{g:Bool}{x:Int}(H:OkS s)(m:St φ0 (IY b bg p g s) W.heap):
 Calls hC 91 #[.pointer p,.int .i64 x] W λe a=>CB W a∧W.heap.size≤a.heap.size∧(∀(k:Nat) (o:Obj),W.heap[k]? =some o→o.isCells=false→a.heap[k]? =some o)∧
  ∃y:Bool,e= .returned (.bool y)∧y=((Aw s x).getD (false,s)).1∧St φ0 (IY b bg p g ((Aw s x).getD (false,s)).2) a.heap∧OkS ((Aw s x).getD (false,s)).2∧((Aw s x).getD (false,s)).2.1=s.1:=by
 obtain⟨s',hd,n,q,_⟩:=add_ok H x;rw[hd];have⟨E,_,r,F,t,u⟩:=St.apart (Γ:=[]) m (D8 b bg p g s);have w:=Cd (r.at 2) hd W rfl;refine(show Calls hC 91 #[.pointer p,.int .i64 x] W _ from w).mono ?_;rintro e a ⟨i,d⟩;cases e with
 |returned v=>
  obtain⟨z,h,ψ,y,l,le,rfl,A,j⟩:=d;cases h;obtain⟨rfl,rfl⟩:=Prod.mk.inj A;refine⟨i,i.size,λk o B C=>?_,_,rfl,rfl,?_,n,q⟩
  ·rcases t k o B with g | ⟨cs,ty,f,rfl⟩
   ·exact j.sub k o (le k o g)
   ·cases C
  ·have D:St ψ (IY b bg p g l) a.heap:=(j.at 2).at 2;exact u _ _ (D8 _ _ _ _ _) (St.back (D8 _ _ _ _ _) le D)
 |panicked c=>obtain⟨z,h,_⟩:=d;cases h
 |outgrown=>exact d.elim
theorem cr{F:List Chk}{q:nG}(f:St φ (Bi q o::F) W.heap)(g:o.2.length≤1073741824):
 Calls hC 134 #[.pointer q] W λe a=>CB W a∧ ∃(ψ:AD) (r:Nat) (y:Slc),Sub φ ψ∧e= .returned (.func (.func 165) #[] #[.pointer (lF r)])∧
  St ψ (⟨oP 224,[.pointer (lF r)],[.slice y.1 y.2.1 y.2.2]⟩::⟨oW 223 (oL .u64),[.slice y.1 y.2.1 y.2.2],o.2⟩::Bi q o::F) a.heap:=by
 refine(show Calls hC 134 #[.pointer q] W _ from Uw f g W rfl).mono ?_;rintro e a ⟨h,b⟩;cases e with
 |returned v=>
  obtain⟨i,d,ψ,r,y,j,k,l⟩:=b;cases d;exact⟨h,ψ,r,y,j,by rw[k],l⟩
 |panicked c=>obtain⟨i,d,_⟩:=b;cases d
 |outgrown=>exact b.elim
theorem QI{h:AH}{b:Nat}{j:Nat}{v:uD}(a:Bb h ⟨b,j,none⟩=some v):b<h.size:=by
 unfold Bb E9 tS at a;dsimp only at a;cases ho:h[b]? with
 |none=>rw[ho]at a;cases a
 |some o=>exact BH ho
theorem ready(n:Nat)(Q:3≤n){ψ:AD}{u c bg:Nat}{y:Slc}{p q:nG}(J:Glob ψ)(v:OkS o)(R:(Bi p s::G).Perm (Bi q o::G'))
 (h:St ψ (⟨oP 224,[.pointer (lF u)],[.slice y.1 y.2.1 y.2.2]⟩::⟨oW 223 (oL .u64),[.slice y.1 y.2.1 y.2.2],o.2⟩::Bi q o::⟨oP 187,[.pointer (lF c)],[.pointer p]⟩::⟨oP 4,[.pointer (lF bg)],[.bool false]⟩::G') W.heap):
 ∃(K φ0:AD) (L:List Nat),Sub ψ K∧(∀k,φ0 k≠none→k<W.heap.size)∧(∀b∈L,φ0 b≠none)∧St φ0 (IY c bg p false s) W.heap∧
  SeqStopsK Fence.wide n hC 165 #[.pointer (lF u)] cn (KpL L) (λS=>S=EV o) (λw=>w<+:EV o) (EV o).length W∧
  ∀s' g (r:AH),St φ0 (IY c bg p g s') r→St K (Bi p s'::G) r:=by
 have i:=J.mono h.sub;have d:Bb W.heap ⟨u,0,none⟩=some (.slice y.1 y.2.1 y.2.2):=h.cell rfl;have x:0<W.heap.size:=by
  obtain⟨t,f,z⟩:=i;exact BH z
 have h1:=v.len;have h2:=v.hi;obtain⟨L,M,j⟩:=RE n Q i v.word nJ d (h.at 1).rowLen.symm (PZ (h.at 1)) (Ux (h.at 1)) (QI d) x;obtain⟨ψa,F1,l,⟨b1,T,A,B⟩,U,V⟩:=St.hide h;cases T;have⟨C,F2,e,m,X,Y⟩:=St.hide V;have D:(Bi q o::⟨oP 187,[.pointer (lF c)],[.pointer p]⟩::⟨oP 4,[.pointer (lF bg)],[.bool false]⟩::G').Perm (G++IY c bg p false s):=by
  refine(BP 1 _).trans<|(oI _ (BP 1 _)).trans<|(oI _ (oI _ R.symm)).trans (oJ (l₁:=IY c bg p false s) (l₂:=G))
 have⟨φ0,d1,d2,d3,d4,d5⟩:=St.apart (Y.perm D) (D8 c bg p false s);refine⟨C,φ0,L,l.trans e,d1,λb N=>?_,d2,j,λs' g r H=>?_⟩
 ·have E:∃O,C b=some O:=by
   rcases(M b N).2 with rfl | rfl | ⟨a,ha,rfl⟩
   ·exact⟨_,e _ _ ((U b ((B b).2 rfl)).trans A)⟩
   ·obtain⟨t,f,z⟩:=J;exact⟨_,e _ _ (l _ _ z)⟩
   ·obtain⟨p',n',c',vs,P,h3,h4,h5,h6,h7,Z⟩:=m;simp only[List.cons.injEq,Value.slice.injEq,and_true]at P;have F:=(M _ N).1;refine⟨_,(X a.block ((Z _).2 ?_)).trans (pB F)⟩;rw[←P.1,ha];simp[blk]
  obtain⟨O,I⟩:=E;rw[d3 _ _ I];simp
 ·have H2:=d5 _ _ (D8 c bg p g s') H;have H3:St C (IY c bg p g s'++G) r:=H2.perm oJ;exact H3.tail.tail
theorem iO{φ0:AD}{L:List Nat}{A B:uF}(e:∀b∈L,φ0 b≠none)(f:Sub φ0 (Bo A.heap))(g:Sub φ0 (Bo B.heap)):KpL L A B:=λb a o h=>by
 cases hφ:φ0 b with
 |none=>exact nC hφ (e b a)
 |some c=>
  have d:=f b c hφ;have i:=g b c hφ;rw[show Bo A.heap b=A.heap[b]? from rfl,h]at d;cases d;exact i
theorem Zr{w:uF}{p q:nG}(gk:Glob φ)(hs:OkS s)(Q:OkS o)(hp:(Bi p s::G).Perm (Bi q o::G'))(s0:St φ (Bi p s::G) w.heap):
 Calls hC 98 #[.pointer p,.pointer q] w λe I=>CB w I∧ ∃(ψ:AD),Sub φ ψ∧e= .returned (.bool (F9 s o))∧St ψ (Bi p (BT s o)::G) I.heap:=by
 refine(callsIn_wide (n:=12)).1<|callsIn_of_wp_marks func98 rfl trivial ?_ rfl;simp only[ntmps98,pI,oD,oQ,Nat.reduceAdd,Nat.reduceSub,qH,qJ,qX,qM,rC,pM]
 gi_wp2
 have a6:o.2.length≤1000:=by have u:=Q.len;have t:=Q.hi;omega
 have sA:St φ (Bi q o::⟨oP 187,[.pointer (some ⟨w.heap.size,0,none⟩)],[.pointer p]⟩::⟨oP 4,[.pointer (some ⟨w.heap.size+1,0,none⟩)],[.bool false]⟩::G') ((w.alloc (.cells #[.pointer p] 187)).alloc (.cells #[.bool false] 4)).heap:=by
  have u:=St.new (ty:=187) [.pointer p] s0;have t:=St.new (ty:=4) [.bool false] u;rw[Array.size_push]at t;refine t.perm<|(oZ _ _ _).trans ((oI _ (oI _ hp)).trans ((BP 2 _)))
 refine⟨trivial,(callsIn_wide.2 (cr sA nJ)).mono ?_⟩;rintro e W1 ⟨C,ψ,bx,y,R,rfl,s1⟩;obtain⟨ψ2,φ0,L,a4,S,hL,T,U,N⟩:=ready 11 nQ (gk.mono R) Q hp s1;have E:CB w W1:=CB.trans (b:=(w.alloc (.cells #[.pointer p] 187)).alloc (.cells #[.bool false] 4)) ⟨rfl,rfl,rfl,nN⟩ C;have J:∀(g:Bool) (s':Ae) (I:uF),CB w I→Ku s (EV o)=(s',true,g)∨Ku s (EV o)=(s',false,g)→St φ0 (IY w.heap.size (w.heap.size+1) p g s') I.heap→CB w I∧ ∃(ψ:AD),Sub φ ψ∧Ending.returned (Value.bool g)= .returned (.bool (F9 s o))∧St ψ (Bi p (BT s o)::G) I.heap:=by
  rintro g s' I u V t;have e1:BT s o=s':=by rw[←Zq];rcases V with h | h<;>rw[h]
  have e2:F9 s o=g:=by unfold F9;rcases V with h | h<;>rw[h]
  rw[e1,e2];exact⟨u,ψ2,R.trans a4,rfl,N _ _ _ t⟩
 have m:∀ {A B:uF} {row:Option Nat},CB w A→A.grownBy B row→CB w B:=λh ⟨g1,g2,g3,g4,_⟩=>h.trans ⟨g1,g2,g3,g4⟩
 gi_wp2
 refine wpIn_rangeFunc_ownG rfl nQ (gf:=165) (lb:=#[.pointer (lF bx)]) rfl trivial (enters_of tG nU rfl) U (λh k=>h.trans k)
  (λW l o o' hl h u t=>KpL.putObj (n₀:=W1.heap.size) (λb hb=>S b (hL b hb)) W l o o' hl h u t) (Below.refl _ _) (λ_=>rfl)
  (λi W=>CB w W∧ ∃(s':Ae) (g:Bool),OkS s'∧Ku s i=(s',false,g)∧St φ0 (IY w.heap.size (w.heap.size+1) p g s') W.heap)
  (λc i W=>c= .exit 0∧CB w W∧ ∃(s':Ae) (g:Bool),Ku s i=(s',true,g)∧St φ0 (IY w.heap.size (w.heap.size+1) p g s') W.heap)
  (λi A B row ⟨u,s',g,t,h3,h4⟩ O F=>⟨m u O,s',g,t,h3,MW S (D8 _ _ _ _ _) h4 O F⟩)
  (λc i A B row ⟨h0,u,s',g,t,h4⟩ O F=>⟨h0,m u O,s',g,t,MW S (D8 _ _ _ _ _) h4 O F⟩)
  ⟨E,s,false,hs,rfl,T⟩
  (λx=>{tmps:=#[.pointer p,.pointer q,.pointer (some ⟨w.heap.size,0,none⟩),undef,.bool false,.pointer (some ⟨w.heap.size+1,0,none⟩),.int .i64 x,.pointer q,.func (.func 165) #[] #[.pointer (lF bx)],.int .i64 x,undef,undef,undef,undef,undef,undef,undef,undef,undef,undef,undef,undef,undef],defers:=[]}) ?assign ?body ?done ?stop
 case assign=>
  intro l x W K P
  gi_wp2
  exact P
 case body=>
  rintro l i x W ⟨a,s',g,X,d,f⟩ hlt;have a7:W.cell? ⟨w.heap.size,0,none⟩=some (.pointer p):=f.cell rfl;obtain⟨bp,rfl,hn⟩:=fm (f.at 2);have a8:W.cell? ⟨bp,0,none⟩=some (.int .i64 s'.1):=hn
  gi_wp2
  ·have hx:s'.1≤x:=by assumption
   have F:Ku s (i++ [x])=(s',true,g):=by
    rw[Sk,d];unfold stepG;rw[nA nP,mZ hx]
   exact⟨KeepsFrom.refl _ _,rfl,a,s',g,F,f⟩
  ·have hx:¬s'.1≤x:=nJ
   refine⟨trivial,(CallsIn.inRound l (callsIn_wide.2 (fu (x:=x) X f))).mono ?_⟩;obtain⟨Y,Z⟩:∃Y,((Aw s' x).getD (false,s')).2=Y:=⟨_,rfl⟩;rw[Z];rintro e M ⟨H,a0,a5,y,rfl,hy,z,a1,a9⟩;have F:Ku s (i++ [x])=(Y,false,y || g):=by
    rw[Sk,d];unfold stepG;rw[nA nP,nA hx];dsimp only;rw[Z,←hy]
   have b0:M.cell? ⟨w.heap.size+1,0,none⟩=some (.bool g):=(z.at 1).cell rfl;have b1:M.frozen? ⟨w.heap.size+1,0,none⟩=false:=(St.put (j:=0) (.bool true) (z.at 1) (pW 0)).2.1;have a2:∀v:Bool,v=(y || g)→KeepsFrom W1.heap.size W (M.setCell ⟨w.heap.size+1,0,none⟩ (.bool v))∧KpL L W (M.setCell ⟨w.heap.size+1,0,none⟩ (.bool v))∧CB w (M.setCell ⟨w.heap.size+1,0,none⟩ (.bool v))∧ ∃(s':Ae) (g:Bool),OkS s'∧Ku s (i++ [x])=(s',false,g)∧St φ0 (IY w.heap.size (w.heap.size+1) (lF bp) g s') (M.setCell ⟨w.heap.size+1,0,none⟩ (.bool v)).heap:=by
    intro v hv;rw[←hv]at F;have u:=(St.put (j:=0) (.bool v) (z.at 1) (pW 0)).2.2;have t:St φ0 (IY w.heap.size (w.heap.size+1) (lF bp) v Y) (M.setCell ⟨w.heap.size+1,0,none⟩ (.bool v)).heap:=u.at 1;have h3:KeepsFrom W1.heap.size W M:=⟨a0,λk o _ hk Q=>a5 k o hk Q⟩;exact⟨h3.trans ((KeepsOthers.setCell _ _ _).from _),iO hL f.sub t.sub,(a.trans H).trans (CB.setCell _ _ _),Y,v,a1,F,t⟩
   clear hy F;cases y
   all_goals gi_wp2
   all_goals exact a2 _ rfl
 case done=>
  rintro D xs W hD rfl ⟨a,s',g,X,d,f⟩ P;have O:W.cell? ⟨w.heap.size+1,0,none⟩=some (.bool g):=(f.at 1).cell rfl
  gi_wp2
  refine⟨nP,.inl ⟨_,_,rfl,run_takeDeferred P,?_⟩⟩;refine⟨_,results_tmp rfl _ _ _,J g s' _ (m a (grownBy_putObj' W D _)) (.inr d) ?_⟩;exact MW S (D8 _ _ _ _ _) f (grownBy_putObj' W D _) (λr e=>by cases e;exact⟨hD,_,P,rfl⟩)
 case stop=>
  rintro D c i W hD a3 ⟨rfl,a,s',g,d,f⟩ P;have O:W.cell? ⟨w.heap.size+1,0,none⟩=some (.bool g):=(f.at 1).cell rfl
  gi_wp2
  refine⟨nP,.inl ⟨_,_,rfl,run_takeDeferred P,?_⟩⟩;refine⟨_,results_tmp rfl _ _ _,J g s' _ (m a (grownBy_putObj' W D _)) (.inl ((fq a3 (by rw[d])).trans d)) ?_⟩;exact MW S (D8 _ _ _ _ _) f (grownBy_putObj' W D _) (λr e=>by cases e;exact⟨hD,_,P,rfl⟩)
theorem J1{h:AH}{p q:nG}(a:Glob φ)(b:OkS s)(c:OkS o)(d:(Bi p s::G).Perm (Bi q o::G'))(f:St φ (Bi p s::G) h):
 nX hC 98 [.pointer p,.pointer q] h (An λv g=>∃(ψ:AD),Sub φ ψ∧v=lU.val (F9 s o)∧St ψ (Bi p (BT s o)::G) g):=by intro w i;subst i;refine(show Calls hC 98 #[.pointer p,.pointer q] w _ from Zr a b c d f).mono ?_;rintro e m ⟨j,ψ,k,rfl,l⟩;exact⟨j,_,rfl,ψ,k,rfl,l⟩
theorem YD{h:AH}{p q:nG}(b:Glob φ)(c:OkS s)(d:OkS o)(f:(Bi p s::G).Perm (Bi q o::G'))(i:St φ (Bi p s::G) h):
 nX hC 98 [.pointer p,.pointer q] h (An λv a=>∃(ψ:AD) (g:Bool),Sub φ ψ∧v=lU.val g∧St ψ (Bi p (BT s o)::G) a):=by refine(J1 b c d f i).mono ?_;rintro e a ⟨u,rfl,ψ,le,rfl,j⟩;exact⟨_,rfl,ψ,_,le,rfl,j⟩
end
end Go.Proofs.YtfnppeejaimnbaaGreatDoor.Dg
namespace Go.Proofs.YtfnppeejaimnbaaGreatDoor.Dg
open Go Go.Eng Go.RowKit Go.Shelf Go.Sort
attribute [local go_sem] Oper.semAt_some
section
variable {φ:AD}{h:AH}{F:List Chk}
theorem ej{W:uF}{b:Nat}{n x:Int}(d:W.cell? ⟨b,0,none⟩=some (.int .i64 n)):FnGives hC 169 #[.pointer (lF b)] #[.int .i64 x] (.bool (Lr n x)) W:=by
 refine(callsIn_wide (n:=3)).1<|callsIn_of_wp func169 rfl trivial ?_ rfl;simp only[ntmps169,pI,oD,oQ,Nat.reduceAdd,Nat.reduceSub,qH,qJ,qX,qM,rC,pM];have c:prog.follows .mixedOrders=true:=mixed;by_cases a:x<0
 ·have e:Lr n x=true:=by unfold Lr;rw[mW a];rfl
  rw[e]
  gi_wp2
  go_ret
  exact⟨rfl,0,rfl⟩
 ·have e:Lr n x=decide (n≤x):=by unfold Lr;rw[mV a];rfl
  rw[e]
  gi_wp2
  go_ret
  exact⟨rfl,0,rfl⟩
theorem WC(n:Nat)(p:nG)(cap:Nat)(a:uD)(W:uF):CallsIn Fence.wide n hC 186 #[.slice p 0 cap,a] W λe b=>e= .returned (.int .i64 (-1))∧b=W:=by
 refine callsIn_of_wp func186 rfl trivial ?_ rfl;simp only[ntmps186,pI,oD,oQ,Nat.reduceAdd,Nat.reduceSub,qH,qJ,qX,qM,rC,pM]
 gi_wp2
 refine wpIn_loop_rounds 1 ?_;rw[roundsIn_succ]
 gi_wp2
 go_ret
 exact⟨rfl,rfl⟩
theorem WD(n:Nat)(c:1≤n)(p:nG)(cap:Nat)(a:uD)(W:uF):CallsIn Fence.wide n hC 168 #[.slice p 0 cap,a] W λe b=>e= .returned (.slice p 0 cap)∧b=W:=by
 refine callsIn_of_wp func168 rfl trivial ?_ rfl;simp only[ntmps168,pI,oD,oQ,Nat.reduceAdd,Nat.reduceSub,qH,qJ,qX,qM,rC,pM]
 gi_wp2
 refine⟨trivial,(WC (n - 1) p cap a W).mono ?_⟩;rintro e b ⟨rfl,rfl⟩
 gi_wp2
 go_ret
 exact⟨rfl,rfl⟩
theorem iP{t:Slc}{l:nH}{b:Nat}{n:Int}(f:St φ (⟨oW 3 (oL .i64),[.slice t.1 t.2.1 t.2.2],l⟩::⟨oP 3,[.pointer (lF b)],[.int .i64 n]⟩::F) h):
 nX hC 168 [.slice t.1 t.2.1 t.2.2,.func (.func 169) #[] #[.pointer (lF b)]] h (An λv H=>∃(ψ:AD) (y:Slc),Sub φ ψ∧v=lS.val y∧oG (oL .i64) ψ y (l.filter λx=> !Lr n x)∧St ψ F H):=by
 intro w I;subst I;have j:w.cell? ⟨b,0,none⟩=some (.int .i64 n):=(f.at 1).cell rfl;rcases f.rowHolds rfl (qD .i64) (λvs J=>⟨l,Ds J⟩) with⟨K,s⟩|⟨bb,off,bs,ht,hall,s,hlen,hlt,hfit,hH⟩
 ·subst K;rw[s];have u:=(callsIn_wide (n:=3)).1 (WD 3 nQ t.1 t.2.2 (.func (.func 169) #[] #[.pointer (lF b)]) w);refine(show Calls hC 168 #[.slice t.1 0 t.2.2,_] w _ from u).mono ?_;rintro e L ⟨rfl,rfl⟩;obtain⟨ψ,le,c,z⟩:=f.freezeRow;refine⟨CB.refl _,_,rfl,ψ,t,le,by rw[←s];rfl,c,z.tail⟩
 ·have A:bs=l:=Tm (Ds hall);subst A;rw[ht,s];have k:=f.rowMax;have o:bs.length≤t.2.2:=by
   obtain⟨_,_,c,_⟩:=f.freezeRow
   have:=c.2.1
   omega
  have u:=AnyE.slices_DeleteFunc Q9 (qD .i64) (λx=>rfl) (Lr n) 169 #[.pointer (lF b)] (enters_of func169 nU rfl) 0 (zeroValue3) bb off t.2.2 bs.toArray w
   (λW x M=>ej ((M.cell (p:=⟨b,0,none⟩) (QI j)).trans j))
   (λm os N x r=>ej (((f.rowSorted ht (qD .i64) N.toList (F8 _) (by simpa using r) (by simpa using r) hfit m os).at 1).cell rfl)) hH (by unfold maxLen at k;simp;omega) (by simpa using o)
  obtain⟨d,g⟩:∃d,(bs.filter λx=> !Lr n x)=d:=⟨_,rfl⟩;have G:d.length≤bs.length:=by rw[←g];exact pE _ _
  have B:bs.toArray.size=bs.length:=nP
  have C:bs.toArray.toList=bs:=rfl;rw[B,C,g]at u;refine(show Calls hC 168 #[.slice (some ⟨bb,off,none⟩) bs.length t.2.2,_] w _ from u).mono ?_;rintro e L ⟨rfl,q,rfl⟩;have i:(d++qN (bs.length - d.length) (0:Int)).length=bs.length:=nN
  have z:=f.rowSorted ht (qD .i64) (d++qN (bs.length - d.length) (0:Int)) (F8 _) i i hfit q #[];rw[grow_empty]at z;obtain⟨ψ,le,c,O⟩:=z.freezeRow;have D:=Ro.SliceIs.cut (a:=0) (b:=(d.length:Int)) (m:=d) c (by
   unfold cut;rw[mZ ⟨nJ,nJ,by rw[i];omega⟩]
   simp) (sz:=1) rfl
  refine⟨⟨rfl,rfl,rfl,by rw[size_putRow];exact oY _⟩,_,rfl,ψ,(some ⟨bb,off,none⟩,d.length,t.2.2),le,rfl,?_,O.tail⟩;rw[g];have E:=D.2;rw[ht]at E;have P:(if t.2.2=oN 0 then some (⟨bb,off,none⟩:Addr) else sW (λx=>tU x (oN 0 *1)) (some ⟨bb,off,none⟩))=some ⟨bb,off,none⟩:=by
   split
   ·rfl
   ·rfl
  rw[P]at E;exact E
theorem Zs{t:Slc}{ll:List nH}{x n:Int}(k:oG (rU (oL .i64)) φ t ll)(p:St φ F h)(q:0≤x)(s:∀l∈ll,l.length≤1073741824):
 nX hC 137 [.slice t.1 t.2.1 t.2.2,.int .i64 x,.int .i64 n] h (An λv u=>∃(ψ:AD) (y:Slc),Sub φ ψ∧v=lS.val y∧oG (oL .i64) ψ y (DO ll x n)∧St ψ F u):=by
 refine A9 mixed func137 ?_;rw[PY];unfold Ll;refine AU (vs:=[.int .i64 n]) p ?_;intro r I c;have i:=k.length;by_cases j:x≥ (t.2.1:Int)
 ·rw[mW j,cond_true];refine AC ⟨φ,(none,0,0),pL _,rfl,?_,c.tail⟩;unfold DO;rw[mZ nJ];exact rH _ _
 ·rw[mV j,cond_false];have b:x.toNat<ll.length:=nJ
  have d:idx ll x=some ll[x.toNat]:=by
   unfold idx;rw[mZ q,bD b]
  obtain⟨a,cs,w,z,⟨t1,A,B⟩,e⟩:=k.get d;subst A;refine AI _ w (Ai z ?_);refine AF (by
   have m:=Ar c.sub (e 0 _ rfl);exact m) rfl ?_
  refine AK (clone46_ro B c (r:=ll[x.toNat]) (by unfold cloneD;rw[mZ (s _ (oE _))])) ?_;rintro _ J ⟨K,C,L,f,rfl,rfl,D⟩;refine⟨C,rfl,AK (iP D) ?_⟩;rintro _ m ⟨E,o,g,rfl,G,H⟩;refine⟨o,rfl,AC ⟨E,o,f.trans g,rfl,?_,H⟩⟩;unfold DO;rw[nA nJ,bD b];exact G
end
end Go.Proofs.YtfnppeejaimnbaaGreatDoor.Dg
namespace Go.Proofs.YtfnppeejaimnbaaGreatDoor.Dg
open Go Go.Eng Go.RowKit
section
variable {t:Slc}
theorem ct {P:Program} {Q:Bl→AH→Prop} {h:AH} {f:FuncId} {fn:Func} {first cap args:Array Value} {a:Sh} {k:Value→T} (c:P.funcs[f]? =some fn) (d:(fn.name== "runtime.NumGoroutine")=false) (e:fn.body.isNone=false) (b:Ws P fn=a)
 (H:(T.call f ((first++args) ++cap).toList a λx=>k (a.val x)).wp P Q h):(LP false P (.func (.func f) first cap) args k).wp P Q h:=by subst b;unfold LP;simp only[c,d,e];exact H
theorem St.rowTake{α:Type}{φ:AD}{h:AH}{Γ:List Chk}{ty:uE}{r:Ro α}{l:List α}(H:St φ (⟨oW ty r,[.slice t.1 t.2.1 t.2.2],l⟩::Γ) h){k:Nat}(E:k≤l.length):
 St φ (⟨oW ty r,[.slice t.1 k t.2.2],l.take k⟩::Γ) h:=by
 obtain⟨F,⟨p,n,c,vs,e,q,s,f,u,a,w⟩,x,H⟩:=H;have q:l.length=n:=q;simp only[List.cons.injEq,Value.slice.injEq,and_true]at e;obtain⟨y,G,z⟩:=e;refine⟨F,⟨p,k,c,vs.take (k *r.sz),by rw[y,z],by rw[pN];omega,s,f,?_,a.take k,w⟩,x,H⟩;rcases u with⟨g,A,j,m⟩|⟨b,off,arr,g,o,B,I,C,D⟩
 ·exact .inl ⟨g,nJ,j,by rw[m];exact List.take_nil⟩
 ·refine .inr ⟨b,off,arr,g,o,?_,nJ,C,λi v d=>?_⟩
  ·rw[pN,B];exact Nat.min_eq_left (Nat.mul_le_mul_right _ nJ)
  ·rw[qQ]at d;split at d
   ·exact D i v d
   ·cases d
abbrev Ht(a b:Nat)(s o:Slc)(stk low:nH):List Chk:=[⟨oP 30,[.pointer (lF a)],[.slice s.1 s.2.1 s.2.2]⟩,⟨oW 3 (oL .i64),[.slice s.1 s.2.1 s.2.2],stk⟩,⟨oP 30,[.pointer (lF b)],[.slice o.1 o.2.1 o.2.2]⟩,⟨oW 3 (oL .i64),[.slice o.1 o.2.1 o.2.2],low⟩]
section
variable {X A:Type}(K:X→List Chk) (al:X→A) (ledA:A→Int→Int→Option A) (partA:A→nH→Option A) (gl gp:Nat) (bl bp:Array uD)
def Zt:Prop:= ∀ {φ:AD}{h:AH}{F:List Chk}{v:X}{x to:Int}{a':A},ledA (al v) x to=some a'→St φ (K v++F) h→
 nX hC gl (((#[]:Array uD) ++ #[qD .i64 x,qD .i64 to]) ++bl).toList h (An λu a=>u= .tuple #[] ∧ ∃(ψ:AD) (v':X),Sub φ ψ∧al v'=a'∧St ψ (K v'++F) a)
def WE:Prop:= ∀ {φ:AD}{h:AH}{F:List Chk}{v:X}{t:Slc}{l:nH}{a':A},partA (al v) l=some a'→St φ (⟨oW 3 (oL .i64),[.slice t.1 t.2.1 t.2.2],l⟩::(K v++F)) h→
 nX hC gp (((#[]:Array uD) ++ #[Value.slice t.1 t.2.1 t.2.2]) ++bp).toList h (An λu a=>u= .tuple #[] ∧ ∃(ψ:AD) (v':X),Sub φ ψ∧al v'=a'∧St ψ (K v'++F) a)
abbrev Hc(a b c d e f g:Nat):Array uD:=#[.pointer (lF a),.pointer (lF b),.pointer (lF c),.pointer (lF d),.pointer (lF e),.pointer (lF f),.pointer (lF g)]
structure RF (φ:AD) (t:Slc) (n:Int) (c1 c2 c3 c4 c5 c6 c7:Nat):Prop where
 edges:Ef φ ⟨c3,0,none⟩=some (.slice t.1 t.2.1 t.2.2)
 num:Ef φ ⟨c4,0,none⟩=some (.int .i64 n)
 visit:Ef φ ⟨c5,0,none⟩=some (.func (.func 136) #[] (Hc c1 c2 c3 c4 c5 c6 c7))
 led:Ef φ ⟨c6,0,none⟩=some (.func (.func gl) #[] bl)
 part:Ef φ ⟨c7,0,none⟩=some (.func (.func gp) #[] bp)
theorem RF.mono{φ ψ:AD}{n:Int}{b c d e f g h:Nat}(H:RF gl gp bl bp φ t n b c d e f g h)(a:Sub φ ψ):RF gl gp bl bp ψ t n b c d e f g h:=
 ⟨Ar a H.edges,Ar a H.num,Ar a H.visit,Ar a H.led,Ar a H.part⟩
def Ts(rec:EG A→Int→Option (EG A))(ll:List nH)(n:Int)(t:Slc)(a b c d e f g:Nat):Prop:=
 ∀ {φ:AD} {h:AH} {F:List Chk} {v:X} {s o:Slc} {stk low stk' low':nH} {x:Int} {a':A},RF gl gp bl bp φ t n a b c d e f g→oG (rU (oL .i64)) φ t ll→
  rec (low,stk,al v) x=some (low',stk',a')→St φ (Ht a b s o stk low++(K v++F)) h→
  nX hC 136 (((#[]:Array uD) ++ #[qD .i64 x]) ++Hc a b c d e f g).toList h (An λu i=>u= .tuple #[] ∧ ∃(ψ:AD) (v':X) (s':Slc),Sub φ ψ∧al v'=a'∧St ψ (Ht a b s' o stk' low'++(K v'++F)) i)
def Fb (g:FuncId):Prop:= ∃fn,Tryz.prog.funcs[g]? =some fn∧(fn.name== "runtime.NumGoroutine")=false∧fn.body.isNone=false∧Ws Tryz.prog fn= .tuple []
theorem Uz:Fb 136:=⟨f136,func136,nQ,nU,nU⟩
theorem Fb.call{b:Bl→AH→Prop}{h:AH}{g:FuncId}{cap args:Array uD}{k:uD→T}(H:Fb g){S:uD→AH→Prop}(d:nX hC g (((#[]:Array uD) ++args) ++cap).toList h (An S))(e:∀a,S (.tuple #[]) a→(k (.tuple #[])).wp hC b a)(f:∀v a,S v a→v= .tuple #[]):
 (LP false hC (.func (.func g) #[] cap) args k).wp hC b h:=by
 obtain⟨fn,i,j,l,m⟩:=H;refine ct i j l m<|AK d ?_;intro v a c
 have:=f v a c
 subst this;exact⟨(),rfl,e a c⟩
abbrev Sl(K:X→List Chk)(al:X→A)(a b:Nat)(o:Slc)(F:List Chk)(c:AD)(w:AH)(g:EG A):Prop:= ∃(ψ:AD) (v:X) (s:Slc),Sub c ψ∧al v=g.2.2∧St ψ (Ht a b s o g.2.1 g.1++(K v++F)) w
theorem WF{ll:List nH}{n:Int}{p l c3 c4 c5 c6 c7:Nat}{rec:EG A→Int→Option (EG A)}(hl:Zt K al ledA gl bl)(hp:WE K al partA gp bp)(cl:Fb gl)(cp:Fb gp)
 (ih:Ts K al gl gp bl bp rec ll n t p l c3 c4 c5 c6 c7):Ts K al gl gp bl bp (RA ll n ledA partA rec) ll n t p l c3 c4 c5 c6 c7:=by
 intro φ h F v s o stk low g2 g3 x a' B k hd s0;refine A9 mixed func136 ?_;rw[show Ab hC f136 (((#[]:Array uD) ++ #[qD .i64 x]) ++Hc p l c3 c4 c5 c6 c7).toList=_ from Ny x p l c3 c4 c5 c6 c7];unfold JL;unfold RA at hd;have⟨m,e1,hd⟩:=bO.1 hd;have⟨V,e2,hd⟩:=bO.1 hd;have⟨hb,hd⟩:=CG hd;have⟨d,e3,hd⟩:=bO.1 hd;refine AA (b:=p) (j:=0) (x:=s) s0 rfl<|AU (vs:=[.int .i64 x]) s0 ?_;intro r2 h1 s1;have cw:=rP s1;have s2:=s1.tail.at1;refine AV (r:=oL .i64) (ms:=[x]) ZX s2 rfl cw (.cons (a:=[_]) rfl .nil) rfl e1 ?_;intro s' h2 s3;refine Cr (b:=p) (j:=0) (v:=.slice s'.1 s'.2.1 s'.2.2) s3.at1 rfl (pW 0) ?_;intro h3 s4;refine AA (b:=p) (j:=0) (x:=s') s4 rfl<|AA (b:=l) (j:=0) (x:=o) s4.at2 rfl ?_;have b5:s'.2.1=m.length:=s4.at1.rowLen;have s5:=s4.at3;have⟨a5,a6,q5⟩:=s5.there e2;rw[b5];refine AI _ a6 (Ai q5 (FH s5 e2 rfl a6 ?_));intro h4 s6;have s7:St φ (Ht p l s' o m V++(K v++F)) h4:=s6.perm (BP 3 (Ht p l s' o m V++(K v++F))).symm;refine AF (x:=t) (Ar s7.sub B.edges) rfl<|AF (x:=n) (Ar s7.sub B.num) rfl ?_;have b6:0≤x:=(EL e2).1;refine AK (Zs k s7 b6 hb) ?_;rintro _ h5 ⟨ψ1,y,D,rfl,k1,s8⟩;refine⟨y,rfl,?_⟩;have ny:=k1.length;refine Af (λ(z:Int×Unit) w g=>Sl K al p l o F ψ1 w g) (g:=d) ?_ ?_
 ·refine By e3 (λi (z:Int×Unit) w g=>z.1=i∧Sl K al p l o F ψ1 w g) rfl ⟨rfl,ψ1,v,s',pL _,rfl,s8⟩ ?_ ?_
  ·rintro i z w g e ⟨Z,ψ,P,c,le,C,st⟩ u h0 hlt hw;subst Z;refine Ad (by rw[ny];exact mW hlt) ?_;have⟨to,b7,u⟩:=bO.1 u;unfold toD at u;have⟨e0,b8,u⟩:=bO.1 u;have⟨g1,b9,u⟩:=bO.1 u;have⟨p1,c0,u⟩:=bO.1 u;have⟨q1,c8,u⟩:=bO.1 u;have⟨J,L,u⟩:=bO.1 u;have⟨a2,a7,u⟩:=bO.1 u;obtain rfl:=Option.some.inj u;obtain⟨A1,g5,c9,d0,r1,d1⟩:=(k1.mono le).get b7;refine AI _ c9 (Ai d0 ?_);obtain rfl:=r1;refine AF (x:=to) (Ar st.sub (d1 0 _ rfl)) rfl<|AA (b:=l) (j:=0) (x:=o) st.at2 rfl ?_;have⟨A2,g6,d2,d3,r2,d4⟩:=rR (st.at3) b8;refine AI _ d2 (Ai d3 ?_);obtain rfl:=r2;refine AF (x:=e0) (d4 0 _ rfl) rfl<|AY (λ(_:Unit) w g=>Sl K al p l o F ψ1 w g) (g:=g1) ?_ ?_
   ·refine mP b9 rfl (λhg=>?_) (λhg=>?_)
    ·refine AF (x:=some (.func 136,#[],Hc p l c3 c4 c5 c6 c7)) (Ar st.sub (Ar (D.trans le) B.visit)) rfl ?_;obtain⟨g7,g8,g9⟩:=g1;obtain⟨i0,i1,i2⟩:=g;dsimp only at C;subst C;refine Fb.call Uz (ih (RF.mono gl gp bl bp B (D.trans le)) (k.mono (D.trans le)) hg st) ?_ (λ_ _ hS=>hS.1);rintro h6 ⟨_,ψ2,v2,G,Q,M,q⟩;exact lG rfl ⟨ψ2,v2,G,le.trans Q,M,q⟩
    ·obtain rfl:=Option.some.inj hg;exact lG rfl ⟨ψ,P,c,le,C,st⟩
   ·rintro _ h6 ⟨ψ2,v2,G,Q,M,q⟩;refine AA (b:=l) (j:=0) (x:=o) q.at2 rfl<|AA (b:=l) (j:=0) (x:=o) q.at2 rfl ?_;have⟨A3,i3,d5,d6,r3,d7⟩:=rR (q.at3) c0;refine AI _ d5 (Ai d6 ?_);obtain rfl:=r3;refine AF (x:=p1) (d7 0 _ rfl) rfl<|AA (b:=l) (j:=0) (x:=o) q.at2 rfl ?_;have⟨A4,i4,d8,d9,r4,e5⟩:=rR (q.at3) c8;refine AI _ d8 (Ai d9 ?_);obtain rfl:=r4;refine AF (x:=q1) (e5 0 _ rfl) rfl ?_;have⟨A5,R,q6⟩:=uB (q.at3) L;refine AI _ R (Ai q6 (FH (q.at3) L rfl R ?_));intro h7 s9;have S:St ψ2 (Ht p l G o g1.2.1 J++(K v2++F)) h7:=s9.perm (BP 3 (Ht p l G o g1.2.1 J++(K v2++F))).symm;refine AF (x:=some (.func gl,#[],bl)) (Ar S.sub (Ar (D.trans Q) B.led)) rfl ?_;rw[←M]at a7;refine Fb.call cl (hl a7 (F:=F++Ht p l G o g1.2.1 J) (S.perm (List.perm_append_comm.trans (by rw[mE])))) ?_ (λ_ _ hS=>hS.1);rintro h8 ⟨_,ψ3,v3,a0,N,a8⟩;refine lH rfl rfl ⟨hw,ψ3,v3,G,Q.trans a0,N,?_⟩;exact a8.perm (by rw[←mE];exact oJ)
  ·rintro i z w ⟨Z,ψ,P,c,le,C,st⟩ hge;subst Z;refine AW (by rw[ny];exact mV (rD.2 hge))<|AJ (lI rfl ⟨ψ,P,c,le,C,st⟩)
 ·rintro z h6 ⟨ψ,P,c,le,C,st⟩;unfold ZW at hd;have⟨e,u,hd⟩:=bO.1 hd;refine AA (b:=l) (j:=0) (x:=o) st.at2 rfl ?_;have⟨A6,i5,R,e6,r6,e7⟩:=rR (st.at3) u;refine AI _ R (Ai e6 ?_);obtain rfl:=r6;refine AF (x:=e) (e7 0 _ rfl) rfl<|mP hd rfl (λhd=>?_) (λhd=>?_)
  ·obtain rfl:=Option.some.inj hd;exact AC ⟨rfl,ψ,P,c,D.trans le,C,st⟩
  ·obtain⟨⟨i6,e8,i7⟩,hd⟩:=CG hd;have⟨W,e4,hd⟩:=bO.1 hd;have⟨a4,a1,hd⟩:=bO.1 hd;obtain⟨rfl,e9⟩:=Prod.mk.inj (Option.some.inj hd);obtain⟨rfl,rfl⟩:=Prod.mk.inj e9;obtain⟨f,i8⟩:∃f:Nat,m.length=f+1:=⟨m.length - 1,nJ⟩;have X:m.length - 1=f:=nJ
   rw[X]at e8 e4 a1;rw[X];have f0:oF .i64 ((m.length:Int) - (1:Int))=((f:Nat):Int):=by
    have:m.length≤1073741825:=nJ
    rw[YA nJ nJ];omega
   rw[f0];have T:c.2.1=d.2.1.length:=st.at1.rowLen;have g4:c.2.1≤c.2.2:=by
    obtain⟨_,_,a9,_⟩:=(st.at1).freezeRow;exact a9.2.1
   refine AA (b:=p) (j:=0) (x:=c) st rfl<|Ai ⟨nJ,nJ,nJ⟩ ?_;have b0:cut d.2.1 ((f:Nat):Int) (c.2.1:Int)=some (d.2.1.drop f):=by
    unfold cut;rw[mZ ⟨nJ,nJ,nJ⟩,pS,pS,T,qO]
   have O:∀h',St ψ (Ht p l c o d.2.1 d.1++(K P++F)) h'→ ∃ψ',Sub ψ ψ'∧Sub ψ' (Bo h')∧oG (oL .i64) ψ' ((if c.2.2=oN ((f:Nat):Int) then c.1 else sW (λx=>tU x (oN ((f:Nat):Int) *1)) c.1),oN (c.2.1:Int) - oN ((f:Nat):Int),c.2.2 - oN ((f:Nat):Int)) (d.2.1.drop f):=λh' H=>by
    obtain⟨ψ',f1,sl,H2⟩:=(H.at1).freezeRow;exact⟨ψ',f1,H2.sub,(sl.cut b0 (sz:=1) rfl).2⟩
   have⟨_,_,_,Y⟩:=O _ st;have b1:=Oe (t:=((if c.2.2=oN ((f:Nat):Int) then c.1 else sW (λx=>tU x (oN ((f:Nat):Int) *1)) c.1),oN (c.2.1:Int) - oN ((f:Nat):Int),c.2.2 - oN ((f:Nat):Int))) st Y.1 (λh' H=>by
    obtain⟨ψ',_,f2,sl⟩:=O h' H;have⟨vs,ha,hc⟩:=sl.heap f2;rw[Ds ha]at hc;exact hc) Y.2.2.2.1 (by rw[List.length_drop];omega)
   dsimp only at b1;refine AK b1 ?_;rintro _ h7 ⟨E,rfl,s9⟩;refine⟨E,rfl,?_⟩;have b2:E.2.1=(d.2.1.drop f).length:=s9.rowLen;refine AA (b:=p) (j:=0) (x:=c) s9.at1 rfl<|Ai ⟨nJ,nJ,nJ⟩ ?_;have a3:(if c.2.2=oN (0:Int) then c.1 else sW (λx=>tU x (oN (0:Int) *1)) c.1)=c.1:=by
    split
    ·rfl
    ·cases c.1 with
     |none=>rfl
     |some a=>cases a;rfl
   rw[a3];refine Cr (b:=p) (j:=0) (v:=.slice c.1 (oN ((f:Nat):Int) - oN 0) (c.2.2 - oN 0)) s9.at1 rfl (pW 0) ?_;intro h8 S;have f3:=St.rowTake (S.at2) (k:=f) nJ;have f4:St ψ (⟨oW 3 (oL .i64),[.slice E.1 E.2.1 E.2.2],d.2.1.drop f⟩::(Ht p l (c.1,f,c.2.2) o (d.2.1.take f) d.1++(K P++F))) h8:=f3.perm ((BP 2 _).trans (oI _ (oZ _ _ _)));refine Af (λ(z:Int×Unit) w g=>St ψ (⟨oW 3 (oL .i64),[.slice E.1 E.2.1 E.2.2],d.2.1.drop f⟩::(Ht p l (c.1,f,c.2.2) o (d.2.1.take f) g++(K P++F))) w) (g:=W) ?_ ?_
   ·refine By e4 (λi (z:Int×Unit) w g=>z.1=i∧St ψ (⟨oW 3 (oL .i64),[.slice E.1 E.2.1 E.2.2],d.2.1.drop f⟩::(Ht p l (c.1,f,c.2.2) o (d.2.1.take f) g++(K P++F))) w) rfl ⟨rfl,f4⟩ ?_ ?_
    ·rintro i z w g e' ⟨Z,I⟩ U h0 hlt hw;subst Z;refine Ad (by rw[b2];exact mW hlt) ?_;obtain⟨y3,f5,U⟩:=bO.1 U;have⟨A7,i9,f6,f7,r7,f8⟩:=rR I f5;refine AI _ f6 (Ai f7 ?_);obtain rfl:=r7;refine AF (x:=y3) (f8 0 _ rfl) rfl<|AA (b:=l) (j:=0) (x:=o) I.at3 rfl ?_;have⟨A8,b3,q8⟩:=uB (I.at4) U;refine AI _ b3 (Ai q8 (FH (I.at4) U rfl b3 ?_));intro h9 f9;refine lH rfl rfl ⟨hw,f9.perm (BP 4 (⟨oW 3 (oL .i64),[.slice E.1 E.2.1 E.2.2],d.2.1.drop f⟩::(Ht p l (c.1,f,c.2.2) o (d.2.1.take f) e'++(K P++F)))).symm⟩
    ·rintro i z w ⟨Z,I⟩ hge;subst Z;refine AW (by rw[b2];exact mV (rD.2 hge))<|AJ (lI rfl I)
   ·rintro z2 h9 b4;refine AF (x:=some (.func gp,#[],bp)) (Ar b4.sub (Ar (D.trans le) B.part)) rfl ?_;rw[←C]at a1;refine Fb.call cp (hp a1 (F:=F++Ht p l (c.1,f,c.2.2) o (d.2.1.take f) W) (b4.perm (oI _ (List.perm_append_comm.trans (by rw[mE]))))) ?_ (λ_ _ hS=>hS.1);rintro j0 ⟨_,ψ3,v3,a0,N,g0⟩;exact AC ⟨rfl,ψ3,v3,(c.1,f,c.2.2),(D.trans le).trans a0,N,g0.perm (by rw[←mE];exact oJ)⟩
theorem U0{ll:List nH}{n:Int}{d e g h i j k:Nat}(a:Zt K al ledA gl bl)(b:WE K al partA gp bp)(cl:Fb gl)(c:Fb gp):∀f:Nat,Ts K al gl gp bl bp (Ls ll n ledA partA f) ll n t d e g h i j k
 | 0=>λ_ _ hd _=>by cases hd
 |f+1=>WF K al ledA partA gl gp bl bp a b cl c (U0 a b cl c f)
end
end
end Go.Proofs.YtfnppeejaimnbaaGreatDoor.Dg
namespace Go.Proofs.YtfnppeejaimnbaaGreatDoor.Dg
open Go Go.Eng
section
variable {s:Ae}
theorem Sm{d:List Nat}{x:Int}:∀ {k:Nat},x∈EU d k↔∃i j:Nat,i<k∧j∈Gu (d[i]?.getD 0)∧x=(i:Int) *64+(j:Int):=by
 intro k
 induction k with
 |zero=>rw[RD];simp
 |succ k f=>
  rw[Hq,oA,f,pH];constructor
  ·rintro(⟨i,j,c,a,b⟩|⟨j,c,a⟩)
   ·exact⟨i,j,nJ,a,b⟩
   ·exact⟨k,j,nJ,c,a.symm⟩
  ·rintro⟨i,j,c,a,b⟩;by_cases e:i=k
   ·subst e;exact .inr ⟨j,a,b.symm⟩
   ·exact .inl ⟨i,j,nJ,a,b⟩
theorem Zu(w:Nat):(Gu w).Pairwise (· < ·):=List.pairwise_lt_range.filter _
theorem Zv(c:List Nat):∀k:Nat,(EU c k).Pairwise (· < ·):=by
 intro k
 induction k with
 |zero=>rw[RD];exact .nil
 |succ k d=>
  rw[Hq,sR];refine⟨d,?_,?_⟩
  ·rw[tH];exact(Zu _).imp λh=>nJ
  ·intro a e b f;obtain⟨i,j,l,g,rfl⟩:=Sm.1 e;obtain⟨m,n,rfl⟩:=pH.1 f
   have:=(Pb.1 g).1
   omega
theorem U1(s:Ae):(EV s).Pairwise (· < ·):=Zv _ _
theorem Fk(H:OkS s)(x:Int):x∈EV s↔mem s x=true:=by
 unfold EV;rw[Sm];have a:∀i:Nat,(s.2.map oN)[i]?.getD 0=(s.2[i]?.getD 0).toNat:=λi=>by
  rw[sB];cases s.2[i]? <;>rfl
 constructor
 ·rintro⟨i,j,c,b,rfl⟩;rw[a]at b;have⟨e,d⟩:=Pb.1 b;rw[show(i:Int) *64+(j:Int)=((i *64+j:Nat):Int) by omega,Of];unfold Kt;rw[show(i *64+j) / 64=i by omega,show(i *64+j) % 64=j by omega];exact d
 ·intro h;have⟨f,c⟩:=Pa H h;obtain⟨k,rfl⟩:∃k:Nat,x=(k:Int):=⟨x.toNat,nJ⟩;rw[Of]at h;have g:=H.len;refine⟨k / 64,k % 64,nJ,?_,nJ⟩;rw[a];exact Pb.2 ⟨Nat.mod_lt _ nQ,h⟩
theorem JO(H:OkS s):Kc s=some (EV s):=by unfold Kc EV;have a:=H.len;have b:=H.hi;rw[mZ ⟨nJ,H.word⟩]
theorem Lu(H:OkS s){x:Int}(h:x∈EV s):0≤x∧x<s.1:=Pa H ((Fk H x).1 h)
theorem fw:∀(l:nH) {s:Ae},OkS s→l.Pairwise (· < ·)→(∀i∈l,0≤i)→
 OkS (l.foldl JN (s,false)).1∧(l.foldl JN (s,false)).1.1=s.1∧ ∀j,mem (l.foldl JN (s,false)).1 j=(mem s j || (l.contains j && decide (j<s.1))):=by
 intro l
 induction l with
 |nil=>intro s H _ _;exact⟨H,rfl,λj=>nP⟩
 |cons i l m=>
  intro s H n f;rw[qC];have a:=List.pairwise_cons.1 n;by_cases c:s.1≤i
  ·have e:JN (s,false) i=(s,true):=by unfold JN;rw[nA nP,mZ c]
   rw[e,ft l rfl];refine⟨H,rfl,λj=>?_⟩
   have:((i::l).contains j && decide (j<s.1))=false:=by
    by_cases b:j<s.1
    ·have d:j∉i::l:=by
      intro o;rcases oS.1 o with h | h
      ·omega
      ·have:=a.1 j h;omega
     have:(i::l).contains j=false:=by
      rw[Bool.eq_false_iff];intro p;exact d (sO.1 p)
     rw[this];rfl
    ·rw[mV b,Bool.and_false]
   rw[this,Bool.or_false]
  ·obtain⟨s',hd,q,k,r⟩:=add_ok H i;have e:JN (s,false) i=(s',false):=by unfold JN;rw[nA nP,nA c,hd];rfl
   rw[e];obtain⟨t,u,v⟩:=m q a.2 λi c=>f i (pQ _ c);have w:=f i nP;refine⟨t,u.trans k,λj=>?_⟩;rw[v,r,k,List.contains_cons];by_cases b:j=i
   ·subst b;rw[mW (show j=j∧0≤j∧j<s.1 by omega),mW (show j<s.1 by omega)];simp
   ·rw[mV λg=>b g.1,Bool.or_false,show(j==i)=false by simpa using b,Bool.false_or]
theorem Og{o:Ae}(H:OkS s)(K:OkS o):OkS (BT s o)∧(BT s o).1=s.1∧ ∀j,mem (BT s o) j=(mem s j || (mem o j && decide (j<s.1))):=by
 have⟨a,b,c⟩:=fw (EV o) H (U1 o) λi d=>(Lu K d).1;refine⟨a,b,λj=>?_⟩;show mem (List.foldl JN (s,false) (EV o)).1 j=_;rw[c]
 have:(EV o).contains j=mem o j:=by
  rw[Bool.eq_iff_iff,sO,Fk K]
 rw[this]
end
section
variable {φ:AD}{h:AH}{F:List Chk}
abbrev Aa(ps:List nG)(ss:List Ae):List Chk:=List.zipWith Bi ps ss
theorem J2:∀ {ps:List nG}{ss:List Ae}{i:Nat}{p:nG}{s:Ae},ps[i]? =some p→ss[i]? =some s→
 ∃rest,(Aa ps ss).Perm (Bi p s::rest)∧ ∀a s',(Aa (ps.set i a) (ss.set i s')).Perm (Bi a s'::rest):=by
 intro ps
 induction ps with
 |nil=>intro ss i p s h;simp at h
 |cons q ps d=>
  intro ss i p s c b;cases ss with
  |nil=>simp at b
  |cons t ss=>
   cases i with
   |zero=>
    simp only[pT,Option.some.injEq]at c b;subst c b;exact⟨Aa ps ss,tV _,λa s'=>tV _⟩
   |succ i=>
    obtain⟨rest,e,f⟩:=d (by simpa using c) (by simpa using b);exact⟨Bi q t::rest,(oI _ e).trans (oZ _ _ _),λa s'=>(oI _ (f a s')).trans (oZ _ _ _)⟩
theorem FM{ps:List nG}{ss:List Ae}{i:Nat}{p:nG}{s:Ae}(a:ps[i]? =some p)(b:ss[i]? =some s):
 ∃rest,(Aa ps ss).Perm (Bi p s::rest)∧ ∀s',(Aa ps (ss.set i s')).Perm (Bi p s'::rest):=by
 have⟨rest,c,d⟩:=J2 a b;refine⟨rest,c,λs'=>?_⟩
 have:=d p s'
 have e:ps.set i p=ps:=tJ λk=>by
  rw[qY];split
  ·rename_i h
   subst h;rw[a];split
   ·rfl
   ·rename_i h;rw[oO nJ]at a;cases a
  ·rfl
 rwa [e]at this
theorem MX{ps:List nG}{ss:List Ae}(a:ps.length=ss.length)(p:nG)(s:Ae):Aa (ps++ [p]) (ss++ [s])=Aa ps ss++ [Bi p s]:=by unfold Aa;rw[sS a];rfl
def fx:Ro Unit where
 sz:=0
 is φ cs _:=cs= [] ∧Glob φ
 len h:=by rw[h.1];rfl
 mono hs h:=⟨h.1,h.2.mono hs⟩
 plain h v hv:=by rw[h.1]at hv;cases hv
abbrev Zw:Chk:=⟨pU fx,[],()⟩
theorem JP(s:St φ (Zw::F) h):Glob φ∧St φ F h:=⟨(St.ro s).1.2,(St.ro s).2⟩
theorem RG(g:Glob φ)(s:St φ F h):St φ (Zw::F) h:=St.unro s ⟨rfl,g⟩
structure Oh where
 o:Slc
 ps:List nG
 ss:List Ae
 eq:ps.length=ss.length
abbrev Oi(c:Nat)(v:Oh):List Chk:=Zw::⟨oP 131,[.pointer (lF c)],[.slice v.o.1 v.o.2.1 v.o.2.2]⟩::⟨oW 187 tW,[.slice v.o.1 v.o.2.1 v.o.2.2],v.ps⟩::Aa v.ps v.ss
noncomputable def RH(a:List Ae)(x to:Int):Option (List Ae):=(idx a x).bind λs=>(idx a to).bind λo=>need (OkS s∧OkS o)<|DQ a x (BT s o)
noncomputable def QJ(a:List Ae)(l:nH):Option (List Ae):=(idx l 0).bind λb=>(forS 0 (((l.drop 1).length:Nat):Int) a λi a=>(idx (l.drop 1) i).bind λy=>RH a b y).bind λa=>forS 0 (((l.drop 1).length:Nat):Int) a λi a=>(idx (l.drop 1) i).bind λy=>(idx a b).bind λs=>(DZ s).bind λs=>DQ a y s
theorem J3{α β:Type}{ps:List α}{ss:List β}(d:ps.length=ss.length){i:Int}{s:β}(h:idx ss i=some s):0≤i∧ss[i.toNat]? =some s∧ ∃p,ps[i.toNat]? =some p∧idx ps i=some p:=by
 have⟨b,e,c⟩:=B9 h;have a:i.toNat<ps.length:=nJ
 exact⟨b,c,ps[i.toNat],bD a,by rw[MU b a]⟩
theorem U2{c:Nat}{v:Oh}{x to:Int}{s o:Ae}{p q:nG}(l:v.ss[x.toNat]? =some s)(m:v.ss[to.toNat]? =some o)(n:v.ps[x.toNat]? =some p)(t:v.ps[to.toNat]? =some q)(w:OkS s)(y:OkS o)
 (z:St φ (Oi c v++F) h):nX hC 98 [.pointer p,.pointer q] h (An λu f=>∃(ψ:AD) (g:Bool),Sub φ ψ∧u=lU.val g∧
  ∀a:Oh,a.o=v.o→a.ps=v.ps→a.ss=v.ss.set x.toNat (BT s o)→St ψ (Oi c a++F) f):=by
 have⟨g,A⟩:=JP z;have⟨r1,i,C⟩:=FM n l;have⟨D,E,_⟩:=FM t m;obtain⟨B,j⟩:∃B:List Chk,B= [⟨oP 131,[.pointer (lF c)],[.slice v.o.1 v.o.2.1 v.o.2.2]⟩,⟨oW 187 tW,[.slice v.o.1 v.o.2.1 v.o.2.2],v.ps⟩]:=⟨_,rfl⟩;have G:St φ (B++(Aa v.ps v.ss++F)) h:=by rw[j];exact A
 have b:∀(p:nG) (s:Ae) (r:List Chk) (L:List Chk),L.Perm (Bi p s::r)→(B++(L++F)).Perm (Bi p s::(B++(r++F))):=λp s r L H=>((qU B (oH F H)).trans pA);have I:=G.perm (b p s r1 _ i);have d:=(b p s r1 _ i).symm.trans (b q o D _ E);refine(YD g w y d I).mono ?_;rintro e f ⟨u,rfl,ψ,J,le,rfl,K⟩;refine⟨_,rfl,ψ,J,le,rfl,?_⟩;rintro⟨P,M,N,O⟩ rfl rfl rfl;refine RG (g.mono le) ?_;have k:=K.perm (b p (BT s o) r1 _ (C _)).symm;rw[j]at k;exact k
theorem WG{c:Nat}{v:Oh}{x to:Int}{w:List Ae}(hd:RH v.ss x to=some w)(y:St φ (Oi c v++F) h):
 nX hC 102 [.int .i64 x,.int .i64 to,.pointer (lF c)] h (An λu z=>u= .tuple #[] ∧ ∃(ψ:AD) (v':Oh),Sub φ ψ∧v'.ss=w∧St ψ (Oi c v'++F) z):=by unfold RH at hd;have⟨s,A,hd⟩:=bO.1 hd;have⟨o,B,hd⟩:=bO.1 hd;obtain⟨⟨C,D⟩,hd⟩:=CG hd;obtain⟨_,d,p,E,e⟩:=J3 v.eq A;obtain⟨_,f,q,G,i⟩:=J3 v.eq B;refine A9 mixed func102 ?_;rw[Mr];unfold IU;have a:=(JP y).2;refine AA (b:=c) (j:=0) (x:=v.o) a rfl ?_;have⟨M,I,k,l,r1,m⟩:=rR (a.at1) e;refine AI _ k (Ai l ?_);obtain rfl:=r1;refine AF (m 0 _ rfl) rfl<|AA (b:=c) (j:=0) (x:=v.o) a rfl ?_;have⟨N,J,n,r,K,t⟩:=rR (a.at1) i;refine AI _ n (Ai r ?_);obtain rfl:=K;refine AF (t 0 _ rfl) rfl<|AK (U2 d f E G C D y) ?_;rintro _ O ⟨ψ,g,le,rfl,H⟩;refine⟨g,rfl,?_⟩;obtain⟨P,L,rfl⟩:=EL hd;exact AC ⟨rfl,ψ,⟨v.o,v.ps,v.ss.set x.toNat (BT s o),by rw[pJ];exact v.eq⟩,le,rfl,H _ rfl rfl rfl⟩
theorem WH{c:Nat}{v:Oh}{t:Slc}{l:nH}{a':List Ae}(hd:QJ v.ss l=some a')(s0:St φ (⟨oW 3 (oL .i64),[.slice t.1 t.2.1 t.2.2],l⟩::(Oi c v++F)) h):
 nX hC 104 [.slice t.1 t.2.1 t.2.2,.pointer (lF c)] h (An λu h'=>u= .tuple #[] ∧ ∃(ψ:AD) (a:Oh),Sub φ ψ∧a.ss=a'∧St ψ (Oi c a++F) h'):=by
 unfold QJ at hd;have⟨l0,D,hd⟩:=bO.1 hd;have⟨a1,a6,hd⟩:=bO.1 hd;obtain⟨ψ0,a7,k0,s1⟩:=s0.freezeRow;have W:=k0.length;have⟨_,c7,_⟩:=B9 D;have X:cut l 1 (t.2.1:Int)=some (l.drop 1):=by
  unfold cut;rw[mZ ⟨nJ,nJ,nJ⟩,pS,W,qO];rfl
 have⟨q1,kt⟩:=k0.cut X (sz:=1) rfl;refine A9 mixed func104 ?_;rw[Ms];unfold IV;refine Ai q1 ?_;have m:=kt.length;dsimp only at m;refine Af (λ(z:Int×Unit) w (g:List Ae)=>∃(ψ:AD) (a:Oh),Sub ψ0 ψ∧a.ss=g∧St ψ (Oi c a++F) w) (g:=a1) ?_ ?_
 ·refine By a6 (λi (z:Int×Unit) w g=>z.1=i∧ ∃(ψ:AD) (a:Oh),Sub ψ0 ψ∧a.ss=g∧St ψ (Oi c a++F) w) rfl ⟨rfl,ψ0,v,pL _,rfl,s1⟩ ?_ ?_
  ·rintro i z w g e ⟨E,ψ,a,le,G,st⟩ d h0 hlt hw;subst E;subst G;refine Ad (by rw[m];exact mW hlt) ?_;have⟨y,hy,d⟩:=bO.1 d;obtain⟨A1,a8,I,J,r1,K⟩:=(kt.mono le).get hy;refine AI _ I (Ai J ?_);obtain rfl:=r1;refine AF (Ar st.sub (K 0 _ rfl)) rfl ?_;unfold RH at d;have⟨s,hs,d⟩:=bO.1 d;have⟨o,ho,d⟩:=bO.1 d;obtain⟨⟨ks,ko⟩,d⟩:=CG d;obtain⟨_,L,p,hp,M⟩:=J3 a.eq hs;obtain⟨_,a9,q,hq,b0⟩:=J3 a.eq ho;have f:=(JP st).2;refine AA (b:=c) (j:=0) (x:=a.o) f rfl ?_;obtain⟨A0,b1,N,O,r0,P⟩:=(k0.mono le).get D;refine AI _ N (Ai O ?_);obtain rfl:=r0;refine AF (Ar st.sub (P 0 _ rfl)) rfl ?_;have⟨A2,b2,Q,R,r2,S⟩:=rR (f.at1) M;refine AI _ Q (Ai R ?_);obtain rfl:=r2;refine AF (S 0 _ rfl) rfl<|AA (b:=c) (j:=0) (x:=a.o) f rfl ?_;have⟨A3,c8,b3,b4,r3,b5⟩:=rR (f.at1) b0;refine AI _ b3 (Ai b4 ?_);obtain rfl:=r3;refine AF (b5 0 _ rfl) rfl<|AK (U2 L a9 hp hq ks ko st) ?_;rintro _ h1 ⟨A,g2,k,rfl,H⟩;refine⟨g2,rfl,?_⟩;obtain⟨c9,d0,rfl⟩:=EL d;exact lH rfl rfl ⟨hw,A,⟨a.o,a.ps,a.ss.set l0.toNat (BT s o),by rw[pJ];exact a.eq⟩,le.trans k,rfl,H _ rfl rfl rfl⟩
  ·rintro i z w ⟨E,H⟩ hge;subst E;refine AW (by rw[m];exact mV (rD.2 hge))<|AJ (lI rfl H)
 ·rintro _ h2 ⟨ψ1,v1,Y,rfl,f⟩;refine Ai q1<|Af (λ(z:Int×Unit) w (g:List Ae)=>∃(ψ:AD) (a:Oh),Sub ψ1 ψ∧a.ss=g∧St ψ (Oi c a++F) w) (g:=a') ?_ ?_
  ·refine By hd (λi (z:Int×Unit) w g=>z.1=i∧ ∃(ψ:AD) (a:Oh),Sub ψ1 ψ∧a.ss=g∧St ψ (Oi c a++F) w) rfl ⟨rfl,ψ1,v1,pL _,rfl,f⟩ ?_ ?_
   ·rintro i z w g e ⟨E,ψ,a,Z,G,st⟩ d h0 hlt hw;have le:=Y.trans Z;subst E;subst G;refine Ad (by rw[m];exact mW hlt) ?_;have⟨y,hy,d⟩:=bO.1 d;obtain⟨A1,a8,I,J,r1,K⟩:=(kt.mono le).get hy;refine AI _ I (Ai J ?_);obtain rfl:=r1;refine AF (Ar st.sub (K 0 _ rfl)) rfl ?_;have⟨s,hs,d⟩:=bO.1 d;obtain⟨s',b6,d⟩:=bO.1 d;obtain⟨_,L,p,hp,M⟩:=J3 a.eq hs;have⟨g0,r⟩:=JP st;refine AA (b:=c) (j:=0) (x:=a.o) r rfl<|AA (b:=c) (j:=0) (x:=a.o) r rfl ?_;obtain⟨A0,b1,N,O,r0,P⟩:=(k0.mono le).get D;refine AI _ N (Ai O ?_);obtain rfl:=r0;refine AF (Ar st.sub (P 0 _ rfl)) rfl ?_;have⟨A2,b2,Q,R,r2,S⟩:=rR (r.at1) M;refine AI _ Q (Ai R ?_);obtain rfl:=r2;refine AF (S 0 _ rfl) rfl ?_;obtain⟨rr,b7,d1⟩:=FM hp L;obtain⟨B,hB⟩:∃B:List Chk,B= [⟨oP 131,[.pointer (lF c)],[.slice a.o.1 a.o.2.1 a.o.2.2]⟩,⟨oW 187 tW,[.slice a.o.1 a.o.2.1 a.o.2.2],a.ps⟩]:=⟨_,rfl⟩;have T:St ψ (B++(Aa a.ps a.ss++F)) w:=by rw[hB];exact r
    have mv:(B++(Aa a.ps a.ss++F)).Perm (Bi p s::(B++(rr++F))):=(qU B (oH F b7)).trans pA;refine AK (Mv (T.perm mv) b6) ?_;rintro _ h3 ⟨A,n,V,k,rfl,rfl,b8⟩;refine⟨n,rfl,?_⟩;have a0:St A (Bi n V::(B++(Aa a.ps a.ss++F))) h3:=b8.perm (oI _ mv.symm);have U:St A (⟨oP 131,[.pointer (lF c)],[.slice a.o.1 a.o.2.1 a.o.2.2]⟩::⟨oW 187 tW,[.slice a.o.1 a.o.2.1 a.o.2.2],a.ps⟩::Bi n V::(Aa a.ps a.ss++F)) h3:=by
     rw[hB]at a0;exact a0.perm ((oZ _ _ _).trans (oI _ (oZ _ _ _)))
    refine AP (U.cell rfl) ?_;obtain⟨y0,y1,rfl⟩:=EL d;have b9:y.toNat<a.ps.length:=by have:=a.eq;omega
    have C:DQ a.ps y n=some (a.ps.set y.toNat n):=by unfold DQ;rw[mZ ⟨y0,by have:=a.eq;omega⟩]
    have⟨A4,a2,q4⟩:=uB (U.at1) C;refine AI _ a2 (Ai q4 (FH (U.at1) C (v:=.pointer n) rfl a2 ?_));intro h4 c0;have c3:a.ps[y.toNat]? =some a.ps[y.toNat]:=bD b9;have c4:a.ss[y.toNat]? =some (a.ss[y.toNat]'(by have:=a.eq;omega)):=bD _;have⟨r3,c1,c2⟩:=J2 c3 c4;refine lH rfl rfl ⟨hw,A,⟨a.o,a.ps.set y.toNat n,a.ss.set y.toNat V,by rw[pJ,pJ];exact a.eq⟩,Z.trans k,rfl,?_⟩;refine RG (g0.mono k) ?_;have c5:St A (Bi n V::(Aa a.ps a.ss++(⟨oP 131,[.pointer (lF c)],[.slice a.o.1 a.o.2.1 a.o.2.2]⟩::⟨oW 187 tW,[.slice a.o.1 a.o.2.1 a.o.2.2],a.ps.set y.toNat n⟩::F))) h4:=by
     refine c0.perm<|((oI _ (oZ _ _ _)).trans (oZ _ _ _)).trans (oI _ ?_);refine(rS ?_ (pA (l₁:=Aa a.ps a.ss)).symm);refine(rS (oZ _ _ _) (oI _ ?_));exact(pA (l₁:=Aa a.ps a.ss)).symm
    have c6:=c5.perm (oI _ (oH _ c1));have a3:=(c6.at 1).tail;have a4:=a3.perm (((oH _ (c2 n V)).symm:(Bi n V::r3++_).Perm _));refine a4.perm<|(pA (l₁:=Aa _ _)).trans (oI _ (pA (l₁:=Aa _ _)))
   ·rintro i z w ⟨E,H⟩ hge;subst E;refine AW (by rw[m];exact mV (rD.2 hge))<|AJ (lI rfl H)
  ·rintro _ h3 ⟨A,v2,k,a5,T⟩;exact AC ⟨rfl,A,v2,(a7.trans Y).trans k,a5,T⟩
end
theorem St.box{φ:AD}{h:AH}{Γ:List Chk}{ty:uE}{b:Nat}{v:uD}(H:St φ (⟨oP ty,[.pointer (lF b)],[v]⟩::Γ) h):∃ψ,Sub φ ψ∧Ef ψ ⟨b,0,none⟩=some v∧St ψ Γ h:=by
 obtain⟨ψ,F,le,⟨f,e,a,c⟩,d,s⟩:=St.hide H;cases e;refine⟨ψ,le,?_,s⟩
 have:=d b ((c b).2 rfl)
 unfold Ef;dsimp only;rw[this,a];rfl
noncomputable def ek(n vp:uD)(a:nG)(b c:Nat)(f:Int):T:=jO #[.slice a b c] 57 λr1=>jO #[lN f] 3 λg=>jO #[n] 198 λr3=>jO #[vp] 182 λo=>jY g 0 λt5=>T.sem (Instr.makeSlice 30 (lN t5) (lN t5)) lS λt6=>jO #[lO] 30 λh=>jV h 0 (.slice t6.1 t6.2.1 t6.2.2)<|jO #[lO] 30 λp=>jO #[.nilFunc] 232 λi=>jV i 0 (.func (.func 136) #[] #[lP (lF p),lP (lF h),lP (lF r1),lP (lF g),lP (lF i),lP (lF r3),lP (lF o)])<|jY g 0 λj=>T.block 0 lZ (T.loop lZ [lN 0] λd=>cond (decide (d.1<j)) (jM h 0 λe=>nW e.1 λk=>chk (0≤d.1∧d.1< (e.2.1:Nat))<|jR k d.1 1 λl=>T.join [] (cond (l==(0:Int)) (T.load .func ⟨i,0,none⟩ λm=>LP false hC (Bc.val .func m) #[lN d.1] λq=>T.out []) (T.out [])) λr=>T.out [lN (oF .i64 (d.1+(1:Int)))]) (T.brk 0 [lN d.1])) λs=>T.ret (.tuple #[])
theorem iQ:Sc hC 30 3 (.int .i64 0):=⟨underlying30,⟨t3,nU,rfl,⟨_,rfl,rfl⟩,nQ⟩⟩
section
variable {X A:Type}(K:X→List Chk) (al:X→A) (ledA:A→Int→Int→Option A) (partA:A→nH→Option A) (gl gp:Nat) (bl bp:Array uD)
theorem Zx{φ:AD}{h:AH}{F:List Chk}{ll:List nH}{n:Int}{t:Slc}{fuel:Nat}{v:X}{q:EG A}(hl:Zt K al ledA gl bl)(hp:WE K al partA gp bp)(cl:Fb gl)(cp:Fb gp)
 (D:Ab hC f103 [.slice t.1 t.2.1 t.2.2,.int .i64 n,.func (.func gl) #[] bl,.func (.func gp) #[] bp] =ek (.func (.func gl) #[] bl) (.func (.func gp) #[] bp) t.1 t.2.1 t.2.2 n)
 (k:oG (rU (oL .i64)) φ t ll) (hd:Si ll n ledA partA fuel (al v)=some q) (s0:St φ (K v++F) h):
 nX hC 103 [.slice t.1 t.2.1 t.2.2,.int .i64 n,.func (.func gl) #[] bl,.func (.func gp) #[] bp] h (An λu h'=>u= .tuple #[] ∧ ∃(ψ:AD) (C:X),Sub φ ψ∧al C=q.2.2∧St ψ (K C++F) h'):=by
 refine A9 mixed func103 ?_;rw[D];unfold ek;unfold Si at hd;obtain⟨⟨N,O⟩,hd⟩:=CG hd;refine AU (vs:=[.slice t.1 t.2.1 t.2.2]) s0 ?_;intro r1 h1 P;have⟨φ1,Q,c1,P⟩:=St.box P;refine AU (vs:=[.int .i64 n]) P ?_;intro R h2 S;have⟨φ2,f,c2,S⟩:=St.box S;refine AU (vs:=[.func (.func gl) #[] bl]) S ?_;intro r3 h3 T;have⟨φ3,m,c3,T⟩:=St.box T;refine AU (vs:=[.func (.func gp) #[] bp]) T ?_;intro U h4 L;have⟨φ4,a,c4,L⟩:=St.box L;refine AF (x:=n) (Ar L.sub (Ar (m.trans a) c2)) rfl<|FW (r:=oL .i64) (x:=(0:Int)) (l:=qN n.toNat 0) iQ L rfl rfl (by unfold EC;rw[mZ ⟨N,O⟩]) ?_;intro o h5 s5;refine AU (vs:=[.slice none 0 0]) s5 ?_;intro p h6 s6;refine Cr (b:=p) (j:=0) (v:=.slice o.1 o.2.1 o.2.2) s6 rfl (pW 0) ?_;intro h7 s7;refine AU (vs:=[.slice none 0 0]) s7 ?_;intro s h8 s8;refine AU (vs:=[.nilFunc]) s8 ?_;intro M h9 s9;refine Cr (b:=M) (j:=0) (v:=.func (.func 136) #[] (Hc s p r1 R M r3 U)) s9 rfl (pW 0) ?_;intro V W;have⟨y,c,c9,Y⟩:=St.box W;have B:RF gl gp bl bp y t n s p r1 R M r3 U:=⟨Ar (((f.trans m).trans a).trans c) c1,Ar ((m.trans a).trans c) c2,c9,Ar (a.trans c) c3,Ar c c4⟩;have E:Sub φ y:=(((Q.trans f).trans m).trans a).trans c;have G:St y (Ht s p (none,0,0) o [] (qN n.toNat 0) ++(K v++F)) V:=by
  have:=uC 3 (oL .i64) Y
  exact this.at1
 refine AF (x:=n) (Ar G.sub B.num) rfl<|Af (λ(z:Int×Unit) w g=>Sl K al s p o F y w g) (g:=q) ?_ ?_
 ·refine By hd (λi (z:Int×Unit) w g=>z.1=i∧Sl K al s p o F y w g) rfl ⟨rfl,y,v,(none,0,0),pL _,rfl,G⟩ ?_ ?_
  ·rintro i z w g e ⟨Z,ψ,C,I,le,d,st⟩ he h0 hlt hw;subst Z;refine Ad (mW hlt) ?_;have⟨e0,a0,he⟩:=bO.1 he;refine AA (b:=p) (j:=0) (x:=o) st.at2 rfl ?_;have⟨A2,a6,a1,a2,q2,a3⟩:=rR (st.at3) a0;refine AI _ a1 (Ai a2 ?_);obtain rfl:=q2;refine AF (x:=e0) (a3 0 _ rfl) rfl<|AY (λ(_:Unit) w g=>Sl K al s p o F y w g) (g:=e) ?_ ?_
   ·refine mP he rfl (λhg=>?_) (λhg=>?_)
    ·refine AF (x:=some (.func 136,#[],Hc s p r1 R M r3 U)) (Ar st.sub (Ar le B.visit)) rfl ?_;obtain⟨a7,a8,a9⟩:=e;obtain⟨b0,b1,b2⟩:=g;dsimp only at d;subst d;refine Fb.call Uz (U0 K al ledA partA gl gp bl bp hl hp cl cp fuel (RF.mono gl gp bl bp B le) (k.mono (E.trans le)) hg st) ?_ (λ_ _ hS=>hS.1);rintro h6 ⟨_,ψ2,v2,a4,f,J,a5⟩;exact lG rfl ⟨ψ2,v2,a4,le.trans f,J,a5⟩
    ·obtain rfl:=Option.some.inj hg;exact lG rfl ⟨ψ,C,I,le,d,st⟩
   ·rintro _ h6 H;exact lH rfl rfl ⟨hw,H⟩
  ·rintro i z w ⟨Z,H⟩ hge;subst Z;refine AW (mV (rD.2 hge))<|AJ (lI rfl H)
 ·rintro z b3 ⟨ψ,C,I,le,d,st⟩;exact AC ⟨rfl,ψ,C,E.trans le,d,st.tail.tail.tail.tail⟩
end
theorem Zy:Fb 102:=⟨f102,func102,nQ,nU,nU⟩
theorem Zz:Fb 104:=⟨f104,func104,nQ,nU,nU⟩
theorem YE{φ:AD}{h:AH}{F:List Chk}{ll:List nH}{n:Int}{t:Slc}{fuel:Nat}{c:Nat}{v:Oh}{a:EG (List Ae)}(k:oG (rU (oL .i64)) φ t ll)(hd:Si ll n RH QJ fuel v.ss=some a)(b:St φ (Oi c v++F) h):
 nX hC 103 [.slice t.1 t.2.1 t.2.2,.int .i64 n,.func (.func 102) #[] #[.pointer (lF c)],.func (.func 104) #[] #[.pointer (lF c)]] h (An λu d=>u= .tuple #[] ∧ ∃(ψ:AD) (v':Oh),Sub φ ψ∧v'.ss=a.2.2∧St ψ (Oi c v'++F) d):=
 Zx (Oi c) Oh.ss RH QJ 102 104 #[.pointer (lF c)] #[.pointer (lF c)] (λhd s=>WG hd s) (λhd s=>WH hd s) Zy Zz (Nx _ _ _ _ _ _) k hd b
end Go.Proofs.YtfnppeejaimnbaaGreatDoor.Dg
namespace Go.Proofs.YtfnppeejaimnbaaGreatDoor
open Go Go.Eng
noncomputable def N3(s_0:DN):Option Int:=some (s_0.1)
theorem Gv{φ:AD}{h:AH}{F:List Chk}{s_0:nG}{a:DN}(c:St φ (cO 226 E7 s_0 a::F) h){r:Int}(hd:N3 a=some r):
 nX hC 100 [lP s_0] h (An (mN φ r (cO 226 E7 s_0 a::F))):=by refine AT mixed func100 (Lj ..) ?_;obtain⟨d,e,rfl,b⟩:=OQ c;refine AI _ rfl<|AA b.at1 rfl ?_;exact AC ⟨φ,a.1,sb,rfl,iS hd,(Jp (x0:=(a.1)) b.at1.at1)⟩
end Go.Proofs.YtfnppeejaimnbaaGreatDoor
namespace Go.Proofs.YtfnppeejaimnbaaGreatDoor.Dg
open Go Go.Eng
section
variable {φ:AD}{h:AH}{F:List Chk}
theorem Sn:Fy hC 131 131 187 1:=⟨sX,.inl sX,⟨t187,nU,rfl,⟨_,rfl,rfl⟩,nQ,nQ⟩,nQ⟩
theorem XK:Fy hC 57 57 30 1:=⟨tL,.inl tL,⟨t30,nU,rfl,⟨_,rfl,rfl⟩,nQ,nQ⟩,nQ⟩
abbrev Fq(t:Slc)(ps:List nG):Chk:=⟨oW 187 tW,[.slice t.1 t.2.1 t.2.2],ps⟩
abbrev WI(t:Slc)(ls:List nH):Chk:=⟨oW 30 (rU (oL .i64)),[.slice t.1 t.2.1 t.2.2],ls⟩
theorem Hu{α β:Type}{l l':List α}{x:α}(h:app l [x] =some l'){m:List β}(c:m.length=l.length)(y:β):app m [y] =some (m++ [y])∧l'=l++ [x]:=by have⟨a,b⟩:=JD h;refine⟨?_,b⟩;unfold app;simp at a ⊢;omega
theorem RI{ps:List nG}{ss:List Ae}{t:Slc}{p:nG}{s:Ae}(a:ps.length=ss.length)(H:St φ (Fq t (ps++ [p])::Bi p s::(Aa ps ss++F)) h):St φ (Fq t (ps++ [p])::(Aa (ps++ [p]) (ss++ [s]) ++F)) h:=by rw[MX a,mE];exact H.perm (oI _ (pA (l₁:=Aa ps ss)).symm)
theorem Hv{ps:List nG}{ss:List Ae}{i:Nat}{p:nG}{s:Ae}(b:ps[i]? =some p)(c:ss[i]? =some s)(H:St φ (Aa ps ss++F) h):
 ∃r,St φ (Bi p s::(r++F)) h∧ ∀(ψ:AD) (h':AH) (Γ:List Chk),St ψ (Γ++Bi p s::(r++F)) h'→St ψ (Γ++(Aa ps ss++F)) h':=by have⟨r,a,_⟩:=FM b c;exact⟨r,H.perm (oH F a),λψ h' Γ H'=>H'.perm (qU Γ (oH F a).symm)⟩
theorem ep(A B C:List Chk):(A++(B++C)).Perm (B++(A++C)):=by rw[←mE,←mE];exact oH _ oJ
theorem Oj{p:nG}{s:Ae}(c:Glob φ)(d:St φ (Bi p s::F) h){r:nH}(hd:Kc s=some r):
 nX hC 101 [.pointer p] h (An λv b=>∃(ψ:AD) (y:Slc),Sub φ ψ∧v=lS.val y∧oG (oL .i64) ψ y r∧St ψ (Bi p s::F) b):=by refine(Zo c d hd).mono ?_;rintro e b ⟨v,rfl,ψ,y,l,le,rfl,rfl,f⟩;obtain⟨g,a,i,j⟩:=f.freezeRow;exact⟨_,rfl,g,y,le.trans a,rfl,i,j⟩
noncomputable def Iu(ll:List nH)(B:List Ae):Option (List Ae):=(forS 0 (B.length:Int) 0 λi w=>(idx B i).bind λs=>some (if s.1>w then s.1 else w)).bind λwide=>(forS 0 (B.length:Int) ([]:List Ae) λi b=>(idx B i).bind λs=>(Kc s).bind λl=>(DY wide l).bind λs'=>app b [s']).bind λall=>(Si ll (B.length:Int) RH QJ B.length all).bind λst=>forS 0 (B.length:Int) ([]:List Ae) λi b=>(idx B i).bind λs=>(idx st.2.2 i).bind λa=>(Kc a).bind λl=>(DY s.1 l).bind λs'=>app b [s']
theorem So{t b:Slc}{ll:List nH}{B:List Ae}{ps:List nG}(gk:Glob φ)(k:oG (rU (oL .i64)) φ t ll)(kb:oG tW φ b ps)(hl:ps.length=B.length)(s0:St φ (Aa ps B++F) h){r:List Ae}(hd:Iu ll B=some r):
 nX hC 59 [.slice t.1 t.2.1 t.2.2,.slice b.1 b.2.1 b.2.2] h (An λv h'=>∃(ψ:AD) (y:Slc) (qs:List nG),Sub φ ψ∧v=lS.val y∧qs.length=r.length∧St ψ (Fq y qs::(Aa qs r++(Aa ps B++F))) h'):=by
 refine A9 mixed func59 ?_;rw[OX];unfold Kb;unfold Iu at hd;have⟨wide,c2,a9⟩:=bO.1 hd;clear hd;have⟨all,a1,b0⟩:=bO.1 a9;clear a9;obtain⟨m,b1,c3⟩:=bO.1 b0;clear b0;have nb:b.2.1=B.length:=kb.length.trans hl;refine Af (λ(z:Int×Int×Unit) w (g:Int)=>z.2.1=g∧ ∃ψ,Sub φ ψ∧St ψ (Aa ps B++F) w) (g:=wide) ?_ ?_
 ·refine By c2 (λi (z:Int×Int×Unit) w (g:Int)=>z.1=i∧z.2.1=g∧ ∃ψ,Sub φ ψ∧St ψ (Aa ps B++F) w) rfl ⟨rfl,rfl,φ,pL _,s0⟩ ?_ ?_
  ·rintro i z w g e ⟨G,hg,ψ,le,st⟩ n h0 hlt hw;subst G;subst hg;refine Ad (by rw[nb];exact mW hlt) ?_;have⟨s,hs,n⟩:=bO.1 n;obtain rfl:=Option.some.inj n;obtain⟨_,I,p,hp,J⟩:=J3 hl hs;obtain⟨A1,b2,K,N,r1,O⟩:=(kb.mono le).get J;refine AI _ K (Ai N ?_);obtain rfl:=r1;refine AF (Ar st.sub (O 0 _ rfl)) rfl ?_;have⟨rr,q1,q2⟩:=Hv hp I st;refine AK (Gv q1 (r:=s.1) rfl) ?_;rintro _ Z ⟨ψ1,y,a2,rfl,rfl,C⟩;exact⟨s.1,rfl,lH rfl rfl ⟨hw,rfl,ψ1,le.trans a2,q2 ψ1 Z [] C⟩⟩
  ·rintro i z w ⟨G,H⟩ hge;subst G;refine AW (by rw[nb];exact mV (rD.2 hge))<|AJ (lI rfl H)
 ·rintro z1 Z ⟨rfl,ψ1,a2,s1⟩;refine AU (vs:=[.slice none 0 0]) s1 ?_;intro A P s2;refine Af (λ(z:Int×Unit) w (g:List Ae)=>∃(ψ:AD) (o:Slc) (qs:List nG),Sub φ ψ∧qs.length=g.length∧St ψ (⟨oP 131,[.pointer (lF A)],[.slice o.1 o.2.1 o.2.2]⟩::Fq o qs::(Aa qs g++(Aa ps B++F))) w) (g:=all) ?_ ?_
  ·refine By a1 (λi (z:Int×Unit) w (g:List Ae)=>z.1=i∧ ∃(ψ:AD) (o:Slc) (qs:List nG),Sub φ ψ∧qs.length=g.length∧St ψ (⟨oP 131,[.pointer (lF A)],[.slice o.1 o.2.1 o.2.2]⟩::Fq o qs::(Aa qs g++(Aa ps B++F))) w) rfl ⟨rfl,ψ1,(none,0,0),[],a2,rfl,(uC 187 tW s2).at1⟩ ?_ ?_
   ·rintro i z w g e ⟨G,ψ,o,qs,le,D,st⟩ n h0 hlt hw;subst G;refine Ad (by rw[nb];exact mW hlt) ?_;have⟨s,hs,n⟩:=bO.1 n;have⟨l,a3,n⟩:=bO.1 n;obtain⟨s',a4,n⟩:=bO.1 n;obtain⟨_,I,p,hp,J⟩:=J3 hl hs;obtain⟨A1,b2,K,N,r1,O⟩:=(kb.mono le).get J;refine AI _ K (Ai N ?_);obtain rfl:=r1;refine AF (Ar st.sub (O 0 _ rfl)) rfl<|AA (b:=A) (j:=0) (x:=o) st rfl ?_;obtain⟨Γ,hΓ⟩:∃Γ:List Chk,Γ=(⟨oP 131,[.pointer (lF A)],[.slice o.1 o.2.1 o.2.2]⟩::Fq o qs::Aa qs g):=⟨_,rfl⟩;have C:St ψ (Aa ps B++(Γ++F)) w:=by
     have:St ψ (Γ++(Aa ps B++F)) w:=by rw[hΓ];exact st
     refine this.perm ?_;rw[←mE,←mE];exact oH F oJ
    have⟨rr,q1,q2⟩:=Hv hp I C;refine AK (Oj (gk.mono le) q1 a3) ?_;rintro _ h3 ⟨ψ2,y,Q,rfl,k2,a5⟩;refine⟨y,rfl,?_⟩;have back:∀ {ψ:AD} {h':AH} (Δ:List Chk),St ψ (Δ++(Aa ps B++(Γ++F))) h'→St ψ (⟨oP 131,[.pointer (lF A)],[.slice o.1 o.2.1 o.2.2]⟩::Fq o qs::(Δ++(Aa qs g++(Aa ps B++F)))) h':=λ{ψ h'} Δ H=>by
     rw[hΓ]at H;refine H.perm<|rS (l₂:=Δ++((⟨oP 131,[.pointer (lF A)],[.slice o.1 o.2.1 o.2.2]⟩::Fq o qs::Aa qs g) ++(Aa ps B++F))) (qU Δ ?_) ?_
     ·rw[←mE,←mE];exact oH _ oJ
     ·exact(pA (l₁:=Δ)).trans (oI _ (pA (l₁:=Δ)))
    have W:=back [] (q2 ψ2 h3 [] a5);refine AP (W.cell rfl)<|AK (FL k2 W a4) ?_;rintro _ h4 ⟨ψ3,R,l3,a6,rfl,rfl,E⟩;refine⟨R,rfl,AP (E.at1.cell rfl)<|AU (vs:=[.pointer R]) E ?_⟩;intro d4 S T;have cw:=rP T;refine AP (T.at2.cell rfl) ?_;obtain⟨a7,rfl⟩:=Hu n D R;refine AV (ms:=[R]) Sn (T.tail.at2) rfl cw (.cons (a:=[_]) rfl .nil) rfl a7 ?_;intro X h6 a8;refine Cr (b:=A) (j:=0) (v:=.slice X.1 X.2.1 X.2.2) (a8.at2) rfl (pW 0) ?_;intro h7 Y;exact lH rfl rfl ⟨hw,ψ3,X,qs++ [R],(le.trans Q).trans a6,by simp[D],(RI D (Y.tail) |>λH=>by
     rw[MX D,mE];refine Y.perm (oI _ (oI _ ?_));exact(pA (l₁:=Aa qs g)).symm)⟩
   ·rintro i z w ⟨G,H⟩ hge;subst G;refine AW (by rw[nb];exact mV (rD.2 hge))<|AJ (lI rfl H)
  ·rintro z7 h3 ⟨ψ2,o,qs,Q,D,s3⟩;rw[←nb]at b1;have s4:St ψ2 (Oi A ⟨o,qs,all,D⟩ ++(Aa ps B++F)) h3:=RG (gk.mono Q) s3;refine AK (YE (v:=⟨o,qs,all,D⟩) (k.mono Q) b1 s4) ?_;rintro _ h4 ⟨rfl,ψ3,v',a6,b3,s5⟩;refine⟨(),rfl,?_⟩;obtain⟨f,d,d3,b4⟩:=v';dsimp only at b3 s5;subst b3;have⟨c4,s6⟩:=JP s5;have a0:=Q.trans a6;refine Af (λ(z:Int×Slc×Unit) w (g:List Ae)=>∃(ψ:AD) (us:List nG),Sub ψ3 ψ∧us.length=g.length∧St ψ (Fq z.2.1 us::(Aa us g++(⟨oP 131,[.pointer (lF A)],[.slice f.1 f.2.1 f.2.2]⟩::Fq f d::(Aa d m.2.2++(Aa ps B++F))))) w) (g:=r) ?_ ?_
   ·refine By c3 (λi (z:Int×Slc×Unit) w (g:List Ae)=>z.1=i∧ ∃(ψ:AD) (us:List nG),Sub ψ3 ψ∧us.length=g.length∧St ψ (Fq z.2.1 us::(Aa us g++(⟨oP 131,[.pointer (lF A)],[.slice f.1 f.2.1 f.2.2]⟩::Fq f d::(Aa d m.2.2++(Aa ps B++F))))) w) rfl ⟨rfl,ψ3,[],pL _,rfl,uC _ _ s6⟩ ?_ ?_
    ·rintro i z w g e ⟨G,ψ,us,le,U,st⟩ n h0 hlt hw;subst G;refine Ad (by rw[nb];exact mW hlt) ?_;have⟨s,hs,n⟩:=bO.1 n;have⟨a,ha,n⟩:=bO.1 n;have⟨l,a3,n⟩:=bO.1 n;obtain⟨s',a4,n⟩:=bO.1 n;obtain⟨_,I,p,hp,J⟩:=J3 hl hs;obtain⟨_,a1,q,hq,b5⟩:=J3 b4 ha;obtain⟨A1,b2,K,N,r1,O⟩:=(kb.mono (a0.trans le)).get J;refine AI _ K (Ai N ?_);obtain rfl:=r1;refine AF (Ar st.sub (O 0 _ rfl)) rfl ?_;obtain⟨u,V⟩:∃u:List Chk,u=Fq z.2.1 us::Aa us g:=⟨_,rfl⟩;have C:St ψ (⟨oP 131,[.pointer (lF A)],[.slice f.1 f.2.1 f.2.2]⟩::Fq f d::(Aa d m.2.2++(Aa ps B++(F++u)))) w:=by
      have:St ψ (u++(⟨oP 131,[.pointer (lF A)],[.slice f.1 f.2.1 f.2.2]⟩::Fq f d::(Aa d m.2.2++(Aa ps B++F)))) w:=by rw[V];exact st
      have P:=this.perm oJ;simp only[pM,mE]at P;exact P
     refine AA (b:=A) (j:=0) (x:=f) C rfl ?_;have⟨A2,d5,b6,c5,r2,c6⟩:=rR (C.at1) b5;refine AI _ b6 (Ai c5 ?_);obtain rfl:=r2;refine AF (c6 0 _ rfl) rfl ?_;obtain⟨Y1,b7⟩:∃Y1:List Chk,Y1=(⟨oP 131,[.pointer (lF A)],[.slice f.1 f.2.1 f.2.2]⟩::Fq f d::Aa d m.2.2):=⟨_,rfl⟩;have a5:St ψ (Aa ps B++(Y1++(F++u))) w:=by
      have:St ψ (Y1++(Aa ps B++(F++u))) w:=by rw[b7];exact C
      exact this.perm (ep _ _ _)
     have⟨rr,q1,q2⟩:=Hv hp I a5;refine AK (Gv q1 (r:=s.1) rfl) ?_;rintro _ S ⟨ψ4,y4,b8,rfl,rfl,W⟩;refine⟨s.1,rfl,?_⟩;have E:St ψ4 (⟨oP 131,[.pointer (lF A)],[.slice f.1 f.2.1 f.2.2]⟩::Fq f d::(Aa d m.2.2++(Aa ps B++(F++u)))) S:=by
      have Z:=q2 ψ4 S [] W;have P:St ψ4 (Y1++(Aa ps B++(F++u))) S:=by
       exact St.perm Z (ep (Aa ps B) Y1 (F++u))
      rw[b7]at P;exact P
     obtain⟨A3,d6,c7,d7,rfl,c8⟩:=rR (E.at1) b5;have c9:A3=A2:=Option.some.inj (c7.symm.trans b6);subst c9;refine AP (c8 0 _ rfl) (AP (E.cell rfl) ?_);obtain⟨Z1,b9⟩:∃Z1:List Chk,Z1= [(⟨oP 131,[.pointer (lF A)],[.slice f.1 f.2.1 f.2.2]⟩:Chk),Fq f d]:=⟨_,rfl⟩;have T:St ψ4 (Aa d m.2.2++(Z1++(Aa ps B++(F++u)))) S:=by
      have:St ψ4 (Z1++(Aa d m.2.2++(Aa ps B++(F++u)))) S:=by rw[b9];exact E
      refine this.perm ?_;rw[←mE,←mE (Aa d m.2.2)];exact oH _ oJ
     have⟨d8,w1,w2⟩:=Hv hq a1 T;refine AK (Oj (c4.mono (le.trans b8)) w1 a3) ?_;rintro _ h6 ⟨ψ5,y5,d0,rfl,k5,a8⟩;refine⟨y5,rfl,?_⟩;have Y:St ψ5 (Fq z.2.1 us::(Aa us g++(⟨oP 131,[.pointer (lF A)],[.slice f.1 f.2.1 f.2.2]⟩::Fq f d::(Aa d m.2.2++(Aa ps B++F))))) h6:=by
      have Z:=w2 ψ5 h6 [] a8;have P:St ψ5 (u++(Z1++(Aa d m.2.2++(Aa ps B++F)))) h6:=by
       refine St.perm Z ?_;show(Aa d m.2.2++(Z1++(Aa ps B++(F++u)))).Perm _;refine rS ?_ (oJ (l₁:=Z1++(Aa d m.2.2++(Aa ps B++F))) (l₂:=u));simp only[mE];rw[←mE,←mE Z1];exact oH _ oJ
      rw[V,b9]at P;exact P
     refine AK (FL k5 Y a4) ?_;rintro _ h7 ⟨ψ6,R,l3,d1,rfl,rfl,d2⟩;refine⟨R,rfl,AU (vs:=[.pointer R]) d2 ?_⟩;intro d9 h8 c0;have cw:=rP c0;obtain⟨a7,rfl⟩:=Hu n U R;refine AV (ms:=[R]) Sn (c0.tail.at1) rfl cw (.cons (a:=[_]) rfl .nil) rfl a7 ?_;intro e0 h9 c1;exact lH rfl rfl ⟨hw,ψ6,us++ [R],((le.trans b8).trans d0).trans d1,by simp[U],RI U c1⟩
    ·rintro i z w ⟨G,H⟩ hge;subst G;refine AW (by rw[nb];exact mV (rD.2 hge))<|AJ (lI rfl H)
   ·rintro z S ⟨ψ,us,le,U,st⟩;refine AC ⟨ψ,z.2.1,us,a0.trans le,rfl,U,?_⟩;obtain⟨u,V⟩:∃u:List Chk,u=Fq z.2.1 us::Aa us r:=⟨_,rfl⟩;have Z:St ψ (u++(⟨oP 131,[.pointer (lF A)],[.slice f.1 f.2.1 f.2.2]⟩::Fq f d::(Aa d m.2.2++(Aa ps B++F)))) S:=by rw[V];exact st
    have P:=(Z.perm (oJ)).tail.tail;have h3:St ψ (Aa d m.2.2++((Aa ps B++F) ++u)) S:=by rw[←mE];exact P
    have h4:∀(L:List Chk) {M:List Chk},St ψ (L++M) S→St ψ M S:=λL=>by
     induction L with
     |nil=>intro M H;exact H
     |cons c L ih=>intro M H;exact ih H.tail
    have h6:=(h4 _ h3).perm oJ;rw[V]at h6;exact h6
end
end Go.Proofs.YtfnppeejaimnbaaGreatDoor.Dg
namespace Go.Proofs.YtfnppeejaimnbaaGreatDoor
open Go Go.Shelf Go.Proofs
def FB:Ren:=⟨λx=>bif oT x 129 then 154 else bif oT x 176 then 80 else bif oT x 249 then 121 else bif oT x 283 then 174 else bif oT x 284 then 175 else bif oT x 285 then 176 else bif oT x 286 then 177 else bif oT x 288 then 144 else bif oT x 317 then 187 else bif oT x 318 then 188 else bif oT x 319 then 189 else bif oT x 320 then 190 else bif oT x 337 then 193 else bif oT x 338 then 166 else 0,λx=>bif oT x 0 then 0 else bif oT x 2 then 2 else bif oT x 3 then 3 else bif oT x 4 then 4 else bif oT x 5 then 5 else bif oT x 9 then 9 else bif oT x 20 then 20 else bif oT x 37 then 22 else bif oT x 46 then 218 else bif oT x 51 then 248 else bif oT x 53 then 223 else bif oT x 171 then 261 else bif oT x 173 then 263 else bif oT x 212 then 276 else bif oT x 213 then 277 else bif oT x 232 then 282 else bif oT x 233 then 273 else 0,λx=>bif oT x 17 then 1 else bif oT x 18 then 2 else bif oT x 19 then 0 else 0⟩
theorem cu:Lays.n176 hC FB where
 mixed:=by kernel_rfl
 f129:=(func154).trans (congrArg some (show f154=Body.n129 FB by kernel_rfl))
 f176:=(func80).trans (congrArg some (show f80=Body.n176 FB by kernel_rfl))
 f249:=(func121).trans (congrArg some (show f121=Body.n249 FB by kernel_rfl))
 f283:=(func174).trans (congrArg some (show f174=Body.n283 FB by kernel_rfl))
 f284:=(func175).trans (congrArg some (show f175=Body.n284 FB by kernel_rfl))
 f285:=(func176).trans (congrArg some (show Tryz.f176=Body.n285 FB by kernel_rfl))
 f286:=(func177).trans (congrArg some (show f177=Body.n286 FB by kernel_rfl))
 f288:=(func144).trans (congrArg some (show f144=Body.n288 FB by kernel_rfl))
 f317:=(func187).trans (congrArg some (show f187=Body.n317 FB by kernel_rfl))
 f318:=(func188).trans (congrArg some (show f188=Body.n318 FB by kernel_rfl))
 f319:=(func189).trans (congrArg some (show f189=Body.n319 FB by kernel_rfl))
 f320:=(func190).trans (congrArg some (show f190=Body.n320 FB by kernel_rfl))
 f337:=(func193).trans (congrArg some (show f193=Body.n337 FB by kernel_rfl))
 f338:=(func166).trans (congrArg some (show f166=Body.n338 FB by kernel_rfl))
 t0:=underlying0
 a0:=isAgg0
 z0:=sizeOf0
 v0:=zeroValue0
 t2:=underlying2
 a2:=isAgg2
 z2:=sizeOf2
 v2:=zeroValue2
 t3:=sF
 a3:=isAgg3
 z3:=sizeOf3
 v3:=zeroValue3
 t4:=underlying4
 a4:=isAgg4
 z4:=sizeOf4
 v4:=zeroValue4
 t5:=pX
 a5:=isAgg5
 z5:=sizeOf5
 v5:=zeroValue5
 t9:=rL
 a9:=isAgg9
 z9:=sizeOf9
 v9:=zeroValue9
 t20:=underlying20
 a20:=isAgg20
 z20:=sizeOf20
 v20:=zeroValue20
 t37:=qL
 a37:=isAgg22
 z37:=sizeOf22
 v37:=zeroValue22
 t46:=underlying218
 a46:=isAgg218
 z46:=sizeOf218
 v46:=zeroValue218
 t51:=underlying248
 a51:=isAgg248
 z51:=sizeOf248
 v51:=zeroValue248
 t53:=sY
 a53:=isAgg223
 z53:=sizeOf223
 v53:=zeroValue223
 t171:=underlying261
 a171:=isAgg261
 z171:=sizeOf261
 v171:=zeroValue261
 t173:=underlying263
 a173:=isAgg263
 z173:=sizeOf263
 v173:=zeroValue263
 t212:=sZ
 a212:=isAgg276
 z212:=sizeOf276
 v212:=zeroValue276
 t213:=underlying277
 a213:=isAgg277
 z213:=sizeOf277
 t232:=underlying282
 a232:=isAgg282
 z232:=sizeOf282
 v232:=zeroValue282
 t233:=tA
 a233:=isAgg273
 z233:=sizeOf273
 v233:=zeroValue273
 g17:=by kernel_rfl
 g18:=by kernel_rfl
 g19:=by kernel_rfl
theorem Z0:LaysM.n176 hC FB:={cu with
 i0:=by kernel_rfl
 i2:=by kernel_rfl
 i3:=by kernel_rfl
 i4:=by kernel_rfl
 i5:=by kernel_rfl
 i9:=by kernel_rfl
 i20:=by kernel_rfl
 i37:=by kernel_rfl
 i46:=by kernel_rfl
 i51:=by kernel_rfl
 i53:=by kernel_rfl
 i171:=by kernel_rfl
 i173:=by kernel_rfl
 i212:=by kernel_rfl
 i232:=by kernel_rfl
 i233:=by kernel_rfl
 m17:=by kernel_rfl
 m18:=by kernel_rfl
 m19:=by kernel_rfl
 }
end Go.Proofs.YtfnppeejaimnbaaGreatDoor
namespace Go.Proofs.YtfnppeejaimnbaaGreatDoor
open Go Go.Eng Go.RowKit
def Glob (φ:AD):Prop:= ∃g t f,Tryz.prog.globalNamed "internal/strconv.uint64pow10" =some g∧φ g=some (.cells (Lib.pow10Tab.map fun z=>Value.int .u64 z).toArray t f)
theorem Glob.mono{φ ψ:AD}(H:Glob φ)(a:Sub φ ψ):Glob ψ:=by obtain⟨g,t,f,b,c⟩:=H;exact⟨g,t,f,b,a _ _ c⟩
def C7(i:Int):nH:=(Lib.itoa i).map λb=>(b.toNat:Int)
def Ek(l:nH)(i b:Int):Option nH:=if b=10∧ -9223372036854775808≤i∧i≤9223372036854775807∧l.length≤1000000 then some (l++C7 i) else none
theorem Tt(i:Int):Lib.byteCells (Lib.itoa i)=(C7 i).map (sQ .u8).val:=by unfold Lib.byteCells C7;rw[tM];rfl
class cv (G:List Chk):Prop where
 off:∀c∈G,∀φ h F,Chk.on φ h F c→ ∀k,F k→ ∃o:Obj,h[k]? =some o∧ ∀cs f,o≠.cells cs 5 f
instance iy:cv []:=⟨λc hc=>by cases hc⟩
instance iR {b:Nat}{vs:List uD}{G:List Chk}[H:cv G]:cv (⟨oP 116,[.pointer (lF b)],vs⟩::G):=⟨λc hc φ h F hon k hk=>by
 rcases oS.1 hc with rfl | hc
 ·obtain⟨b',e,hb,hF⟩:=hon;have hkb:=(hF k).1 hk;subst hkb;exact⟨_,hb,λcs f e=>by cases e⟩
 ·exact H.off c hc φ h F hon k hk⟩
theorem U3{φ:AD}{h i:AH}{X X':GE}(a:∀(k:Nat) (o:Obj),h[k]? =some o→(∀cs f,o≠.cells cs 5 f)→i[k]? =some o)(q:∀k,X' k→ ∃cs f,i[k]? =some (.cells cs 5 f))(r:Sub φ (Bo i)):
 ∀ {G:List Chk} {Y:GE},(∀c∈G,∀φ h F,Chk.on φ h F c→ ∀k,F k→ ∃o:Obj,h[k]? =some o∧ ∀cs f,o≠.cells cs 5 f)→StX φ h G (λk=>X k∨Y k)→StX φ i G (λk=>X' k∨Y k):=by
 intro G
 induction G with
 |nil=>intro Y _ _;exact r
 |cons c G s=>
  intro Y m ⟨F,n,p,H⟩;have d:=m c nP φ h F n;refine⟨F,c.R.loc (λk e=>?_) n,λk e=>⟨(p k e).1,λg=>?_⟩,(s (Y:=λk=>Y k∨F k) (λc j=>m c (by simp[j])) (H.less λk a=>?_)).less λk a=>?_⟩
  ·have⟨o,l,b⟩:=d k e;rw[l];exact a k o l b
  ·rcases g with g | g
   ·have⟨o,l,b⟩:=d k e;have⟨cs,f,j⟩:=q k g;rw[a k o l b]at j;exact b cs f (Option.some.inj j)
   ·exact(p k e).2 (.inr g)
  ·rcases a with a | a | a
   ·exact .inl (.inl a)
   ·exact .inl (.inr a)
   ·exact .inr a
  ·rcases a with(a | a)|a
   ·exact .inl a
   ·exact .inr (.inl a)
   ·exact .inr (.inr a)
theorem NU{d h:AH}{G:List Chk}[hG:cv G]{t:Slc}{l:nH}{i b:Int}(gk:Glob (Bo d))(s0:St (Bo d) (⟨oW 5 (oL .u8),[.slice t.1 t.2.1 t.2.2],l⟩::G) h){r:nH}(hd:Ek l i b=some r):
 nX hC 80 [.slice t.1 t.2.1 t.2.2,lN i,lN b] h (An λv h'=>∃ψ:AD,∃y:Slc,∃l':nH,Sub (Bo d) ψ∧ψ=Bo d∧v=lS.val y∧l'=r∧St ψ (⟨oW 5 (oL .u8),[.slice y.1 y.2.1 y.2.2],l'⟩::G) h'):=by
 unfold Ek at hd;split at hd
 ·rename_i C
  obtain⟨rfl,K,h2,a3⟩:=C;cases hd;obtain⟨F,⟨p,n,c,vs,e,L,hc,hf,J,ha,hF⟩,hX,H⟩:=s0;have L:l.length=n:=L;have M:vs=l.map (sQ .u8).val:=Ds ha;simp only[List.cons.injEq,Value.slice.injEq,and_true]at e;obtain⟨e1,e2,e3⟩:=e;rw[e1,e2,e3];have Z:Sub (Bo d) (Bo h):=H.sub;have hB:d.size≤h.size:=by
   rcases pO h.size d.size with g | g
   ·have K:Bo d h.size=some d[h.size]:=pB g
    have:=BH (Z _ _ K)
    omega
   ·exact g
  have N:∀k,k<d.size→(Bo d) k≠none:=λk m g=>by
   have K:Bo d k=some d[k]:=pB m;rw[K]at g;cases g
  have a0:World.ownsRow (E9 h) d.size 5 1 (.slice p n c) n vs:=by
   refine⟨by rw[M,oV,L,Nat.mul_one],?_⟩;rcases J with⟨rfl,rfl,rfl,rfl⟩|⟨b,off,D,rfl,u,U,V,g3,g4⟩
   ·exact .inl ⟨rfl,rfl⟩
   ·have⟨q1,q2⟩:=hf _ _ _ rfl;subst q1;have E:=q2 _ _ _ u;have E:D.size=c *1:=E;have U:vs.length=n *1:=U;refine .inr ⟨b,c,D,rfl,?_,u,V,hc,E,?_⟩
    ·rcases pO b d.size with g | g
     ·exact nC (hX b ((hF b).2 (by simp[blk]))).1 (N b g)
     ·exact g
    ·refine tJ λi=>?_;rw[qQ];split
     ·rename_i hi
      have O:i<vs.length:=nJ
      have:=g4 i vs[i] (bD O)
      rw[bD O];simpa using this
     ·rw[oO nJ]
  intro w hw;subst hw;refine(Any.strconv_AppendInt_10 Z0 d.size n i K h2 (.slice p n c) vs w a0 hB nJ (λP u=>?_)).mono ?_
  ·obtain⟨g,t',f,U,V⟩:=gk;have C:w.heap[g]? =some (.cells (Lib.pow10Tab.map λz=>qD .u64 z).toArray t' f):=Z _ _ V;have I:=BH (h:=d) V;show(prog.globalNamed _).bind _=_;rw[U];show(match P.heap[g]? with | some (.cells cs _ _)=>some cs | _=>none)=_
   rw[u.block g I,C]
  ·rintro e P ⟨v',rfl,Q,u,R⟩;have q:∀(k:Nat) (o:Obj),w.heap[k]? =some o→(∀cs f,o≠.cells cs 5 f)→P.heap[k]? =some o:=λk o J a1=>R k o J nP a1;refine⟨⟨u.os,u.tape,u.output,u.size⟩,v',rfl,Bo d,?_⟩;obtain⟨k1,k2⟩:=Q;have A:Sub (Bo d) (Bo P.heap):=λi o J=>by
    have I:=BH (h:=d) J;show P.heap[i]? =some o;rw[u.block i I];exact Z i o J
   have a2:vs++Lib.byteCells (Lib.itoa i)=(l++C7 i).map (sQ .u8).val:=by rw[qS,M,Tt]
   have S:(C7 i).length=(Lib.itoa i).length:=by unfold C7;simp
   have T:∀(l:nH),(oL .u8).All (Bo d) (l.map (sQ .u8).val) l:=λl=>by
    induction l with
    |nil=>exact .nil
    |cons x l ih=>exact .cons (a:=[_]) rfl ih
   rcases k2 with⟨rfl,hz⟩|⟨g,cap,cur,rfl,hBg,C,hle,hm,hcs,hcur⟩
   ·refine⟨(none,0,0),l++C7 i,pL _,rfl,rfl,rfl,λ_=>False,⟨none,0,0,[],rfl,(by rw[oK,S,L];exact hz),Nat.zero_le _,(λ_ _ _ h=>by cases h),.inl ⟨rfl,rfl,rfl,rfl⟩,?_,λi=>by simp[blk]⟩,λ_ m=>m.elim,(U3 (X:=F) (X':=λ_=>False) (Y:=λ_=>False) q (λ_ g=>g.elim) A hG.off (H.less λk m=>m.elim .inr .inl)).less λk m=>m.elim (λg=>.inl g) (λg=>.inl g)⟩
    have:l++C7 i= []:=pP (by rw[oK,S,L];exact hz)
    show(oL .u8).All (Bo d) [] (l++C7 i);rw[this];exact .nil
   ·refine⟨(some ⟨g,0,none⟩,n+(Lib.itoa i).length,cap),l++C7 i,pL _,rfl,rfl,rfl,λk=>k=g,⟨_,_,cap,(l++C7 i).map (sQ .u8).val,rfl,nN,hm,(λb' off s e=>by cases e;exact⟨rfl,λD ty f B=>by
     rw[C]at B;cases B;exact hcs⟩),.inr ⟨g,0,cur,rfl,C,by show _=_ *1;simp;omega,hle,by show 0+cap *1≤_;omega,λj v W=>?_⟩,T _,λk=>by simp[blk]⟩,λk m=>⟨?_,λg=>g⟩,(U3 (X:=F) (X':=λk=>k=g) (Y:=λ_=>False) q (λk m=>by subst m;exact⟨_,_,C⟩) A hG.off (H.less λk m=>m.elim .inr .inl)).less λk m=>m.elim (λg=>.inr g) (λg=>.inl g)⟩
    ·rw[←a2,←hcur,qQ]at W;split at W
     ·simpa using W
     ·cases W
    ·subst m;exact sH hBg
 ·cases hd
end Go.Proofs.YtfnppeejaimnbaaGreatDoor
namespace Go.Proofs.YtfnppeejaimnbaaGreatDoor
open Go Go.Eng Dg
structure QK (φ:AD):Prop where
 a:Glob φ
 b:Dg.Glob φ
theorem QK.mono{φ ψ:AD}(H:QK φ)(c:Sub φ ψ):QK ψ:=⟨H.a.mono c,H.b.mono c⟩
noncomputable def Tu(s o:Ae):Option (Bool×Ae):=need (OkS s∧OkS o)<|some (F9 s o,BT s o)
noncomputable def Sq(s:Ae):Option nH:=Kc s
section
variable {φ:AD}{h:AH}{F:List Chk}
theorem WJ{s_0 c:nG}{b a:Ae}(f:Dg.Glob φ)(g:St φ (Bi s_0 b::Bi c a::F) h){r:Bool×Ae}(hd:Tu b a=some r):
 nX hC 98 [.pointer s_0,.pointer c] h (An λv d=>∃ψ:AD,∃y:Bool,∃l:Ae,Sub φ ψ∧v=lU.val y∧(y,l)=r∧St ψ (Bi s_0 l::Bi c a::F) d):=by obtain⟨⟨i,j⟩,hd⟩:=CG hd;obtain rfl:=Option.some.inj hd;refine(J1 f i j (oZ _ _ _) g).mono ?_;rintro e d ⟨u,rfl,ψ,le,rfl,k⟩;exact⟨_,rfl,ψ,_,_,le,rfl,rfl,k⟩
theorem Pd{s_0:nG}{a:Ae}(b:Dg.Glob φ)(c:St φ (Bi s_0 a::F) h){r:nH}(hd:Sq a=some r):
 nX hC 101 [.pointer s_0] h (An (mO φ (oL .i64) r (Bi s_0 a::F))):=by refine(Oj b c hd).mono ?_;rintro e f ⟨u,rfl,ψ,y,le,rfl,k,d⟩;exact⟨_,rfl,ψ,_,_,le,rfl,rfl,k,d⟩
theorem XL{ps:List nG}{ss:List Ae}{x y:Nat}{p q:nG}{s o:Ae}(f:Dg.Glob φ)(g:ss[x]? =some s)(i:ss[y]? =some o)(j:ps[x]? =some p)(l:ps[y]? =some q)(k:OkS s∧OkS o)(m:St φ (Aa ps ss++F) h):
 nX hC 98 [.pointer p,.pointer q] h (An λv c=>∃ψ:AD,Sub φ ψ∧v=lU.val (F9 s o)∧St ψ (Aa ps (ss.set x (BT s o)) ++F) c):=by have⟨r1,d,n⟩:=FM j g;have⟨t,w,_⟩:=FM l i;have a:∀(p:nG) (s:Ae) (r:List Chk) (L:List Chk),L.Perm (Bi p s::r)→(L++F).Perm (Bi p s::(r++F)):=λp s r L z=>oH F z;have b:=(a p s r1 _ d).symm.trans (a q o t _ w);refine(J1 f k.1 k.2 b (m.perm (a p s r1 _ d))).mono ?_;rintro e c ⟨u,rfl,ψ,le,rfl,A⟩;exact⟨_,rfl,ψ,le,rfl,A.perm (a p _ r1 _ (n _)).symm⟩
theorem U4{ps:List nG}{ss:List Ae}{x:Nat}{p q:nG}{s o:Ae}(c:Dg.Glob φ)(d:ss[x]? =some s)(f:ps[x]? =some p)(k:OkS s∧OkS o)(g:St φ (Bi q o::(Aa ps ss++F)) h):
 nX hC 98 [.pointer p,.pointer q] h (An λv a=>∃ψ:AD,Sub φ ψ∧v=lU.val (F9 s o)∧St ψ (Bi q o::(Aa ps (ss.set x (BT s o)) ++F)) a):=by have⟨r1,i,j⟩:=FM f d;have b:∀(s:Ae) (L:List Chk),L.Perm (Bi p s::r1)→(Bi q o::(L++F)).Perm (Bi p s::(Bi q o::(r1++F))):=λs L l=>(oI _ (oH F l)).trans (oZ _ _ _);refine(J1 c k.1 k.2 (oZ _ _ _) (g.perm (b s _ i))).mono ?_;rintro e a ⟨u,rfl,ψ,le,rfl,m⟩;exact⟨_,rfl,ψ,le,rfl,m.perm (b _ _ (j _)).symm⟩
end
end Go.Proofs.YtfnppeejaimnbaaGreatDoor
namespace Go.Proofs.YtfnppeejaimnbaaGreatDoor
open Go Go.Eng
theorem glob_of{W:uF}(c:laidMetH hC Rows.resolveTellsRow.laid W):QK (Bo W.heap):=by
 rw[MakeChecks.laidMetH_plain _ _ _ nU]at c;refine⟨?_,?_⟩
 ·have d:laidMet Tryz.prog (("internal/strconv.uint64pow10",Lib.tabData .u64 Lib.pow10Tab):: []) W:=c.tail.tail;have b:Tryz.prog.globalNamed "internal/strconv.uint64pow10" =some 1:=by kernel_rfl
  have a:=Lib.tabIs_of_head b nU sZ sY nU nU d;unfold Lib.TabIs World.var? at a;rw[b,oB]at a;cases hb:W.heap[1]? with
  |none=>rw[hb]at a;cases a
  |some o=>
   rw[hb]at a;cases o with
   |cells cs t f=>cases a;exact⟨1,t,f,b,hb⟩
   |_=>cases a
 ·have d:laidMet Tryz.prog (("math/bits.deBruijn64tab",Lib.tabData .u8 (Lib.deBruijn64tab.map fun (z:Nat)=>(z:Int)))::("internal/strconv.uint64pow10",Lib.tabData .u64 Lib.pow10Tab):: []) W:=c.tail;have b:Tryz.prog.globalNamed "math/bits.deBruijn64tab" =some 0:=by kernel_rfl
  have a:=Lib.tabIs_of_head b nU tA pX nU nU d;unfold Lib.TabIs World.var? at a;rw[b,oB]at a;cases hb:W.heap[0]? with
  |none=>rw[hb]at a;cases a
  |some o=>
   rw[hb]at a;cases o with
   |cells cs t f=>
    refine⟨t,f,?_⟩;show W.heap[0]? =_;rw[hb];have e:=Option.some.inj a;rw[e,tM];rfl
   |_=>cases a
theorem wf8{x:Int}(h:(Lit.int .u8 x).wf=true):0≤x∧x<256:=by simp only[Lit.wf,rM,nD]at h;have a:IntKind.min .u8=0:=rfl;have b:IntKind.max .u8=255:=rfl;omega
theorem jB{α:Type}{cs:List α}(h:cs.length=7):∃a b c d e f g,cs= [a,b,c,d,e,f,g]:=by
 match cs,h with
 | [a,b,c,d,e,f,g],_=>exact⟨a,b,c,d,e,f,g,rfl⟩
section
variable {h:AH}
theorem MY{n:Nat}{cs:List uD}(a:HC hC h n 22 cs):∃(t:Slc) (l:nH),cs= [.slice t.1 t.2.1 t.2.2] ∧oG (oL .u8) (Bo h) t l∧l.length≤9223372036854775807∧ ∀x∈l,0≤x∧x<256:=by obtain⟨l,⟨t,e,b⟩,c,d⟩:=(Is qL nU (QH pX)) n cs a;exact⟨t,l,e,b,c,λx f=>wf8 (d x f)⟩
theorem Z2{n:Nat}{cs:List uD}(a:HC hC h n 23 cs):∃(t:Slc) (l:List nH),cs= [.slice t.1 t.2.1 t.2.2] ∧oG (rU (oL .u8)) (Bo h) t l∧l.length≤9223372036854775807∧ ∀r∈l,r.length≤9223372036854775807∧ ∀x∈r,0≤x∧x<256:=by obtain⟨l,⟨t,e,c⟩,d,b⟩:=(Is underlying23 nU (Is qL nU (QH pX))) n cs a;exact⟨t,l,e,c,d,λr a=>⟨(b r a).1,λx f=>wf8 ((b r a).2 x f)⟩⟩
theorem Z3{n:Nat}{cs:List uD}(H:HC hC h n 25 cs):∃(x:Int×Int×Slc×Slc×Slc×Slc×Slc×Unit) (d2:nH) (d3:List nH) (d4 d5 A:nH),
 cs= [.int .u8 x.1,.int .u8 x.2.1,sv x.2.2.1,sv x.2.2.2.1,sv x.2.2.2.2.1,sv x.2.2.2.2.2.1,sv x.2.2.2.2.2.2.1] ∧oG (oL .u8) (Bo h) x.2.2.1 d2∧oG (rU (oL .u8)) (Bo h) x.2.2.2.1 d3∧
 oG (oL .u8) (Bo h) x.2.2.2.2.1 d4∧oG (oL .u8) (Bo h) x.2.2.2.2.2.1 d5∧oG (oL .u8) (Bo h) x.2.2.2.2.2.2.1 A∧SmG (x.1,x.2.1,d2,d3,d4,d5,A):=by
 cases n with
 |zero=>exact H.elim
 |succ n=>
  unfold HC at H;rw[underlying25]at H;obtain⟨i,j⟩:=H;have i:cs.length=7:=i.trans nU;obtain⟨a,b,c,d,e,f,g,rfl⟩:=jB i;have B:prog.cellsOf 5=1:=nU
  have C:prog.cellsOf 22=1:=nU
  have D:prog.cellsOf 23=1:=nU
  have s:=j _ (.head _);have t:=j _ (.tail _ (.head _));have u:=j _ (.tail _ (.tail _ (.head _)));have v:=j _ (.tail _ (.tail _ (.tail _ (.head _))));have w:=j _ (.tail _ (.tail _ (.tail _ (.tail _ (.head _)))));have y:=j _ (.tail _ (.tail _ (.tail _ (.tail _ (.tail _ (.head _))))));have z:=j _ (.tail _ (.tail _ (.tail _ (.tail _ (.tail _ (.tail _ (.head _)))))));dsimp only at s t u v w y z;rw[B]at s t;rw[C]at u w y z;rw[D]at v;have⟨x0,k,w0⟩:=Pc pX s;have⟨x1,l,E⟩:=Pc pX t;have⟨t2,F,m,G,I,J⟩:=MY u;have⟨t3,K,o,L,M,N⟩:=Z2 v;have⟨t4,O,p,P,Q,R⟩:=MY w;have⟨t5,S,q,T,U,V⟩:=MY y;have⟨t6,W,r,X,Y,Z⟩:=MY z;have k: [a] =_:=k;have l: [b] =_:=l;have m: [c] =_:=m;have o: [d] =_:=o;have p: [e] =_:=p;have q: [f] =_:=q;have r: [g] =_:=r;simp only[List.cons.injEq,and_true]at k l m o p q r;exact⟨(x0,x1,t2,t3,t4,t5,t6,()),F,K,O,S,W,by rw[k,l,m,o,p,q,r],G,L,P,T,X,⟨wf8 w0,wf8 E,⟨I,J⟩,⟨M,N⟩,⟨Q,R⟩,⟨U,V⟩,⟨Y,Z⟩⟩⟩
end
def cloneD{α:Type}(l:List α):Option (List α):=if l.length≤1073741824 then some l else none
theorem Gt{α:Type}{l r:List α}(h:cloneD l=some r):l.length≤1073741824∧r=l:=by
 unfold cloneD at h;split at h
 ·rename_i g;exact⟨g,(Option.some.inj h).symm⟩
 ·cases h
theorem jC:Fy hC 106 106 116 2:=⟨rE,.inl rE,⟨t116,nU,rfl,⟨_,rfl,rfl⟩,nQ,nQ⟩,nQ⟩
theorem fy:Fy hC 110 110 120 2:=⟨tB,.inl tB,⟨t120,nU,rfl,⟨_,rfl,rfl⟩,nQ,nQ⟩,nQ⟩
section
variable {φ:AD}{h:AH}{F:List Chk}
theorem QL{t:Slc}{l r:List Aq}(k:oG Au φ t l)(c:St φ F h)(hd:cloneD l=some r):
 nX hC 81 [.slice t.1 t.2.1 t.2.2] h (An λv g=>∃ψ:AD,∃y:Slc,∃d:List Aq,Sub φ ψ∧v=lS.val y∧d=r∧St ψ (cR 116 Au y d::F) g):=by
 obtain⟨i,rfl⟩:=Gt hd;refine A9 mixed func81 ?_;rw[FX];unfold DV;cases hp:t.1 with
 |none=>
  rw[k.2.2.2.1 hp];exact AC ⟨φ,(none,0,0),[],pL _,rfl,rfl,c.nil _ _⟩
 |some a=>
  rw[tC];refine AU (vs:=[]) c λb p e=>?_;have j:=St.lit (r:=Au) (l:=[]) (n:=0) e .nil rfl nQ;have⟨q,m,f⟩:=k.heap e.sub;rw[hp]at f;refine AV (ms:=r) (l':=r) jC j rfl f m k.length.symm (by unfold app;rw[mZ (by have:=i;simp;omega)];rfl) λy s o=>AC ⟨φ,y,_,pL _,rfl,rfl,o⟩
theorem U5{t:Slc}{l r:List JE}(k:oG ED φ t l)(c:St φ F h)(hd:cloneD l=some r):
 nX hC 132 [.slice t.1 t.2.1 t.2.2] h (An λv g=>∃ψ:AD,∃y:Slc,∃d:List JE,Sub φ ψ∧v=lS.val y∧d=r∧St ψ (cR 120 ED y d::F) g):=by
 obtain⟨i,rfl⟩:=Gt hd;refine A9 mixed func132 ?_;rw[FY];unfold DW;cases hp:t.1 with
 |none=>
  rw[k.2.2.2.1 hp];exact AC ⟨φ,(none,0,0),[],pL _,rfl,rfl,c.nil _ _⟩
 |some a=>
  rw[tC];refine AU (vs:=[]) c λb p e=>?_;have j:=St.lit (r:=ED) (l:=[]) (n:=0) e .nil rfl nQ;have⟨q,m,f⟩:=k.heap e.sub;rw[hp]at f;refine AV (ms:=r) (l':=r) fy j rfl f m k.length.symm (by unfold app;rw[mZ (by have:=i;simp;omega)];rfl) λy s o=>AC ⟨φ,y,_,pL _,rfl,rfl,o⟩
end
section
variable {a_0:nG}
section
variable {φ:AD}{h:AH}{F:List Chk}
theorem CE:Fy hC 106 106 116 2:=⟨rE,.inl rE,⟨t116,nU,rfl,⟨_,rfl,rfl⟩,nQ,nQ⟩,nQ⟩
noncomputable def Ce(a_0:NS)(a:List Aq)(c:Int):Option (List Aq):=(forS (σ:=List Aq) 0 (a.length:Int) ([]:List Aq) λd g=>(idx a d).bind λb=>(CH a_0 (b.1,b.2)).bind λh=>(cond (h==c) ((app g ([(b.1,(oF .i64 (b.2+1)))]:List Aq)).bind λe=>some e) (some g)).bind λf=>some f).bind λi=>some i
theorem Lw{e:NS}{m:Slc}{i:List Aq}{v:Int}(l:oG Au φ m i)(C:St φ (cO 75 (pU Dz) a_0 e::F) h){r:(List Aq)}(hd:Ce e i v=some r):
 nX hC 52 [lP a_0,sv m,lN v] h (An (mO φ Au r (cO 75 (pU Dz) a_0 e::F))):=by
 refine AT mixed func52 (LZ ..) ?_;have n:m.2.1=sC i:=l.length;have⟨b6,u,hd⟩:=bS hd;refine BD u (λw y A g=>∃ψ:AD,∃o:List Aq,Sub φ ψ∧y.1=w∧o=g∧St ψ (cR 116 Au y.2.1 o::cO 75 (pU Dz) a_0 e::F) A) rfl ⟨φ,[],sb,rfl,rfl,(((C.nil 116 Au).at1).at1)⟩ ?_ ?_ ?_
 ·rintro _ D b7 _ _ ⟨b8,x,b9,rfl,rfl,p⟩ c ba z a0;refine Ad (dT n z)<|QQ l c p λb c=>AU (vs:=[.int .i64 (0:Int),.int .i64 (0:Int)]) p λE bb G=>AQ G rfl rfl λbd H=>AQ H rfl rfl λbf j=>AA j rfl<|AA j rfl ?_;have⟨bg,I,c⟩:=bS c;refine AK (D6 (v:=(b.1,b.2,())) j.at2 I) ?_;rintro _ bi ⟨k,J,bj,rfl,rfl,f⟩;refine⟨J,rfl,?_⟩;have⟨K,d,c⟩:=bS c;refine AY (λy A g=>∃ψ:AD,∃q:List Aq,Sub k ψ∧q=g∧St ψ (cR 116 Au y.1 q::cO 75 (pU Dz) a_0 e::cW 116 E [.int .i64 b.1,.int .i64 b.2]::F) A) (g:=K) ?_ ?_
  ·refine mP d rfl (λd=>?_) (λd=>?_)
   ·refine AA f.at1 rfl<|AA f.at1 rfl<|AU (vs:=[.int .i64 b.1,.int .i64 (wN b.2)]) f λL bl s=>?_;have⟨M,N,d⟩:=bS d;refine AV (ms:=([(b.1,(wN b.2))]:List Aq)) CE s.tail.at2 rfl (rP s) (.cons (a:=[_,_]) ⟨[_],_,rfl,rfl,rfl⟩ .nil) rfl N ?_;intro O bn P;exact lG rfl ⟨k,M,sb,iS d,P.at2.at2.at2⟩
   exact lG rfl ⟨k,x,sb,iS d,f.at2.at2.at2.at2⟩
  rintro Q bp ⟨R,S,bq,rfl,T⟩;obtain rfl:=iS c;exact lH rfl rfl ⟨R,S,sb,a0,rfl,T.at2.tail.at1.at1⟩
 ·rintro _ D bs ⟨al,ap,bt,rfl,rfl,U⟩ V;refine AW (dF n V)<|AJ (lI rfl ⟨_,al,ap,sb,rfl,rfl,U.at1.at1⟩)
 rintro B bx ⟨_,bz,W,c0,_,rfl,X⟩;have⟨Y,c1,Z,b5⟩:=rV (t:=B.2.1) X;exact AC ⟨Y,B.2.1,W,sb,rfl,iS hd,Z,b5⟩
noncomputable def B0(a_0:GQ)(b:Int):Option (List Aq×List Aq×List JE×Int×Int):=(cond (decide (b< 0)) (some true) (some (decide (b≥ (a_0.2.2.2.2.2.2.1.length:Int))))).bind λc=>cond c (some (([]:List Aq),([]:List Aq),([]:List JE),0,0)) ((idx a_0.2.2.2.2.2.2.1 b).bind λa=>some (a.1,a.2.1,a.2.2.1,a.2.2.2.1,a.2.2.2.2))
theorem Fc{k:GQ}{x:Int}(l:Pt Jl φ a_0 k)(A:St φ F h){r:(List Aq×List Aq×List JE×Int×Int)}(hd:B0 k x=some r):
 nX hC 74 [lP a_0,lN x] h (An λv B=>∃ψ:AD,∃y:Slc×Slc×Slc×Int×Int×Unit,∃m:List Aq,∃n:List Aq,∃o:List JE,Sub φ ψ∧v=mF.val y∧(m,n,o,y.2.2.2.1,y.2.2.2.2.1)=r∧oG Au ψ y.1 m∧oG Au ψ y.2.1 n∧oG ED ψ y.2.2.1 o∧St ψ F B):=by
 refine AT mixed func74 (Nk ..)<|AU (vs:=[.slice none 0 0,.slice none 0 0,.slice none 0 0,.int .i64 (0:Int),.int .i64 (0:Int)]) A λr1 S j=>?_;have⟨t,f,hd⟩:=bS hd;refine AY (λy C g=>∃ψ:AD,Sub φ ψ∧y.1=g∧St ψ (Wq6 r1::F) C) (g:=t) ?_ ?_
 ·refine mP f rfl (λf=>?_) (λf=>?_)
  ·exact lG rfl ⟨φ,sb,iS f,j⟩
  refine pfR Tc l j λu w=>?_;have z:=w.length;obtain rfl:=iS f;exact lG rfl ⟨φ,sb,(by rw[z]),j⟩
 rintro T U ⟨c,V,rfl,a⟩;refine mP hd rfl (λhd=>?_) (λhd=>?_)
 ·refine AQ a rfl rfl λW a0=>AQ a0 rfl rfl λbg D=>AQ D rfl rfl λX E=>AQ E rfl rfl λY G=>AQ G rfl rfl λbl d=>mR d rfl<|mR d rfl<|mR d rfl<|AA d rfl<|AA d rfl ?_;exact AC ⟨c,(mQ,mQ,mQ,(0:Int),(0:Int),()),[],[],[],sb,rfl,iS hd,(rH Au c),(rH Au c),(rH ED c),d.tail⟩
 refine pfR Tc l a λbn H=>?_;have⟨b,I,hd⟩:=bS hd;obtain⟨bp,Z,J,K,L,i⟩:=(H.up (ψ:=c)).get I;refine AI _ J (Ai K ?_);obtain⟨_,_,rfl,⟨p,rfl,al⟩,⟨_,_,rfl,⟨q,rfl,M⟩,⟨_,_,rfl,⟨s,rfl,N⟩,⟨_,_,rfl,rfl,rfl⟩⟩⟩⟩:=L;refine AF (AG (rN sb a.sub) (i 0 _ rfl)) rfl<|AF (by rw[Aj];exact(AG (rN sb a.sub) (i 1 _ rfl))) rfl<|AF (by rw[Aj];exact(AG (rN sb a.sub) (i 2 _ rfl))) rfl<|AF (by rw[Aj];exact(AG (rN sb a.sub) (i 3 _ rfl))) rfl<|AF (by rw[Aj];exact(AG (rN sb a.sub) (i 4 _ rfl))) rfl<|AQ a rfl rfl λbs O=>AQ O rfl rfl λbt P=>AQ P rfl rfl λbx Q=>AQ Q rfl rfl λbz R=>AQ R rfl rfl λc0 e=>AA e rfl<|AA e rfl<|AA e rfl<|AA e rfl<|AA e rfl ?_;exact AC ⟨c,(p,q,s,b.2.2.2.1,b.2.2.2.2,()),b.1,b.2.1,b.2.2.1,sb,rfl,iS hd,al,M,N,e.tail⟩
noncomputable def B6(a_0:GQ):Option Int:=some (a_0.2.2.2.2.2.2.1.length:Int)
theorem Cz{a:GQ}(b:Pt Jl φ a_0 a)(f:St φ F h){r:Int}(hd:B6 a=some r):
 nX hC 8 [lP a_0] h (An (mN φ r F)):=by refine AT mixed func8 (Mh ..)<|pfR Tc b f λc d=>?_;have e:=d.length;obtain rfl:=iS hd;exact AC ⟨φ,(c.2.1:Int),sb,rfl,(by rw[e]),f⟩
noncomputable def BF(a_0:GQ)(e:Int)(a:Int):Option Int:=
 (B0 a_0 e).bind λt1=>
 (C6 (σ:=Unit) (β:=Int) 0 (t1.2.2.1.length:Int) () λb g=>
  (idx t1.2.2.1 b).bind λc=>
  cond (c.1==a)
  (some (sI c.2))
  (some (sJ ()))).bind λd=>match d with
 |.next h=>
  some (-1:Int)
 |.done f=>some f
theorem D9{c:GQ}{A:Int}{v:Int}(k:Pt Jl φ a_0 c)(B:St φ F h){r:Int}(hd:BF c A v=some r):
 nX hC 40 [lP a_0,lN A,lN v] h (An (mN φ r F)):=by
 refine AT mixed func40 (Ni ..) ?_;have⟨I,l,hd⟩:=bS hd;refine AK (Fc k B l) ?_;rintro _ J ⟨d,t1,K,L,M,N,rfl,rfl,O,al,e,m⟩;refine⟨t1,rfl,?_⟩;have f:=e.length;have⟨ap,n,hd⟩:=bS hd;refine BQ n (λo y C g=>∃ψ:AD,Sub d ψ∧y.1=o∧()=g∧St ψ F C) rfl ⟨d,sb,rfl,rfl,m⟩ ?_ ?_ ?_
 ·rintro _ D P _ _ ⟨i,Q,rfl,rfl,j⟩ a R p q s;refine Ad (dT f p)<|QQ e a j λt a=>AU (vs:=[.int .i64 (0:Int),.int .i64 (0:Int)]) j λS T u=>AQ u rfl rfl λU w=>AQ w rfl rfl λV b=>AA b rfl<|mP a rfl (λa=>?_) (λa=>?_)
  ·refine AA b rfl ?_;obtain rfl:=iS a;obtain rfl:=s _ rfl;obtain rfl:=iS hd;exact Ak (Ah (AC ⟨i,t.2,sb,rfl,rfl,b.tail⟩))
  obtain rfl:=iS a;exact lH rfl rfl ⟨i,sb,q,rfl,b.tail⟩
 ·rintro _ D W _ ⟨x,X,rfl,rfl,z⟩ a0 E;subst E;refine AW (dF f a0)<|AJ (lI rfl ⟨_,rfl,_,x,sb,rfl,rfl,z⟩)
 rintro Y Z ⟨_,rfl,_,G,b8,_,rfl,H⟩;exact AC ⟨G,(-1:Int),sb,rfl,iS hd,H⟩
noncomputable def Cf(a_0:GQ)(b:Int)(a:nH):Option Int:=(cond (decide (b< 0)) (some true) (some (decide (b≥ (a_0.2.2.2.2.2.2.1.length:Int))))).bind λe=>cond e (some (-1:Int)) (((C6 (σ:=Int) (β:=Int) 0 (a.length:Int) b λc f=>(idx a c).bind λd=>(BF a_0 f d).bind λt8=>cond (decide (t8< 0)) (some (sI t8)) (some (sJ t8))).map tX).bind λg=>some g)
theorem El{e:GQ}{A:Int}{v:Slc}{d:nH}(f:Pt Jl φ a_0 e)(i:oG (oL .i64) φ v d)(C:St φ F h){r:Int}(hd:Cf e A d=some r):
 nX hC 21 [lP a_0,lN A,sv v] h (An (mN φ r F)):=by
 refine AT mixed func21 (LX ..) ?_;have j:v.2.1=sC d:=i.length;have⟨o,b,hd⟩:=bS hd;refine AY (λy B g=>∃ψ:AD,Sub φ ψ∧y.1=g∧St ψ F B) (g:=o) ?_ ?_
 ·refine mP b rfl (λb=>?_) (λb=>?_)
  ·exact lG rfl ⟨φ,sb,iS b,C⟩
  refine pfR Tc f C λp q=>?_;have s:=q.length;obtain rfl:=iS b;exact lG rfl ⟨φ,sb,(by rw[s]),C⟩
 rintro Q al ⟨c,ap,rfl,k⟩;refine mP hd rfl (λhd=>?_) (λhd=>?_)
 ·exact AC ⟨c,(-1:Int),sb,rfl,iS hd,k⟩
 have⟨R,t,hd⟩:=bS hd;have⟨u,w,x⟩:=Option.map_eq_some_iff.1 t;subst x;refine Af (λy B g=>∃ψ:AD,Sub c ψ∧y.2.1=g∧St ψ F B) (g:=(tX u)) ?_ ?_
 ·refine PM w (λz y B g=>∃ψ:AD,Sub c ψ∧y.1=z∧y.2.1=g∧St ψ F B) rfl ⟨c,sb,rfl,rfl,k⟩ ?_ ?_
  ·rintro _ D S _ _ ⟨T,U,rfl,rfl,l⟩ a V a0 E G;refine Ad (dT j a0)<|gx i a l λW a=>?_;have⟨X,H,a⟩:=bS a;refine AK (D9 f.up l H) ?_;rintro _ Y ⟨m,t8,Z,rfl,rfl,n⟩;refine⟨t8,rfl,mP a rfl (λa=>?_) (λa=>?_)⟩
   ·obtain rfl:=iS a;obtain rfl:=G _ rfl;exact AJ (lI rfl ⟨m,sb,rfl,n⟩)
   obtain rfl:=iS a;exact lH rfl rfl ⟨m,sb,E,rfl,n⟩
  ·rintro _ D b8 _ ⟨I,b9,rfl,rfl,J⟩ K L;subst L;refine AW (dF j K)<|AJ (lI rfl ⟨I,sb,rfl,J⟩)
 rintro M ba ⟨N,bb,O,P⟩;rw[←O]at hd;exact AC ⟨N,M.2.1,sb,rfl,iS hd,P⟩
end
end
section
variable {φ:AD}{h:AH}{F:List Chk}
theorem RJ:Fy hC 22 22 5 1:=⟨qL,.inl qL,⟨t5,nU,rfl,⟨_,rfl,rfl⟩,nQ,nQ⟩,nQ⟩
noncomputable def Ez(a:List Aq):Option nI:=(forS (σ:=nH) 0 (a.length:Int) ([]:nH) λb h=>(idx a b).bind λc=>(Ek h c.1 10).bind λt8=>(app t8 ([(46:Int)]:nH)).bind λd=>(Ek d c.2 10).bind λe=>(app e ([(32:Int)]:nH)).bind λf=>some f).bind λi=>(W0 i).bind λg=>some g
theorem QW{h:AH}{A:Slc}{d:List Aq}(C:Glob (Bo h))(f:oG Au (Bo h) A d)(D:St (Bo h) [] h){r:nI}(hd:Ez d=some r):
 nX hC 48 [sv A] h (An λv E=>∃ψ:AD,∃y:nI,Sub (Bo h) ψ∧v=((.one (.atom .string)):Sh).val y∧y=r∧St ψ [] E):=by
 refine A9 mixed func48 ?_;rw[Q1];unfold OU;unfold Ez at hd;have i:A.2.1=sC d:=f.length;have⟨bb,w,hd⟩:=bS hd;refine BD w (λz (y:Int×Slc×Unit) w_ g=>∃ψ:AD,∃j:nH,Sub (Bo h) ψ∧ψ=(Bo h)∧y.1=z∧j=g∧St ψ (cR 5 (oL .u8) y.2.1 j:: []) w_) rfl ⟨(Bo h),[],(pL _),rfl,rfl,rfl,(D.nil 5 (oL .u8))⟩ ?_ ?_ ?_
 ·rintro _ F bd _ _ ⟨bf,bg,k,rfl,rfl,rfl,e⟩ b a0 l m;try dsimp only at b a0 l m
  refine Ad (dT i l) ?_;have⟨c,G,b⟩:=bS b;obtain⟨bi,bj,H,I,J,n⟩:=(f.mono k).get G;refine AI _ H (Ai I ?_);obtain⟨_,_,rfl,rfl,rfl⟩:=J;refine AF (AG e.sub (n 0 _ rfl)) rfl<|AF (by rw[Aj];exact(AG e.sub (n 1 _ rfl))) rfl<|AU (vs:=[.int .i64 (0:Int),.int .i64 (0:Int)]) e λr6 bl K=>AQ K rfl rfl λbn L=>AQ L rfl rfl λbp o=>AA o rfl ?_;have⟨bq,M,b⟩:=bS b;refine AK (NU C o.at1 M) ?_;rintro _ bs ⟨bt,t8,bx,N,rfl,rfl,rfl,al⟩;refine⟨t8,rfl,AU (vs:=[.int .u8 (46:Int)]) al λr9 bz p=>?_⟩;have⟨c0,ap,b⟩:=bS b;refine AV (ms:=([(46:Int)]:nH)) RJ p.tail rfl (rP p) (.cons (a:=[_]) rfl .nil) rfl ap ?_;intro O c1 q;refine AA q.at1 rfl ?_;have⟨c2,P,b⟩:=bS b;refine AK (NU C q P) ?_;rintro _ c3 ⟨c4,B,c5,Q,rfl,rfl,rfl,R⟩;refine⟨B,rfl,AU (vs:=[.int .u8 (32:Int)]) R λS c6 s=>?_⟩;have⟨T,U,b⟩:=bS b;refine AV (ms:=([(32:Int)]:nH)) RJ s.tail rfl (rP s) (.cons (a:=[_]) rfl .nil) rfl U ?_;intro V c7 W;obtain rfl:=iS b;exact lH rfl rfl ⟨(Bo h),T,((k.trans N).trans Q),rfl,m,rfl,W.at1.tail⟩
 ·rintro _ F c8 ⟨c9,X,Y,rfl,rfl,rfl,Z⟩ b8;refine AW (dF i b8)<|AJ (lI rfl ⟨_,(Bo h),X,Y,rfl,rfl,rfl,Z⟩)
 rintro z1 ch ⟨_,cl,cm,b9,rfl,_,rfl,t⟩;try dsimp only at hd
 have⟨u,ba,hd⟩:=bS hd;refine V0 (x:=u) qL pX rL (St.bytes t) ba ?_;obtain rfl:=iS hd;exact AC ⟨(Bo h),u,b9,(by first | with_reducible rfl | (show Value.string _=Value.string _;with_reducible rfl)|rfl),(by first | with_reducible rfl | rfl),t.tail⟩
theorem Lx{c:Slc}{a:List Aq}(g:Glob φ)(b:oG Au φ c a)(d:St φ F h){r:nI}(hd:Ez a=some r):
 nX hC 48 [sv c] h (An λv f=>∃ψ:AD,∃y:nI,Sub φ ψ∧v=((.one (.atom .string)):Sh).val y∧y=r∧St ψ F f):=by refine nX.mono (QW (g.mono d.sub) (b.mono d.sub) (pL _) hd) ?_;rintro e f ⟨v,rfl,ψ,y,i,rfl,rfl,j⟩;exact⟨_,rfl,φ,y,pL _,rfl,rfl,d.keep (i.trans j.sub)⟩
noncomputable def B8(a_0:NS)(a:List Aq):Option nH:=(forS (σ:=nH) 0 (a.length:Int) ([]:nH) λb h=>(idx a b).bind λc=>(CH a_0 (c.1,c.2)).bind λi=>(cond (decide (i≥ 0)) ((app h ([i]:nH)).bind λd=>some d) (some h)).bind λe=>some e).bind λj=>(XG j).bind λf=>(Od f).bind λg=>some g
theorem JQ{a_0:nG}{d:NS}{l:Slc}{f:List Aq}(k:oG Au φ l f)(D:St φ (cO 75 (pU Dz) a_0 d::F) h){r:nH}(hd:B8 d f=some r):
 nX hC 51 [lP a_0,sv l] h (An (mO φ (oL .i64) r (cO 75 (pU Dz) a_0 d::F))):=by
 refine AT mixed func51 (JH ..) ?_;have m:l.2.1=sC f:=k.length;have⟨ba,u,hd⟩:=bS hd;refine BD u (λw y A g=>∃ψ:AD,∃n:nH,Sub φ ψ∧y.1=w∧n=g∧St ψ (cR 3 (oL .i64) y.2.1 n::cO 75 (pU Dz) a_0 d::F) A) rfl ⟨φ,[],sb,rfl,rfl,(((D.nil 3 (oL .i64)).at1).at1)⟩ ?_ ?_ ?_
 ·rintro _ E bb _ _ ⟨bd,x,bf,rfl,rfl,o⟩ b bg z a0;refine Ad (dT m z)<|QQ k b o λe b=>AU (vs:=[.int .i64 (0:Int),.int .i64 (0:Int)]) o λG bi H=>AQ H rfl rfl λbj I=>AQ I rfl rfl λbl i=>AA i rfl<|AA i rfl ?_;have⟨bn,J,b⟩:=bS b;refine AK (D6 (v:=(e.1,e.2,())) i.at2 J) ?_;rintro _ bp ⟨j,B,bq,rfl,rfl,p⟩;refine⟨B,rfl,?_⟩;have⟨K,c,b⟩:=bS b;refine AY (λy A g=>∃ψ:AD,∃q:nH,Sub j ψ∧q=g∧St ψ (cR 3 (oL .i64) y.1 q::cO 75 (pU Dz) a_0 d::cW 116 G [.int .i64 e.1,.int .i64 e.2]::F) A) (g:=K) ?_ ?_
  ·refine mP c rfl (λc=>?_) (λc=>?_)
   ·refine AU (vs:=[.int .i64 B]) p λL bs s=>?_;have⟨M,N,c⟩:=bS c;refine AV (ms:=([B]:nH)) BR s.tail.at2 rfl (rP s) (.cons (a:=[_]) rfl .nil) rfl N ?_;intro O bt P;exact lG rfl ⟨j,M,sb,iS c,P.at2.at2.at2⟩
   exact lG rfl ⟨j,x,sb,iS c,p.at2.at2.at2.at2⟩
  rintro Q bx ⟨R,S,bz,rfl,T⟩;obtain rfl:=iS b;exact lH rfl rfl ⟨R,S,sb,a0,rfl,T.at2.tail.at1.at1⟩
 ·rintro _ E c0 ⟨al,ap,c1,rfl,rfl,U⟩ V;refine AW (dF m V)<|AJ (lI rfl ⟨_,al,ap,sb,rfl,rfl,U.at1.at1⟩)
 rintro z1 c2 ⟨_,c3,c4,c5,_,rfl,W⟩;have⟨c6,X,hd⟩:=bS hd;refine AK (X8 W X) ?_;rintro _ c7 ⟨c8,C,c9,ch,rfl,rfl,Y⟩;refine⟨C,rfl,?_⟩;have⟨cl,Z,hd⟩:=bS hd;refine AK (Up Y Z) ?_;rintro _ cm ⟨cp,v,b5,cs,rfl,rfl,b6⟩;refine⟨v,rfl,?_⟩;have⟨b7,cw,b8,b9⟩:=rV (t:=v) b6;exact AC ⟨b7,v,b5,sb,rfl,iS hd,b8,b9⟩
noncomputable def C1(a_0:GQ)(a:Int):Option (List Aq):=(B0 a_0 a).bind λt1=>(cloneD t1.2.1).bind λt2=>some t2
theorem GI{a_0:nG}{a:GQ}{b:Int}(c:Pt Jl φ a_0 a)(v:St φ F h){r:(List Aq)}(hd:C1 a b=some r):
 nX hC 133 [lP a_0,lN b] h (An (mO φ Au r F)):=by refine AT mixed func133 (Ki ..) ?_;have⟨n,d,hd⟩:=bS hd;refine AK (Fc c v d) ?_;rintro _ o ⟨p,t1,q,s,u,w,rfl,rfl,x,e,z,f⟩;refine⟨t1,rfl,?_⟩;have⟨a0,g,hd⟩:=bS hd;refine AK (QL e f g) ?_;rintro _ y ⟨A,t2,i,B,rfl,rfl,j⟩;refine⟨t2,rfl,?_⟩;have⟨k,C,l,m⟩:=rV (t:=t2) j;exact AC ⟨k,t2,i,sb,rfl,iS hd,l,m⟩
noncomputable def C2(a_0:GQ)(a:Int):Option (List JE):=(B0 a_0 a).bind λt1=>(cloneD t1.2.2.1).bind λt2=>some t2
theorem GJ{a_0:nG}{a:GQ}{b:Int}(c:Pt Jl φ a_0 a)(v:St φ F h){r:(List JE)}(hd:C2 a b=some r):
 nX hC 94 [lP a_0,lN b] h (An (mO φ ED r F)):=by refine AT mixed func94 (Kj ..) ?_;have⟨n,d,hd⟩:=bS hd;refine AK (Fc c v d) ?_;rintro _ o ⟨p,t1,q,s,u,w,rfl,rfl,x,z,e,f⟩;refine⟨t1,rfl,?_⟩;have⟨a0,g,hd⟩:=bS hd;refine AK (U5 e f g) ?_;rintro _ y ⟨A,t2,i,B,rfl,rfl,j⟩;refine⟨t2,rfl,?_⟩;have⟨k,C,l,m⟩:=rV (t:=t2) j;exact AC ⟨k,t2,i,sb,rfl,iS hd,l,m⟩
end
end Go.Proofs.YtfnppeejaimnbaaGreatDoor
namespace Go.Proofs.YtfnppeejaimnbaaGreatDoor
open Go Go.Eng Go.RowKit Go.Shelf Go.Sort
def orI(x y:Int):Int:=if x=0 then y else x
theorem or2{b:Nat}{x y:Int}(w:uF)(o:w.cell? ⟨b,0,none⟩=some (.int .i64 x))(p:w.cell? ⟨b,1,none⟩=some (.int .i64 y)):
 Calls hC 125 #[.slice (lF b) 2 2] w λe g=>e= .returned (.int .i64 (orI x y))∧g=w:=by
 have j:prog.follows .mixedOrders=true:=mixed
 go_enter func125,ntmps125
 go_wp2
 go_loop [5,8] (λ_ i=>∃k:Nat,k≤2∧i= .int .i64 k∧(1≤k→x=0)∧(2≤k→y=0)) (λ_ i=>match i with | .int _ m=>2 - m.toNat | _=>0)
 case atStart=>exact⟨0,nJ,rfl,nJ,nJ⟩
 case round=>
  obtain⟨k,q,rfl,c,l⟩:=hrel;have d:k=0∨k=1∨k=2:=nJ
  rcases d with rfl | rfl | rfl
  ·go_wp2
   ·have a:(x !=0)=true:=by assumption
    go_ret
    exact⟨by unfold orI;rw[nA (by simpa using a)];rfl,rfl⟩
   ·have a:(x !=0)=false:=by assumption
    exact⟨⟨1,nJ,rfl,λ_=>by simpa using a,λh=>nJ⟩,nQ⟩
  ·go_wp2
   ·have a:(y !=0)=true:=by assumption
    go_ret
    have f:=c nJ;subst f;exact⟨rfl,rfl⟩
   ·have a:(y !=0)=false:=by assumption
    exact⟨⟨2,nJ,rfl,λ_=>c nJ,λ_=>by simpa using a⟩,nQ⟩
  ·go_wp2
   go_ret
   have f:=c nJ;have n:=l nJ;subst f;subst n;exact⟨rfl,rfl⟩
theorem MZ{w:uF}{b i:Nat}{c:Array uD}{t:uE}{v:uD}(a:w.heap[b]? =some (.cells c t (0,0)))(d:c[i]? =some v):w.cell? ⟨b,i,none⟩=some v:=by rw[Vh,Gi (c:=c) (t:=t) (f:=(0,0)) a rfl];exact d
theorem Sr(w:uF)(x y:Int):(w.alloc (.cells #[.int .i64 x,.int .i64 y] 3)).cell? ⟨w.heap.size,0,none⟩=some (.int .i64 x)∧(w.alloc (.cells #[.int .i64 x,.int .i64 y] 3)).cell? ⟨w.heap.size,1,none⟩=some (.int .i64 y):=by
 have a:(w.alloc (.cells #[.int .i64 x,.int .i64 y] 3)).heap[w.heap.size]? =some (.cells #[.int .i64 x,.int .i64 y] 3 (0,0)):=by
  show(w.heap.push _)[w.heap.size]? =_;rw[rA,mZ rfl]
 exact⟨MZ a rfl,MZ a rfl⟩
theorem RK(w:uF)(o:Obj):w.alloc o=grow w #[o]:=by show({w with heap:=w.heap.push o} :uF)= {w with heap:=w.heap++ #[o]};rw[Array.push_eq_append]
theorem iT{a b:Int×Int}(w:uF):
 Calls hC 85 #[.agg #[.int .i64 a.1,.int .i64 a.2],.agg #[.int .i64 b.1,.int .i64 b.2]] w λe l=>e= .returned (.int .i64 (orI (Lib.compareInt a.1 b.1) (Lib.compareInt a.2 b.2)))∧ ∃q g,l=grow (w.drewN q) g:=by
 have m:prog.follows .mixedOrders=true:=mixed;have n:∀args w,(callFunc 126 args).run hC w= .ok (.enter 126 args) w:=enters_of func126 nU rfl;have o:∀args w,(callFunc 125 args).run hC w= .ok (.enter 125 args) w:=enters_of func125 nU rfl
 go_enter func85,ntmps85
 go_wp2
 obtain⟨A,h⟩:∃A,A=Obj.cells #[qD .i64 a.1,qD .i64 a.2] 116 (0,0):=⟨_,rfl⟩;obtain⟨B,i⟩:∃B,B=Obj.cells #[qD .i64 b.1,qD .i64 b.2] 116 (0,0):=⟨_,rfl⟩;obtain⟨W,c⟩:∃W,W=(w.alloc A).alloc B:=⟨_,rfl⟩;have j:W.heap=(w.heap.push A).push B:=by rw[c];rfl
 have d:W.heap[w.heap.size]? =some A:=by rw[j,rA,nA nP,rA,mZ rfl]
 have f:W.heap[w.heap.size+1]? =some B:=by rw[j,rA,mZ nP]
 rw[←h,←i,←c];rw[h]at d;rw[i]at f;have p:W.drew.cell? ⟨w.heap.size,0,none⟩=some (.int .i64 a.1):=MZ (w:=W.drew) d rfl;have r:W.drew.cell? ⟨w.heap.size,1,none⟩=some (.int .i64 a.2):=MZ (w:=W.drew) d rfl;have s:W.drew.cell? ⟨w.heap.size+1,0,none⟩=some (.int .i64 b.1):=MZ (w:=W.drew) f rfl;have t:W.drew.cell? ⟨w.heap.size+1,1,none⟩=some (.int .i64 b.2):=MZ (w:=W.drew) f rfl;have k:grow w #[A,B] =W:=by rw[c,RK,RK,grow_grow];rfl
 clear j d f c h i;refine wp_region_still_tail 10 nU nU ?_;simp only[List.take_succ_cons,List.take_zero,List.drop_succ_cons,List.drop_zero]
 still_step
 still_step
 still_step
 still_step
 still_call (Any.cmp_Compare_int Oc _ _ _)
 still_step
 still_step
 still_step
 still_step
 still_call (Any.cmp_Compare_int Oc _ _ _)
 refine wpStill_nil ?_;clear p r s t;change wpList _ _ _ _ _ W.drew
 generalize u:W.drew=V
 go_wp2_with (go_at_call 125;refine(or2 (x:=Lib.compareInt a.1 b.1) (y:=Lib.compareInt a.2 b.2) _ (Sr _ _ _).1 (Sr _ _ _).2).mono ?_;rintro e l ⟨rfl,rfl⟩)
 go_ret
 refine⟨rfl,1,#[A,B] ++ #[.cells #[.int .i64 (Lib.compareInt a.1 b.1),.int .i64 (Lib.compareInt a.2 b.2)] 3 (0,0)],?_⟩;rw[RK,←u,←k,←grow_grow];rfl
abbrev Item:=Int×Int
def Gw(x:Item):List uD:=[.int .i64 x.1,.int .i64 x.2]
def cfI(x y:Item):Int:=orI (Lib.compareInt x.1 y.1) (Lib.compareInt x.2 y.2)
def Em(x y:Item):Bool:=decide (x.1<y.1∨x.1=y.1∧x.2<y.2)
def Hw(l:List Item):List Item:=Sf (λx y=> !Em y x) l
theorem Ol(a b c:Item)(d:(!Em b a)=true)(e:(!Em c b)=true):(!Em c a)=true:=by simp only[Em,rI,nF]at *;omega
theorem Om(a b:Item):(!Em b a || !Em a b)=true:=by simp only[Em,sL,rI,nF];omega
theorem YF(l:List Item):Hw l=l.mergeSort λx y=> !Em y x:=
 Uo Ol Om (λa b c d=>by
  simp only[Em,rI,nF]at *;exact rZ nJ nJ) l
def J4(l:List Item):Option (List Item):=if l.length<4611686018427387904 then some (Hw l) else none
theorem YG{φ:AD}{vs:List uD}{l:List Item}(H:Au.All φ vs l):vs=l.flatMap Gw:=by
 induction H with
 |nil=>rfl
 |cons h _ a=>
  obtain⟨_,_,rfl,rfl,rfl⟩:=h;rw[a,sD];rfl
theorem YH{φ:AD}(l:List Item):Au.All φ (l.flatMap Gw) l:=by
 induction l with
 |nil=>exact .nil
 |cons x l b=>exact Ro.All.cons (a:=Gw x) ⟨[_],_,rfl,rfl,rfl⟩ b
theorem Z4(l:List Item):∀t:Nat,t<l.length *2→(l.flatMap Gw)[t]? =some ((Gw (l[t / 2]?.getD (0,0)))[t % 2]!):=by
 induction l with
 |nil=>intro t h;simp at h
 |cons x l a=>
  intro t h;rw[sD]
  match t with
  | 0=>rfl
  | 1=>rfl
  |t+2=>
   rw[oM (by simp[Gw])];have e:t+2 - (Gw x).length=t:=by simp[Gw]
   rw[e,a t (by simp at h;omega),show(t+2) / 2=t / 2+1 by omega,List.getElem?_cons_succ,show(t+2) % 2=t % 2 by omega]
theorem On(l:List Item):(l.flatMap Gw).length=l.length *2:=by
 induction l with
 |nil=>rfl
 |cons x l a=>rw[sD,oK,a,oD];simp[Gw];omega
theorem RL(l:List Item):flatK Gw 2 l.toArray=(l.flatMap Gw).toArray:=by
 refine ext_get! (by rw[size_flatK,pI,pI,On]) λt b=>?_;rw[size_flatK,pI]at b;rw[get_flatK _ _ _ _ (by simpa using b)];have c:=Z4 l t b;have a:t< (l.flatMap Gw).length:=by rw[On];exact b
 rw[bD a]at c;rw[getElem!_pos _ t (by simpa using a)];have d:t / 2<l.length:=nJ
 rw[getElem!_pos _ (t / 2) (by simpa using d)];rw[bD d]at c;simp only[List.getElem_toArray];exact(Option.some.inj c).symm
theorem RM(x y:Item):ltOf cfI x y=Em x y:=by
 unfold ltOf cfI Em orI Lib.compareInt;by_cases a:x.1<y.1
 ·simp[a]
 ·by_cases d:y.1<x.1
  ·have:¬x.1=y.1:=nJ
   simp[a,d,this]
  ·have b:x.1=y.1:=nJ
   by_cases c:x.2<y.2
   ·simp[b,c]
   ·by_cases e:y.2<x.2<;>simp[b,c,e]
theorem WK(x y:Item):Em x y=true↔(x.1<y.1∨x.1=y.1∧x.2<y.2):=by unfold Em;exact decide_eq_true_iff
theorem Ly(x y:Item):Em x y=false↔¬(x.1<y.1∨x.1=y.1∧x.2<y.2):=by unfold Em;exact nF
theorem jD:SWO (ltOf cfI) where
 irrefl x:=by rw[RM,Ly];omega
 trans x y z a b:=by rw[RM,WK]at *;omega
 ntrans x y z a b:=by rw[RM,Ly]at *;omega
theorem jE(x y:Item)(a:ltOf cfI x y=false)(b:ltOf cfI y x=false):x=y:=by rw[RM,Ly]at a b;exact rZ nJ nJ
section
variable {φ:AD}{h:AH}{F:List Chk}
theorem WL{t:Slc}{l r:List Item}(f:St φ (cR 116 Au t l::F) h)(hd:J4 l=some r):
 nX hC 84 [.slice t.1 t.2.1 t.2.2,.func (.func 85) #[] #[]] h (An λv s=>∃ψ:AD,∃y:Unit,∃p:List Item,Sub φ ψ∧v=mG.val y∧p=r∧St ψ (cR 116 Au t p::F) s):=by
 unfold J4 at hd;split at hd
 ·rename_i u
  cases hd;intro w z;subst z;rcases St.rowHoldsF f with⟨A,g⟩|⟨b,off,vs,ht,hall,g,hlt,hfit,hH⟩
  ·subst A;rw[g];have i:=AnyF.slices_SortFunc_none Lo t.1 t.2.2 (.func (.func 85) #[] #[]) w;refine(show Calls hC 84 #[.slice t.1 0 t.2.2,_] w _ from i).mono ?_;rintro e B ⟨rfl,rfl⟩;exact⟨CB.refl _,_,rfl,φ,(),_,pL _,rfl,rfl,by rw[show Hw [] = [] from rfl];exact f⟩
  ·have j:=YG hall;subst j;have n:HoldsK Gw 2 w b off l.toArray:=by unfold HoldsK;rw[RL];exact hH
   have i:=AnyQ.slices_SortFunc_total Lo 2 (λw=>isAgg116 w) (λw=>sizeOf116 w) Gw (λ_=>rfl) (λx v q=>by simp[Gw]at q;rcases q with rfl | rfl<;>rfl) cfI jD 85 #[] b off t.2.2 l.toArray w
    (enters_of func85 nU rfl) (λm os E C x y=>iT (a:=x) (b:=y) _) n hlt (by simpa using u) jE
   have o:t.2.1=l.toArray.size:=by rw[g];simp
   rw[ht,o];refine(show Calls hC 84 #[.slice (some ⟨b,off,none⟩) l.toArray.size t.2.2,_] w _ from i).mono ?_;rintro e B ⟨rfl,k,os,rfl⟩;have d:(l.toArray.toList.mergeSort λx y=> !(ltOf cfI) y x)=Hw l:=by
    rw[YF];congr 1;funext x y;rw[RM]
   rw[d];have c:(Hw l).length=l.length:=(Dh _ _).length_eq;have D:=St.rowSortedF f ht ((Hw l).flatMap Gw) (YH _) c (by rw[On,c,←On];exact hfit) k os;refine⟨⟨rfl,rfl,rfl,by unfold sortWorldK;rw[size_grow,size_putRowK];exact Nat.le_add_right _ _⟩,_,rfl,φ,(),_,pL _,rfl,rfl,?_⟩;unfold sortWorldK putRowK;rw[RL];exact D
 ·cases hd
end
end Go.Proofs.YtfnppeejaimnbaaGreatDoor
namespace Go.Proofs.YtfnppeejaimnbaaGreatDoor
open Go Go.Eng
noncomputable def BX(a_0:NS)(b:List Aq):Option (List Aq):=(cloneD b).bind λt1=>(loop (σ:=(Int×List Aq×List (Int×Bool))) (β:=(List Aq×List (Int×Bool))) (0,t1,([]:List (Int×Bool))) λc=>cond (decide (c.1< (c.2.1.length:Int))) (((idx c.2.1 c.1).bind λe=>(CH a_0 (e.1,e.2)).bind λf=>(cond (decide (f< 0)) (some true) ((Bp (a_0.1,a_0.2.1,a_0.2.2.1,a_0.2.2.2.1,a_0.2.2.2.2.1,a_0.2.2.2.2.2.1) f).bind λh=>cond h (some true) ((some (BZ f c.2.2)).bind λi=>some (Option.getD i false)))).bind λj=>cond j (some (c.2.1,c.2.2)) ((forS (σ:=List Aq) 0 (a_0.2.2.1.length:Int) c.2.1 λa d=>(idx a_0.2.2.1 a).bind λg=>(cond (g.1==f) ((BC d (a,0)).bind λk=>some (!k)) (some false)).bind λl=>(cond l ((app d ([(a,0)]:List Aq)).bind λm=>some m) (some d)).bind λn=>some n).bind λo=>some (o,(CK f true c.2.2)))).bind λq=>some (sJ ((oF .i64 (c.1+1)),q.1,q.2))) (some (sI (c.2.1,c.2.2)))).bind λr=>(J4 r.1).bind λp=>some p
theorem JR{φ:AD}{h:AH}{F:List Chk}{a_0:nG}{b:NS}{v:Slc}{bb:List Aq}(c6:oG Au φ v bb)(s0:St φ (cO 75 (pU Dz) a_0 b::F) h){r:(List Aq)}(hd:BX b bb=some r):
 nX hC 49 [lP a_0,sv v] h (An (mO φ Au r (cO 75 (pU Dz) a_0 b::F))):=by
 refine AT mixed func49 (JG ..) ?_;have⟨g0,c7,hd⟩:=bS hd;refine AK (QL c6 s0 c7) ?_;rintro _ g1 ⟨K,t1,c8,g2,rfl,rfl,c9⟩;refine⟨t1,rfl,EB (kyI .i64) sK c9 λC g3 ch=>?_⟩;have⟨cl,cm,hd⟩:=bS hd;refine Af (λy B g=>∃ψ:AD,∃bf:List Aq,∃bg:List (Int×Bool),Sub K ψ∧(bf,bg)=g∧St ψ (cR 116 Au y.2.1 bf::cM (kyI .i64) sK C bg::cO 75 (pU Dz) a_0 b::F) B) (g:=cl) ?_ ?_
 ·refine Bx cm (λy B g=>∃ψ:AD,∃bi:List Aq,∃bj:List (Int×Bool),Sub K ψ∧(y.1,bi,bj)=g∧St ψ (cR 116 Au y.2.1 bi::cM (kyI .i64) sK C bj::cO 75 (pU Dz) a_0 b::F) B) rfl ⟨K,c8,([]:List (Int×Bool)),sb,rfl,ch.at1.at2.at2.at2⟩ ?_
  ·rintro z4 g4 _ _ ⟨bl,p,e,g5,rfl,q⟩ f cp;have cs:=q.rowLen;refine mP f (by rw[cs] <;>rfl) (λf=>?_) (λf=>?_)
   ·have⟨cw,c,f⟩:=bS f;refine Af (λy B g=>∃ψ:AD,∃bn:List Aq,∃bp:List (Int×Bool),Sub bl ψ∧(bn,bp)=g∧St ψ (cR 116 Au y.1 bn::cM (kyI .i64) sK C bp::cO 75 (pU Dz) a_0 b::F) B) (g:=cw) ?_ ?_
    ·refine iJ q c λbq c=>?_;have⟨g6,cx,c⟩:=bS c;refine AK (D6 (v:=(bq.1,bq.2,())) q.at2 cx) ?_;rintro _ g7 ⟨bs,D,g8,rfl,rfl,bt⟩;refine⟨D,rfl,?_⟩;have⟨d0,d,c⟩:=bS c;refine AY (λy B g=>∃ψ:AD,Sub bs ψ∧y.1=g∧St ψ (cO 75 (pU Dz) a_0 b::cR 116 Au z4.2.1 p::cM (kyI .i64) sK C e::F) B) (g:=d0) ?_ ?_
     ·refine mP d rfl (λd=>?_) (λd=>?_)
      ·have d1:=bt.at2;exact lG rfl ⟨bs,sb,iS d,d1.at2.at2⟩
      obtain⟨g9,gc,d2,⟨_,_,rfl,⟨L,rfl,M⟩,_,_,rfl,⟨N,rfl,O⟩,_,_,rfl,⟨P,rfl,Q⟩,_,_,rfl,⟨al,rfl,ap⟩,_,_,rfl,⟨R,rfl,S⟩,_,_,rfl,⟨T,rfl,U⟩,_,_,rfl,rfl,rfl⟩,j⟩:=tY bt;subst d2;refine AI _ rfl<|AA j rfl<|AA j rfl<|AA j rfl<|AA j rfl<|AA j rfl<|AA j rfl ?_;have⟨gd,d3,d⟩:=bS d;refine AK (Eg (p_0:=(L,N,P,al,R,T,())) (d_p_0:=(b.1,b.2.1,b.2.2.1,b.2.2.2.1,b.2.2.2.2.1,b.2.2.2.2.2.1)) ⟨M,O,Q,ap,S,U⟩ j d3) ?_;rintro _ gf ⟨bx,V,gg,rfl,rfl,W⟩;refine⟨V,rfl,mP d rfl (λd=>?_) (λd=>?_)⟩
      ·have d4:=tZ (r:=Dz) (x:=(b.1,b.2.1,b.2.2.1,b.2.2.2.1,b.2.2.2.2.1,b.2.2.2.2.2.1,b.2.2.2.2.2.2.1,b.2.2.2.2.2.2.2)) W ⟨[_],_,rfl,⟨L,rfl,M.up⟩,⟨[_],_,rfl,⟨N,rfl,O.up⟩,⟨[_],_,rfl,⟨P,rfl,Q.up⟩,⟨[_],_,rfl,⟨al,rfl,ap.up⟩,⟨[_],_,rfl,⟨R,rfl,S.up⟩,⟨[_],_,rfl,⟨T,rfl,U.up⟩,⟨[_],_,rfl,rfl,rfl⟩⟩⟩⟩⟩⟩⟩;exact lG rfl ⟨bx,sb,iS d,d4.at2.at2.at2⟩
      have⟨gi,d5,d⟩:=bS d;obtain rfl:=iS d5;refine Ha (a:=.bool) (kk:=(kyI .i64)) (i:=t4) false tD sF nU rfl W.at2 ?_;have d6:=tZ (r:=Dz) (x:=(b.1,b.2.1,b.2.2.1,b.2.2.2.1,b.2.2.2.2.1,b.2.2.2.2.2.1,b.2.2.2.2.2.2.1,b.2.2.2.2.2.2.2)) W ⟨[_],_,rfl,⟨L,rfl,M.up⟩,⟨[_],_,rfl,⟨N,rfl,O.up⟩,⟨[_],_,rfl,⟨P,rfl,Q.up⟩,⟨[_],_,rfl,⟨al,rfl,ap.up⟩,⟨[_],_,rfl,⟨R,rfl,S.up⟩,⟨[_],_,rfl,⟨T,rfl,U.up⟩,⟨[_],_,rfl,rfl,rfl⟩⟩⟩⟩⟩⟩⟩;exact lG rfl ⟨bx,sb,iS d,d6.at2.at2.at2⟩
     rintro e6 gj ⟨X,gk,rfl,bz⟩;refine mP c rfl (λc=>?_) (λc=>?_)
     ·have d7:=bz.at1;exact lI rfl ⟨X,p,e,sb,iS c,d7.at1.at2.at2⟩
     refine LU (kk:=(kyI .i64)) (y:=true) tD sF bz.at2 rfl λgl d8=>?_;obtain⟨Y,gn,d9,⟨_,_,rfl,⟨s,rfl,dd⟩,_,_,rfl,⟨u,rfl,dk⟩,_,_,rfl,⟨w,rfl,Z⟩,_,_,rfl,⟨z,rfl,dl⟩,_,_,rfl,⟨a0,rfl,dm⟩,_,_,rfl,⟨H,rfl,dn⟩,_,_,rfl,rfl,rfl⟩,c0⟩:=tY d8.at1;subst d9;have c1:=Z.length;refine AI _ rfl<|AA c0 rfl ?_;have⟨go,dp,c⟩:=bS c;refine BD dp (λds y B g=>∃ψ:AD,∃c2:List Aq,Sub X ψ∧y.1=ds∧c2=g∧St ψ (cR 116 Au y.2.1 c2::cW 75 Y [sv s,sv u,sv w,sv z,sv a0,sv H,sv b.2.2.2.2.2.2.1,.int .i64 b.2.2.2.2.2.2.2]::cM (kyI .i64) sK C (CK D true e)::F) B) rfl ⟨X,p,sb,rfl,rfl,c0.at2.at2.at2.at2⟩ ?_ ?_ ?_
     ·rintro _ A gp _ _ ⟨b7,c3,gr,rfl,rfl,I⟩ k gs dx dy;refine Ad (dT c1 dx) ?_;have⟨n,e0,k⟩:=bS k;obtain⟨gv,gw,e1,e2,e3,b8⟩:=(Z.up (ψ:=b7)).get e0;refine AI _ e1 (Ai e2 ?_);obtain⟨_,_,rfl,rfl,⟨_,_,rfl,⟨b9,rfl,gx⟩,rfl⟩⟩:=e3;refine AF (AG (rN sb I.sub) (b8 0 _ rfl)) rfl<|AF (by rw[Aj];exact(AG (rN sb I.sub) (b8 1 _ rfl))) rfl<|AF (by rw[Aj];exact(AG (rN sb I.sub) (b8 2 _ rfl))) rfl<|AU (vs:=[.int .i64 (0:Int),.slice none 0 0,.int .i64 (0:Int)]) I λE h0 e8=>AQ e8 rfl rfl λh1 e9=>AQ e9 rfl rfl λh2 ea=>AQ ea rfl rfl λh3 ed=>AU (vs:=[.int .i64 (0:Int),.int .i64 (0:Int)]) ed λG h4 ee=>AQ ee rfl rfl λh5 ef=>AQ ef rfl rfl λh6 o=>?_;have⟨eg,l,k⟩:=bS k;refine AY (λy B g=>∃ψ:AD,Sub b7 ψ∧y.1=g∧St ψ (cW 116 G [.int .i64 A.1,.int .i64 (0:Int)]::cW 156 E [.int .i64 n.1,sv b9,.int .i64 n.2.2]::cR 116 Au A.2.1 c3::cW 75 Y [sv s,sv u,sv w,sv z,sv a0,sv H,sv b.2.2.2.2.2.2.1,.int .i64 b.2.2.2.2.2.2.2]::cM (kyI .i64) sK C (CK D true e)::F) B) (g:=eg) ?_ ?_
      ·refine AA o.at1 rfl<|mP l rfl (λl=>?_) (λl=>?_)
       ·refine AA o rfl<|AA o rfl ?_;have⟨h7,el,l⟩:=bS l;refine AK (EF (v_1:=(A.1,(0:Int),())) o.at2 el) ?_;rintro _ h8 ⟨em,e4,h9,rfl,rfl,en⟩;exact⟨e4,rfl,lG rfl ⟨em,sb,iS l,en.at4.at4.at2.at4.at4⟩⟩
       exact lG rfl ⟨b7,sb,iS l,o.at4.at4.at4.at4.at4⟩
      rintro e7 hb ⟨ba,hc,rfl,J⟩;have⟨eo,m,k⟩:=bS k;refine AY (λy B g=>∃ψ:AD,∃c4:List Aq,Sub ba ψ∧c4=g∧St ψ (cR 116 Au y.1 c4::cW 116 G [.int .i64 A.1,.int .i64 (0:Int)]::cW 156 E [.int .i64 n.1,sv b9,.int .i64 n.2.2]::cW 75 Y [sv s,sv u,sv w,sv z,sv a0,sv H,sv b.2.2.2.2.2.2.1,.int .i64 b.2.2.2.2.2.2.2]::cM (kyI .i64) sK C (CK D true e)::F) B) (g:=eo) ?_ ?_
      ·refine mP m rfl (λm=>?_) (λm=>?_)
       ·refine AA J rfl<|AA J rfl<|AU (vs:=[.int .i64 A.1,.int .i64 (0:Int)]) J λi0 he c5=>?_;have⟨er,es,m⟩:=bS m;refine AV (ms:=([(A.1,(0:Int))]:List Aq)) CE c5.tail.at2 rfl (rP c5) (.cons (a:=[_,_]) ⟨[_],_,rfl,rfl,rfl⟩ .nil) rfl es ?_;intro i1 hf ev;exact lG rfl ⟨ba,er,sb,iS m,ev.at4.at4.at4.at4.at4⟩
       exact lG rfl ⟨ba,c3,sb,iS m,J.at2.at4.at4.at4.at4.at4⟩
      rintro i2 hg ⟨ew,ex,hh,rfl,ez⟩;obtain rfl:=iS k;exact lH rfl rfl ⟨ew,ex,sb,dy,rfl,ez.at1.tail.at1.tail.at2.at2.at2⟩
     ·rintro _ A hi ⟨f0,f1,hj,rfl,rfl,f2⟩ f3;refine AW (dF c1 f3)<|AJ (lI rfl ⟨_,f0,f1,sb,rfl,rfl,f2.at2.at2.at2⟩)
     rintro i3 hk ⟨_,f4,f5,hl,_,rfl,f6⟩;have f7:=tZ (r:=Dz) (x:=(b.1,b.2.1,b.2.2.1,b.2.2.2.1,b.2.2.2.2.1,b.2.2.2.2.2.1,b.2.2.2.2.2.2.1,b.2.2.2.2.2.2.2)) f6.at1 ⟨[_],_,rfl,⟨s,rfl,dd.up⟩,⟨[_],_,rfl,⟨u,rfl,dk.up⟩,⟨[_],_,rfl,⟨w,rfl,Z.up⟩,⟨[_],_,rfl,⟨z,rfl,dl.up⟩,⟨[_],_,rfl,⟨a0,rfl,dm.up⟩,⟨[_],_,rfl,⟨H,rfl,dn.up⟩,⟨[_],_,rfl,rfl,rfl⟩⟩⟩⟩⟩⟩⟩;exact lJ rfl ⟨f4,f5,(CK D true e),sb,iS c,f7.at2.at2⟩
    rintro z5 hm ⟨f8,f9,fa,hn,rfl,fd⟩;obtain rfl:=iS f;exact lH rfl rfl ⟨f8,f9,fa,sb,rfl,fd.at2.at2.at2⟩
   obtain rfl:=iS f;obtain rfl:=cp _ rfl;exact AJ (lI rfl ⟨bl,p,e,sb,rfl,q.at2.at2.at2⟩)
 rintro z3 ho ⟨hp,hq,hr,hs,rfl,fl⟩;have⟨ht,fn,hd⟩:=bS hd;refine AK (WL fl fn) ?_;rintro _ hu ⟨hv,e5,fo,hw,rfl,rfl,fr⟩;refine⟨e5,rfl,?_⟩;have⟨fs,hx,fv,fz⟩:=rV (t:=z3.2.1) fr;exact AC ⟨fs,z3.2.1,fo,sb,rfl,iS hd,fv,fz.tail⟩
abbrev dtB:Type:=(List Item×List Item×Slc×Int×Int)
abbrev roB:Ro dtB:=uA (rU Au) (uA (rU Au) (uA Ro.slc (uA (oL .i64) (oL .i64))))
abbrev dtK:Type:=(List Item×List Item×Int×Int)
abbrev NV{ε:Type}(b:dtK)(s:ε):List Item×List Item×ε×Int×Int:=(b.1,b.2.1,s,b.2.2.1,b.2.2.2)
abbrev Fe{ε:Type}(B:List dtK)(S:List ε):List (List Item×List Item×ε×Int×Int):=List.zipWith NV B S
theorem En{ε:Type}{B:List dtK}{S:List ε}(h:S.length=B.length):(Fe B S).length=B.length:=by unfold Fe;rw[List.length_zipWith];omega
theorem YI{ε:Type}{B:List dtK}{S:List ε}(h:S.length=B.length)(b:dtK)(s:ε):Fe (B++ [b]) (S++ [s])=Fe B S++ [NV b s]:=by unfold Fe;rw[sS h.symm];rfl
abbrev Fd:Type:=List (nI×Int)
abbrev qA(p:As)(s:Slc)(t:Int):NS:=(p.1,p.2.1,p.2.2.1,p.2.2.2.1,p.2.2.2.2.1,p.2.2.2.2.2,s,t)
abbrev DC:Slc:=(none,0,0)
theorem U6(p:As)(s:Slc)(t:Int)(k:List Item):BX (qA p s t) k=BX (qA p DC 0) k:=rfl
abbrev bC(c d e f m a r1 b:Nat)(fd:Fd)(p:As)(ls:Slc)(tot:Int)(L:List dtB)(rm cl:DA)(F:List Chk):List Chk:=
 cW 105 c [.map (some m)]::cM kyS (oL .i64) m fd::cW 33 d [pv a]::cO 75 (pU Dz) (lF a) (qA p ls tot)::cR 112 roB ls L::
 cW 103 e [pv r1]::cO 175 (pU Gl) (lF r1) rm::cW 103 f [pv b]::cO 175 (pU Gl) (lF b) cl::F
noncomputable def YJ(p:As)(fd:Fd)(B:List dtK)(rm cl:DA)(k:List Item)(fr wi:Int):Option (Int×Int×Fd×List dtK×DA×DA):=(Ez k).bind λs=>cond (BZ s fd).isSome (some ((BZ s fd).getD 0,0,fd,B,rm,cl)) ((BX (qA p DC 0) k).bind λa=>(DF rm 1).bind λt=>(cond (t.1==0) ((DF cl (a.length:Int)).bind λu=>some (u.1,u.2)) (some (t.1,cl))).bind λz=>(app B [(k,a,fr,wi)]).bind λb=>some (oF .i64 ((b.length:Int) - 1),z.1,CK s (B.length:Int) fd,b,t.2,z.2))
theorem jF:Fy hC 73 73 112 5:=⟨tN,.inl tN,⟨t112,nU,rfl,⟨_,rfl,rfl⟩,nQ,nQ⟩,nQ⟩
theorem St.bC_of{φ:AD}{h:AH}{a0 a b c d e f g i:Chk}{F:List Chk}(H:St φ (c::d::a::i::f::a0::b::e::g::F) h):St φ (a0::a::b::c::d::e::f::g::i::F) h:=
 H.at3.at8.at5.at8.at5.at5.at8.at7.at8
theorem XM{φ:AD}{h:AH}{F:List Chk}{t:Slc}{k:List Item}{fr wi:Int}{L M N O m a r1 G:Nat}{fd:Fd}{p:As}{ls:Slc}{tot:Int}{B:List dtK}{S:List Slc}{rm cl:DA}
 (gk:Glob φ) (k1:oG Au φ t k) (hS:S.length=B.length) (s0:St φ (bC L M N O m a r1 G fd p ls tot (Fe B S) rm cl F) h) {r:Int×Int×Fd×List dtK×DA×DA} (hd:YJ p fd B rm cl k fr wi=some r):
 nX hC 47 [.slice t.1 t.2.1 t.2.2,.int .i64 fr,.int .i64 wi,pv L,pv M,pv N,pv O] h (An λv h'=>∃(ψ:AD) (y:Int×Int×Unit) (f:Slc) (S':List Slc),Sub φ ψ∧v=((.tuple [.atom (.int .i64),.atom (.int .i64)]):Sh).val y∧y.1=r.1∧y.2.1=r.2.1∧
  ((r.2.2.2.1=B∧S'=S)∨ ∃x,r.2.2.2.1=B++ [x] ∧S'=S++ [DC])∧St ψ (bC L M N O m a r1 G r.2.2.1 p f tot (Fe r.2.2.2.1 S') r.2.2.2.2.1 r.2.2.2.2.2 F) h'):=by
 refine A9 mixed func47 ?_;rw[No];unfold JI;unfold YJ at hd;have⟨s,hs,hd⟩:=bS hd;refine AA (x:=some m) s0 rfl<|AK (Lx gk k1 s0 hs) ?_;rintro _ h1 ⟨ψ1,s,l,rfl,rfl,P⟩;refine⟨s,rfl,AP (sE P rfl)<|X6 (a:=.int .i64) (kk:=kyS) (i:=t3) 0 tE rL nU rfl P.at1 λy hy=>?_⟩;subst hy;refine mP hd rfl (λhd=>?_) (λhd=>?_)
 ·obtain rfl:=iS hd;exact AC ⟨ψ1,((BZ s fd).getD 0,0,()),ls,S,l,rfl,rfl,rfl,.inl ⟨rfl,rfl⟩,P⟩
 have⟨b2,hc,hd⟩:=bS hd;have⟨tk,ht,hd⟩:=bS hd;have⟨z,A,hd⟩:=bS hd;obtain⟨B',hB,hd⟩:=bS hd;obtain rfl:=iS hd;refine AA (x:=some ⟨a,0,none⟩) P.at2 rfl<|AK (JR (k1.mono l) P.at3 (by rw[U6];exact hc)) ?_;rintro _ h2 ⟨ψ2,H,l2,Q,rfl,rfl,k2,s2⟩;refine⟨H,rfl,?_⟩;have n2:=k2.length;have b1:=l.trans Q;refine AU (vs:=[.slice none 0 0,.slice none 0 0,.slice none 0 0,.int .i64 (0:Int),.int .i64 (0:Int)]) s2 λr6 h3 s3=>AQ s3 rfl rfl λh4 s4=>AQ s4 rfl rfl λh5 s5=>AQ s5 rfl rfl λh6 s6=>AQ s6 rfl rfl λh7 s7=>AQ s7 rfl rfl λh8 s8=>?_;have R:St ψ2 (cW 112 r6 [sv t,sv H,.slice none 0 0,.int .i64 fr,.int .i64 wi]::cO 75 (pU Dz) (lF a) (qA p ls tot)::cW 105 L [.map (some m)]::cM kyS (oL .i64) m fd::cW 33 M [pv a]::cR 112 roB ls (Fe B S)::
  cW 103 N [pv r1]::cO 175 (pU Gl) (lF r1) rm::cW 103 O [pv G]::cO 175 (pU Gl) (lF G) cl::F) h8:=s8
 refine AA (x:=some ⟨r1,0,none⟩) R.at6 rfl<|AK (Gp R.at7 ht) ?_;rintro _ h9 ⟨ψ3,y3,a1,T,rfl,rfl,s9⟩;refine⟨y3,rfl,?_⟩;dsimp only at A;refine AY (λ(y:Int×Unit) w (g:Int×DA)=>∃(ψ:AD) (n:DA),Sub ψ3 ψ∧(y.1,n)=g∧St ψ (cO 175 (pU Gl) (lF G) n::cO 175 (pU Gl) (lF r1) a1::cW 112 r6 [sv t,sv H,.slice none 0 0,.int .i64 fr,.int .i64 wi]::
  cO 75 (pU Dz) (lF a) (qA p ls tot)::cW 105 L [.map (some m)]::cM kyS (oL .i64) m fd::cW 33 M [pv a]::cR 112 roB ls (Fe B S)::cW 103 N [pv r1]::cW 103 O [pv G]::F) w) (g:=z) ?_ ?_
 ·refine mP A rfl (λA=>?_) (λA=>?_)
  ·have⟨u,hu,A⟩:=bS A;obtain rfl:=iS A;refine AA (x:=some ⟨G,0,none⟩) s9.at8 rfl<|AA (x:=H) s9.at1 rfl ?_;rw[←n2]at hu;refine AK (Gp s9.at9 hu) ?_;rintro _ b3 ⟨ψ4,y4,n,a2,rfl,rfl,a3⟩;exact⟨y4,rfl,lG rfl ⟨ψ4,n,a2,rfl,a3⟩⟩
  ·obtain rfl:=iS A;exact lG rfl ⟨ψ3,cl,pL _,rfl,s9.at9⟩
 rintro z9 b4 ⟨ψ5,n,U,rfl,I⟩;refine AA (x:=some m) I.at4 rfl<|AA (x:=some ⟨a,0,none⟩) I.at6 rfl<|AI _ rfl ?_;have V:=I.at3;obtain⟨b,vs,e,⟨_,_,rfl,⟨u1,rfl,a4⟩,_,_,rfl,⟨u2,rfl,a5⟩,_,_,rfl,⟨u3,rfl,a6⟩,_,_,rfl,⟨u4,rfl,a7⟩,_,_,rfl,⟨u5,rfl,a8⟩,_,_,rfl,⟨u6,rfl,a9⟩,_,_,rfl,rfl,rfl⟩,W⟩:=tY V;obtain rfl:a=b:=by simpa using e
 refine AA (x:=ls) W rfl ?_;have C:=(Q.trans T).trans U;have D:=l.trans C;refine AK (Lx (gk.mono D) (k1.mono D) W hs) ?_;rintro _ b5 ⟨ψ6,q6,d,rfl,rfl,o⟩;refine⟨q6,rfl,AP (sE (b:=a) (j:=6) o rfl)<|AP (sE o.at6 rfl)<|AP (sE o.at4 rfl) ?_⟩;have nL:=St.rowLen o.at7;rw[En hS]at nL;refine LU (kk:=kyS) (y:=(ls.2.1:Int)) tE rL o.at5 rfl λb6 c=>AA (x:=some ⟨a,0,none⟩) c.at6 rfl<|AA (x:=some ⟨a,0,none⟩) c.at6 rfl<|AI _ rfl<|AA (x:=ls) c.at1 rfl<|AA (x:=t) c.at4 rfl<|AA (x:=H) c.at4 rfl<|AA (x:=DC) c.at4 rfl<|AA (x:=fr) c.at4 rfl<|AA (x:=wi) c.at4 rfl<|AU (vs:=[sv t,sv H,.slice none 0 0,.int .i64 fr,.int .i64 wi]) c λb7 b8 q=>AP (sE (b:=a) (j:=6) q.at2 rfl)<|AP (sE q.at7 rfl)<|AP (sE q.at7 rfl) ?_;have cw:=rP q;have X:=C.trans d;have E:=l.trans X;obtain⟨Y,rfl⟩:=JD hB;have b0:app (Fe B S) [NV (k,l2,fr,wi) DC] =some (Fe (B++ [(k,l2,fr,wi)]) (S++ [DC])):=by
  unfold app;rw[En hS,YI hS,mZ (by simpa using Y)]
 refine AV (r:=roB) (ms:=[NV (k,l2,fr,wi) DC]) jF (q.tail.at7) rfl cw (.cons (a:=[_,_,_,_,_]) ⟨[_],_,rfl,⟨t,rfl,k1.mono E⟩,[_],_,rfl,⟨H,rfl,k2.mono (((T.trans U)).trans d)⟩,[_],_,rfl,rfl,[_],_,rfl,rfl,rfl⟩ .nil) rfl b0 λf b9 J=>?_;have Z:=St.rowLen J;rw[En (by simp[hS])]at Z;refine AP (sE J.at7 rfl)<|AI _ rfl<|AQ J.at2 rfl rfl λc0 K=>AA (x:=some ⟨a,0,none⟩) K.at7 rfl<|AI _ rfl<|AA (x:=f) K rfl ?_;have a0:=tZ (r:=Dz) (x:=qA p f tot) K ⟨[_],_,rfl,⟨u1,rfl,a4.mono d⟩,[_],_,rfl,⟨u2,rfl,a5.mono d⟩,[_],_,rfl,⟨u3,rfl,a6.mono d⟩,[_],_,rfl,⟨u4,rfl,a7.mono d⟩,[_],_,rfl,⟨u5,rfl,a8.mono d⟩,[_],_,rfl,⟨u6,rfl,a9.mono d⟩,[_],_,rfl,rfl,rfl⟩;refine AC ⟨ψ6,(oF .i64 ((f.2.1:Int) - 1),z9.1,()),f,S++ [DC],E,rfl,by rw[Z],rfl,.inr ⟨_,rfl,rfl⟩,?_⟩;rw[nL]at a0;exact St.bC_of a0.at5.tail
abbrev Edge:Type:=Int×Int
abbrev BSt:Type:=Fd×List dtK×List (List Edge)×DA×DA
def EI(E:List (List Edge))(n a:Nat):List (List Edge):=if a=n then E else E++ [[]]
noncomputable def XN(p:As)(b:dtK)(i sym:Int)(y:BSt):Option (AX BSt Int):=(Ce (qA p DC 0) b.2.1 sym).bind λk=>(YJ p y.1 y.2.1 y.2.2.2.1 y.2.2.2.2 k i sym).bind λr=>cond (r.2.1 !=0) (some (sI r.2.1)) ((idx (EI y.2.2.1 y.2.1.length r.2.2.2.1.length) i).bind λc=>(app c [(sym,r.1)]).bind λa=>(DQ (EI y.2.2.1 y.2.1.length r.2.2.2.1.length) i a).bind λd=>some (sJ (r.2.2.1,r.2.2.2.1,d,r.2.2.2.2.1,r.2.2.2.2.2)))
noncomputable def Tv(p:As)(b:dtK)(i:Int)(y:BSt):Option (AX BSt Int):=(B8 (qA p DC 0) b.2.1).bind λsyms=>C6 0 (syms.length:Int) y λj y=>(idx syms j).bind λsym=>XN p b i sym y
noncomputable def Qg(p:As)(y:BSt):Option (AX BSt Int):=
 loop (σ:=Int×BSt) (0,y) λz=>
  cond (decide (z.1< (z.2.2.1.length:Int)))
   ((idx z.2.2.1 z.1).bind λb=>(Tv p b z.1 z.2).bind λe=>match e with
    |.next y=>some (sJ (oF .i64 (z.1+1),y))
    |.done q=>some (sI (sI q)))
   (some (sI (sJ z.2)))
noncomputable def RN(p:As)(st it:Int):Option (Option GQ×Int):=
 (Gn st).bind λrm=>
 (Gn it).bind λcl=>
 (YJ p [] [] rm cl [(0,0)] (-1) (-1)).bind λr=>
 cond (r.2.1 !=0) (some (none,r.2.1))
 ((Qg p (r.2.2.1,r.2.2.2.1,EI [] 0 r.2.2.2.1.length,r.2.2.2.2.1,r.2.2.2.2.2)).bind λe=>match e with
  |.next y=>(Fa y.2.2.2.2).bind λtot=>some (some (p.1,p.2.1,p.2.2.1,p.2.2.2.1,p.2.2.2.2.1,p.2.2.2.2.2,Fe y.2.1 y.2.2.1,tot),0)
  |.done q=>some (none,q))
theorem Z5(p:As)(s:Slc)(t:Int)(l:List Item)(x:Int):Ce (qA p s t) l x=Ce (qA p DC 0) l x:=rfl
theorem U7(p:As)(s:Slc)(t:Int)(l:List Item):B8 (qA p s t) l=B8 (qA p DC 0) l:=rfl
theorem RO{ε:Type}{B:List dtK}{S:List ε}{i:Int}{b:dtK}{s:ε}(a:idx B i=some b)(c:S[i.toNat]? =some s):idx (Fe B S) i=some (NV b s):=by have⟨d,_,e⟩:=B9 a;unfold idx;rw[mZ d];unfold Fe;rw[sP,e,c]
theorem Z6{ε:Type}:∀ {B:List dtK}{S:List ε}{n:Nat}{b:dtK}(s:ε),B[n]? =some b→(Fe B S).set n (NV b s)=Fe B (S.set n s):=by
 intro B
 induction B with
 |nil=>intro S n b s h;simp at h
 |cons x B a=>
  intro S n b s h;cases S with
  |nil=>rfl
  |cons u S=>
   cases n with
   |zero=>
    simp only[pT,Option.some.injEq]at h;subst h;rfl
   |succ n=>exact nB _ (a s (by simpa using h))
def DJ(φ:AD)(S:List Slc)(E:List (List Edge))(c:Nat):Prop:= ∀(j:Nat) s e,j≠c→S[j]? =some s→E[j]? =some e→oG ED φ s e
def Gx(S:List Slc)(E:List (List Edge))(i:Nat):Prop:= ∀j:Nat,i≤j→(∀s,S[j]? =some s→s=DC)∧ ∀e,E[j]? =some e→e= []
theorem DJ.mono{φ ψ:AD}{S:List Slc}{E:List (List Edge)}{c:Nat}(H:DJ φ S E c)(a:Sub φ ψ):DJ ψ S E c:=λj s e b d f=>(H j s e b d f).mono a
theorem GA{α:Type}{l:List α}{x y:α}{j:Nat}(h:(l++ [x])[j]? =some y):l[j]? =some y∨j=l.length∧y=x:=by
 rcases pO j l.length with g | g
 ·rw[nZ g]at h;exact .inl h
 ·rw[oM g]at h
  right
  have:j - l.length=0:=by
   rcases pY (j - l.length) with q | q
   ·exact q
   ·rw[oO nN]at h;cases h
  rw[this]at h;simp at h;exact⟨nJ,h.symm⟩
theorem DJ.snoc{φ:AD}{S:List Slc}{E:List (List Edge)}{c:Nat}(H:DJ φ S E c)(f:S.length=E.length):DJ φ (S++ [DC]) (E++ [[]]) c:=by
 intro j s e d b a;rcases GA b with b | ⟨b,rfl⟩
 ·rcases GA a with a | ⟨a,rfl⟩
  ·exact H j s e d b a
  ·rw[oO nJ]at b;cases b
 ·rcases GA a with a | ⟨a,rfl⟩
  ·rw[oO nJ]at a;cases a
  ·exact rH _ _
theorem Gx.snoc{S:List Slc}{E:List (List Edge)}{i:Nat}(H:Gx S E i):Gx (S++ [DC]) (E++ [[]]) i:=by
 intro j a;refine⟨λs h=>?_,λe h=>?_⟩
 ·rcases GA h with h | ⟨_,h⟩
  ·exact(H j a).1 s h
  ·exact h
 ·rcases GA h with h | ⟨_,h⟩
  ·exact(H j a).2 e h
  ·exact h
theorem cy{φ:AD}:∀ {B:List dtK}{S:List Slc}{E:List (List Edge)}{vs:List uD},S.length=B.length→E.length=B.length→(∀(j:Nat) s e,S[j]? =some s→E[j]? =some e→oG ED φ s e)→roB.All φ vs (Fe B S)→W5.All φ vs (Fe B E):=by
 intro B
 induction B with
 |nil=>intro S E vs c d f H;cases H;exact .nil
 |cons b B g=>
  intro S E vs c d f H;cases S with
  |nil=>cases c
  |cons s S=>
   cases E with
   |nil=>cases d
   |cons e E=>
    cases H with
    | @cons a v _ _ h i=>
     obtain⟨_,_,rfl,⟨t0,rfl,k⟩,_,_,rfl,⟨t1,rfl,l⟩,_,_,rfl,rfl,_,_,rfl,rfl,rfl⟩:=h;exact Ro.All.cons (a:=[_,_,_,_,_]) ⟨[_],_,rfl,⟨t0,rfl,k⟩,[_],_,rfl,⟨t1,rfl,l⟩,[_],_,rfl,⟨s,rfl,f 0 s e rfl rfl⟩,[_],_,rfl,rfl,rfl⟩ (g (by simpa using c) (by simpa using d) (λj s' m n o=>f (j+1) s' m (by simpa using n) (by simpa using o)) i)
theorem YK{φ:AD}{t:Slc}{B:List dtK}{S:List Slc}{E:List (List Edge)}(a:S.length=B.length)(b:E.length=B.length)(d:∀(j:Nat) s e,S[j]? =some s→E[j]? =some e→oG ED φ s e)(H:oG roB φ t (Fe B S)):oG W5 φ t (Fe B E):=by
 obtain⟨f,g,h,i,vs,k,l⟩:=H;have c:(Fe B E).length=(Fe B S).length:=by rw[En a,En b]
 exact⟨c.trans f,g,h,λm=>pP (by rw[c,i m];rfl),vs,cy a b d k,l⟩
section
variable {φ:AD}{h:AH}{F:List Chk}
theorem WM{c d f g m a r1 i:Nat}{fd:Fd}{p:As}{ls:Slc}{tot:Int}{L:List dtB}{rm cl:DA}(H:St φ (bC c d f g m a r1 i fd p ls tot L rm cl F) h):Bb h ⟨a,6,none⟩=some (.slice ls.1 ls.2.1 ls.2.2):=by
 obtain⟨b,vs,e,⟨_,_,rfl,⟨r,rfl,j⟩,_,_,rfl,⟨t,rfl,k⟩,_,_,rfl,⟨u,rfl,l⟩,_,_,rfl,⟨v,rfl,n⟩,_,_,rfl,⟨w,rfl,o⟩,_,_,rfl,⟨x,rfl,q⟩,_,_,rfl,rfl,rfl⟩,s⟩:=tY H.at3;obtain rfl:a=b:=by simpa using e
 exact sE s rfl
theorem St.back3{a0 a b c:Chk}(H:St φ (c::a0::a::b::F) h):St φ (a0::a::b::c::F) h:=H.at3.at3.at3
theorem St.to9{e a0 a b c d f g i j:Chk}(H:St φ (e::a0::a::b::c::d::f::g::i::j::F) h):St φ (a0::a::b::c::d::f::g::i::j::e::F) h:=
 H.at9.at9.at9.at9.at9.at9.at9.at9.at9
theorem St.tail9{a0 a b c d e f g i:Chk}(H:St φ (a0::a::b::c::d::e::f::g::i::F) h):St φ F h:=H.tail.tail.tail.tail.tail.tail.tail.tail.tail
end
theorem Sg.nm_lev{nt nv a:Nat}{g:GF}(H:Sg nt nv a g):∀x∈GX g.2.2.1,Nm x:=λx b=>by
 have:=H.nl5;have:=H.nt5
 rcases H.levs.names x b with⟨i,h,rfl⟩|⟨i,h,rfl⟩
 ·exact .lev nJ
 ·exact .tok nJ
theorem Ru1.nm{nt nv a:Nat}{r:Dy}(H:Ru1 nt nv a r)(c:nt≤5)(d:nv≤4)(f:a≤5):Nm r.1∧(∀x∈r.2.1,Nm x)∧(r.2.2.1= mL ∨Nm r.2.2.1):=by
 refine⟨?_,λx b=>?_,?_⟩
 ·obtain⟨i,h,e⟩:=H.left;rw[e];exact .var nJ
 ·rcases H.right x b with⟨i,h,rfl⟩|⟨i,h,rfl⟩
  ·exact .tok nJ
  ·exact .var nJ
 ·rcases H.prec with h | ⟨i,h,e⟩
  ·exact .inl h
  ·rw[e];exact .inr (.lev nJ)
theorem Z7{nt nv D:Nat}{g:GF}(H:Sg nt nv D g):DX g=some true:=by
 refine sV ?_;have E:=H.room;have F:=H.levs.len;have G:=H.toks.1;have r:=H.nt5;have s:=H.nv4;have t:=H.nl5;obtain⟨T,u,_⟩:=H.all 0 (by have:=H.nv1;omega);have A:=qR u;unfold DX;have n:=H.skips;have v:=H.start;refine AM (Q:=λx=>x=false) ?_ λx c=>?_
 ·refine AZ (mV nJ) (AZ (by rw[n];rfl) (AZ (mV nJ) (AZ (mV nJ) (AZ (mV nJ) ?_))));rw[v];exact AO (XE nJ) (AB rfl)
 subst c;refine AZ rfl<|F7 (λk (l:List nI)=>l.length=k∧ ∀j,j<k→l[j]? =some (nm 97 j)) nJ ⟨rfl,λj h=>nJ⟩ (λk l f h=>?_) λm w=>?_
 ·have c:=H.toks.2 k nJ;refine AS c (Az (by have:=h.1;simp only[oD,oQ];omega) (AS c ?_));refine AO (Tl (.tok nJ)) (AZ rfl (Gg ⟨by simp[h.1],λj d=>?_⟩));rcases pO j k with g | g
  ·rw[nZ (by rw[h.1];exact g)];exact h.2 j g
  ·have:j=k:=nJ
   subst this;rw[oM (by rw[h.1];omega),h.1];simp
 refine F7 (λk _=>True) (by rw[n];decide) trivial (λk l f h=>by rw[n]at f;exact nC f (Nat.not_lt_zero _)) λ_ _=>F7 (λk (l:List nI)=>l=GX (g.2.2.1.take k)) nJ rfl (λk l f h=>?_) λo I=>?_
 ·subst h;have c:=bD f;have⟨B,C,J⟩:=H.levs.each k _ c;have e:GX (g.2.2.1.take (k+1))=GX (g.2.2.1.take k) ++g.2.2.1[k].2:=by
   unfold GX;rw[pC,c,sT];show _=_;simp
  have y:=H.levs.room;have K:GX g.2.2.1=GX (g.2.2.1.take (k+1)) ++GX (g.2.2.1.drop (k+1)):=by
   unfold GX;rw[←sT,qV]
  have L:=nB sC K;rw[e,oK,oK]at L;refine AS c (Az nJ ?_);refine AM (Q:=λx=>x=false) (AZ (mV nJ) (AZ (mV nJ) (AB ?_))) λx c=>?_
  ·have:=qR J
   exact beq_eq_false_iff_ne.2 nJ
  ·subst c;refine AZ rfl ?_;rw[←e];exact Gg rfl
 refine F7 (λk _=>True) nJ trivial (λk _ f _=>?_) λ_ _=>?_
 ·have c:=bD f;have q:=H.rules _ (oE f);have⟨M,N,O⟩:=q.nm r s t;have U:=q.few;refine AS c<|AM (Q:=λx=>x=false) (AO M.name (AZ rfl (AZ (mV nJ) (AR (λz=>?_) λz=>?_)))) λx c=>?_
  ·rw[q.act];rcases O with h | h
   ·rw[h,Ei]at z;simp at z
   ·exact AO h.name (AZ rfl (AO OZ (AB rfl)))
  ·rw[q.act];exact AO OZ (AB rfl)
  ·subst c;refine AZ rfl<|F7 (λk _=>True) nJ trivial (λj _ d _=>?_) λ_ _=>Gg trivial;exact AS (bD d) (AO (N _ (oE d)).name (AZ rfl (Gg trivial)))
 have p:∀x∈m,∃j,j<nt∧x=nm 97 j:=λx c=>by
  obtain⟨j,d⟩:=oC c;have P:=(hM.1 d).1
  have:=w.2 j nJ
  rw[d]at this;exact⟨j,nJ,Option.some.inj this⟩
 have B:B5 m=some true:=XF nJ (λx c=>by obtain⟨j,d,rfl⟩:=p x c;exact .tok nJ) (pZ.2 (pK.2 λi j R d S e=>by
  have a:=w.2 i nJ;have b:=w.2 j nJ;rw[bD R]at a;rw[bD d,←e,a]at b
  have:=N0 nJ nJ (Option.some.inj b)
  omega))
 have C:B5 o=some true:=by
  rw[I,oU (oY _)];exact XF (by have:=H.levs.room;omega) H.nm_lev H.levs.once
 exact AM (Q:=λx=>x=true) (AO B (Ay rfl (AO C (AB rfl)))) λx c=>AB c
section
variable {nt:Nat}
abbrev Z8:nI:={data:=#[36,101,110,100]}
structure TT (nt:Nat) (T:List nI):Prop where
 len:T.length=nt+1
 zero:T[0]? =some Z8
 tok:∀j,j<nt→T[j+1]? =some (nm 97 j)
theorem Z9(c i:Nat):Z8≠nm c i:=λh=>by unfold nm at h;simp at h
theorem TT.cases{T:List nI}(H:TT nt T){j:Nat}{s:nI}(h:T[j]? =some s):(j=0∧s=Z8)∨ ∃i,i<nt∧j=i+1∧s=nm 97 i:=by
 cases j with
 |zero=>rw[H.zero]at h;exact .inl ⟨rfl,(Option.some.inj h).symm⟩
 |succ i=>
  have:=(hM.1 h).1
  have a:=H.len;rw[H.tok i nJ]at h;exact .inr ⟨i,nJ,rfl,(Option.some.inj h).symm⟩
structure VV (nv:Nat) (V:List nI):Prop where
 names:∀x∈V,∃i,i<nv∧x=nm 83 i
 once:V.Nodup
theorem cz{i:Nat}{T V:List nI}(H:TT nt T)(d:nt≤5)(a:i<nt):Ok (Bw (T,V) (nm 97 i)) λk=>k=((i+1:Nat):Int):=by
 have e:=H.len;unfold Bw;refine AM (Hp nO) λk b=>?_;rcases b with⟨rfl,h⟩|⟨j,rfl,h⟩
 ·exact nC (eE (H.tok i a)) h
 ·refine Ay (mW nJ) (AB ?_);rcases H.cases h with⟨_,h⟩|⟨q,f,g,c⟩
  ·exact nC h.symm (Z9 _ _)
  ·have:=N0 nJ nJ c
   omega
theorem Tw{nv i:Nat}{T V:List nI}(H:TT nt T)(e:nt≤5)(f:nv≤4)(g:V.length≤100)(l:i<nv)(b:nm 83 i∈V):Ok (Bw (T,V) (nm 83 i)) λk=>∃j:Nat,k=((nt+1+j:Nat):Int)∧V[j]? =some (nm 83 i):=by
 have c:=H.len;unfold Bw;refine AM (Hp nO) λk a=>?_;rcases a with⟨rfl,h⟩|⟨j,rfl,h⟩
 ·refine AZ rfl (AM (Hp nO) λk a=>?_);rcases a with⟨rfl,h⟩|⟨j,rfl,h⟩
  ·exact nC b h
  ·refine Ay (mW nJ) (AB ⟨j,?_,h⟩)
   have:=(hM.1 h).1
   dsimp only at this;rw[c,wr nJ];omega
 ·rcases H.cases h with⟨_,h⟩|⟨q,m,n,d⟩
  ·exact nC h.symm (Z9 _ _)
  ·have:=N0 nJ nJ d
   omega
theorem U8{nv c:Nat}{g:GF}(H:Sg nt nv c g)(s:nI):Ok (Co g s) λk=>0≤k∧k≤c∧ ∀i,i<c→s=nm 112 i→k≠0:=by
 have r:=H.levs.len;have d:=H.nl5;unfold Co;have t:=H.levs.room;have m:=H.nt5;have b:∀(j:Nat) x,g.2.2.1[j]? =some x→x.2.length≤100:=λj x a=>by
  have:=(List.sublist_flatten_of_mem (List.mem_map_of_mem (f:=(·.2)) (eE a))).length_le
  have e:GX g.2.2.1=(List.map (·.2) g.2.2.1).flatten:=by unfold GX;rw[List.flatMap_def]
  rw[←e]at this;omega
 refine J0 g.2.2.1 (λ_ x=> @decide (s∈x.2) (qP _)) (λk _=>oF .i64 ((k:Int)+1)) nJ (λj x a=>?_) (λh=>?_) λj x a u _=>?_
 ·rw[CD,a,oB];obtain⟨k,n,o⟩:=Hp (l:=x.2) (s:=s) (by have:=b j x a;omega);rw[n,oB];rcases o with⟨rfl,h⟩|⟨q,rfl,h⟩
  ·rw[@decide_eq_false _ (qP _) h];rfl
  ·rw[@decide_eq_true _ (qP _) (eE h),mW nJ];rfl
 ·refine AB ⟨nJ,nJ,λi v p _=>?_⟩;have a:=bD (show i<g.2.2.1.length by omega)
  have:= @of_decide_eq_false _ (qP _) (h i _ a)
  rw[p]at this;exact this (H.levs.each i _ a).2.2
 ·have:=(hM.1 a).1
  have e:oF .i64 ((j:Int)+1)=(j:Int)+1:=wr nJ;exact AB ⟨by rw[e];omega,by rw[e];omega,λ_ _ _=>by rw[e];omega⟩
structure Pr (nt nV nl:Nat) (r:Ap):Prop where
 left:((nt+1:Nat):Int) ≤r.1∧r.1< ((nt+1+nV:Nat):Int)
 few:r.2.1.length≤8
 right:∀x∈r.2.1,0<x∧x< ((nt+1+nV:Nat):Int)
 lev:0≤r.2.2∧r.2.2≤nl
structure Pl (nt nl:Nat) (p:As):Prop where
 nt5:1≤nt∧nt≤5
 nl5:nl≤5
 terms:TT nt p.1
 vars:1≤p.2.1.length∧p.2.1.length≤24
 first:∃st:Int,((nt+1:Nat):Int) ≤st∧st< ((nt+1+p.2.1.length:Nat):Int)∧p.2.2.1[0]? =some (((nt+1+p.2.1.length:Nat):Int),[st],0)
 rules:∀(k:Nat) r,1≤k→p.2.2.1[k]? =some r→Pr nt p.2.1.length nl r
 room:1≤p.2.2.1.length∧p.2.2.1.length≤25
 all:∀v:Nat,v<p.2.1.length→ ∃r∈p.2.2.1,r.1=((nt+1+v:Nat):Int)
 levels:p.2.2.2.1.length=nt+1∧ ∀x∈p.2.2.2.1,0≤x∧x≤nl
 assocs:p.2.2.2.2.1.length=nl+1
theorem aC{α:Type}{l:List α}(h:l.Nodup){i j:Nat}(a:i<l.length)(b:j<l.length)(e:l[i] =l[j]):i=j:=by
 have H:=pK.1 (pZ.1 h);rcases tO i j with g | g | g
 ·exact nC e (H i j a b g)
 ·exact g
 ·exact nC e.symm (H j i b a g)
theorem of_ok{nv nl:Nat}{g:GF}(H:Sg nt nv nl g):Ok (ET g) λp=>Pl nt nl (p.1,p.2.1,p.2.2.1,p.2.2.2.1,p.2.2.2.2.1,p.2.2.2.2.2.1):=by
 have d2:=H.room;have b2:=H.levs.len;have b3:=H.toks.1;have G:=H.nt5;have a4:=H.nt1;have a1:=H.nv4;have b4:=H.nl5;have c6:=H.nv1;obtain⟨r0,b5,_⟩:=H.all 0 nJ;have c7:=qR b5;unfold ET;refine AO (Z7 H) (AZ rfl ?_);refine BK (λk (z:As)=>z.1= [Z8] ∧VV nv z.2.1∧z.2.1.length≤k∧(∀(j:Nat) r,j<k→g.2.2.2.2[j]? =some r→r.1∈z.2.1)∧(∀x∈z.2.1,∃r∈g.2.2.2.2,r.1=x)∧z.2.2.1= [] ∧z.2.2.2.1= [0] ∧z.2.2.2.2.1= [0] ∧z.2.2.2.2.2.length=k+1) nJ ⟨rfl,⟨nP,nP⟩,nP,λj r h=>nJ,nP,rfl,rfl,rfl,rfl⟩ (λk z s h=>?_) λz A=>?_
 ·obtain⟨z1,z2,z3,z4,z5,z6⟩:=z;obtain⟨rfl,O,B,d,m,rfl,rfl,rfl,h6⟩:=h;dsimp only at O B d m h6 ⊢;have F:=bD s;have P:=H.rules _ (oE s);refine AS F (AM (Hp nJ) λt f=>?_);refine AM (Q:=λ(z:As)=>z.1= [Z8] ∧VV nv z.2.1∧z.2.1.length≤k+1∧(∀(j:Nat) r,j<k+1→g.2.2.2.2[j]? =some r→r.1∈z.2.1)∧(∀x∈z.2.1,∃r∈g.2.2.2.2,r.1=x)∧z.2.2.1= [] ∧z.2.2.2.1= [0] ∧z.2.2.2.2.1= [0] ∧z.2.2.2.2.2=z6) ?_ λz A=>?_
  ·rcases f with⟨rfl,f⟩|⟨j,rfl,f⟩
   ·refine Ay rfl (AS F (Az (by simp only[oD,oQ];omega) (AB ⟨rfl,⟨λx l=>?_,?_⟩,nN,λj r I c=>?_,λx l=>?_,rfl,rfl,rfl,rfl⟩)))
    ·rcases oA.1 l with h | h
     ·exact O.names x h
     ·obtain rfl:=nY.1 h;exact P.left
    ·exact pD.2 ⟨O.once,nP,λx l y hy b6=>f (by
      have:y=g.2.2.2.2[k].1:=by simpa using hy
      rw[←this,←b6];exact l)⟩
    ·rcases pG.1 I with h | rfl
     ·exact oR _ (d j r h c)
     ·rw[F]at c;cases c;exact pF _ (nY.2 rfl)
    ·rcases oA.1 l with h | h
     ·exact m x h
     ·obtain rfl:=nY.1 h;exact⟨_,oE s,rfl⟩
   ·refine AZ (mV nJ) (AB ⟨rfl,O,nO,λi r R c=>?_,m,rfl,rfl,rfl,rfl⟩);rcases pG.1 R with h | rfl
    ·exact d i r h c
    ·rw[F]at c;cases c;exact eE f
  ·obtain⟨y1,X,y3,y4,y5,y6⟩:=z;obtain⟨rfl,O,B,d,m,rfl,rfl,rfl,e6⟩:=A;have b7:y6=z6:=e6;have b8:y6.length=k+1:=by rw[b7];exact h6
   exact AS F (Az (by simp only[oD,oQ];omega) (AB ⟨rfl,O,B,d,m,rfl,rfl,rfl,by simp[b8]⟩))
 obtain⟨z1,V,z3,z4,z5,c8⟩:=z;obtain⟨rfl,O,B,d,m,rfl,rfl,rfl,h6⟩:=A;dsimp only at O B d m h6;have a5:V.length≤24:=nJ
 clear B;have J:∀v,v<nv→nm 83 v∈V:=λv hv=>by
  have⟨r,h1,Y⟩:=H.all v hv;obtain⟨j,I⟩:=oC h1;rw[←Y];exact d j r (hM.1 I).1 I
 have a2:1≤V.length:=qR (J 0 nJ);refine F7 (λk (z:As×As)=>TT k z.2.1∧z.2.2.1=V∧z.2.2.2.1= [] ∧z.2.2.2.2.1.length=k+1∧(∀x∈z.2.2.2.2.1,0≤x∧x≤nl)∧z.2.2.2.2.2.1= [0]) nJ ⟨⟨rfl,rfl,λj h=>nJ⟩,rfl,rfl,rfl,nP,rfl⟩ (λk z s h=>?_) λz A=>?_
 ·obtain⟨w,z1,z2,z3,z4,z5,z6⟩:=z;obtain⟨C,u,Z,h4,D,K⟩:=h;dsimp only at C h4 D u Z K ⊢;have c9:z2.length≤24:=by rw[u];exact a5
  subst u Z K;have F:=H.toks.2 k nJ;have a3:=C.len;refine AS F (AM (Hp nJ) λt f=>?_);rcases f with⟨rfl,f⟩|⟨j,rfl,f⟩
  ·refine AZ rfl (AS F (Az (by simp only[oD,oQ];omega) (AS F (AM (U8 H _) λt f=>Az (by simp only[oD,oQ];omega) (Gg ⟨⟨by simp[a3],?_,λj I=>?_⟩,rfl,rfl,by simp[h4],λx l=>?_,rfl⟩)))))
   ·rw[nZ nJ];exact C.zero
   ·rcases pG.1 I with h | rfl
    ·rw[nZ nJ];exact C.tok j h
    ·rw[oM nJ,show j+1 - z1.length=0 by omega];rfl
   ·rcases oA.1 l with h | h
    ·exact D x h
    ·obtain rfl:=nY.1 h;exact⟨f.1,f.2.1⟩
  ·have⟨i,h1,Y⟩:=O.names _ (eE f)
   have:=N0 nJ nJ Y
   omega
 obtain⟨w,T,z2,z3,S,z5,z6⟩:=z;obtain⟨C,u,Z,h4,D,K⟩:=A;dsimp only at C h4 D u Z K ⊢;subst u Z K;rw[b3]at C h4;have a3:=C.len;refine BK (λk (z:As)=>z.1=T∧z.2.1=z2∧z.2.2.1= [] ∧z.2.2.2.1=S∧z.2.2.2.2.1.length=k+1) nJ ⟨rfl,rfl,rfl,rfl,rfl⟩ (λk z s h=>?_) λz A=>?_
 ·obtain⟨y1,X,y3,y4,y5,y6⟩:=z;obtain⟨rfl,rfl,rfl,rfl,h5⟩:=h;exact AS (bD s) (Az (by dsimp only at h5 ⊢;simp only[oD,oQ];omega) (AB ⟨rfl,rfl,rfl,rfl,by dsimp only at h5 ⊢;simp[h5]⟩))
 obtain⟨y1,X,y3,y4,U,y6⟩:=z;obtain⟨e1,u,Z,e4,h5⟩:=A;dsimp only at h5 e1 u Z e4 ⊢;subst e1 u Z e4;rw[b2]at h5;rw[H.start];refine AM (Tw (nv:=nv) C G a1 nJ nJ (J 0 nJ)) λst b9=>?_;obtain⟨sj,rfl,c0⟩:=b9;have d0:=(hM.1 c0).1;rw[wr (show -1000000≤(y1.length:Int)+(X.length:Int)∧(y1.length:Int)+(X.length:Int) ≤1000000 by omega)];refine F7 (λk (z:As×As)=>z.2.1=y1∧z.2.2.1=X∧z.2.2.2.1.length=k+1∧z.2.2.2.1[0]? =some (((nt+1+X.length:Nat):Int),[((nt+1+sj:Nat):Int)],0)∧(∀(j:Nat) r,1≤j→z.2.2.2.1[j]? =some r→Pr nt X.length nl r∧ ∃r'∈g.2.2.2.2,g.2.2.2.2[j - 1]? =some r'∧X[r.1.toNat - (nt+1)]? =some r'.1)∧z.2.2.2.2.1=y4∧z.2.2.2.2.2.1=U) nJ ⟨rfl,rfl,rfl,by dsimp only;rw[a3];simp[Int.natCast_add],λj r I P=>by
  have:=(hM.1 P).1
  simp at this
  omega,rfl,rfl⟩ (λk z s h=>?_) λz A=>?_
 ·obtain⟨w,x1,x2,x3,x4,x5,x6⟩:=z;obtain⟨e1,u,n,h0,E,e4,K⟩:=h;dsimp only at n h0 E e1 u e4 K ⊢;subst e1 u e4 K;have F:=bD s;have P:=H.rules _ (oE s);obtain⟨vi,a6,a7⟩:=P.left;refine AS F ?_;rw[a7];refine AM (Tw (nv:=nv) C G a1 nJ a6 (J vi a6)) λt f=>?_;obtain⟨tj,rfl,a8⟩:=f;have d1:=(hM.1 a8).1;have d3:=P.few;refine F7 (λi (z:As×Ap)=>z.2.1=((nt+1+tj:Nat):Int)∧z.2.2.1.length=i∧(∀x∈z.2.2.1,0<x∧x< ((nt+1+x2.length:Nat):Int))∧0≤z.2.2.2∧z.2.2.2≤nl) nJ ⟨rfl,rfl,nP,nP,nP⟩ (λi z R h=>?_) λz A=>?_
  ·obtain⟨w,u1,u2,u3⟩:=z;obtain⟨rfl,hu,L,M,o⟩:=h;dsimp only at hu L M o ⊢;have hy:=bD R;have c1:=P.right _ (oE R);refine AS hy (AM (Q:=λt=>0<t∧t< ((nt+1+x2.length:Nat):Int)) ?_ λt f=>?_)
   ·rcases c1 with⟨q,W,e⟩|⟨q,W,e⟩
    ·rw[e];exact(cz C G W).mono λk s=>by subst s;omega
    ·rw[e];refine(Tw (nv:=nv) C G a1 nJ W (J q W)).mono λk s=>?_;obtain⟨j,rfl,I⟩:=s
     have:=(hM.1 I).1
     omega
   ·refine AZ (mV nJ) (Az (by simp only[oD,oQ];omega) ?_);refine AM (Q:=λ(z:Ap)=>z.1=((nt+1+tj:Nat):Int)∧z.2.1=u2++ [t] ∧0≤z.2.2∧z.2.2≤nl) (AR (λhc=>?_) λ_=>AB ⟨rfl,rfl,M,o⟩) λz A=>?_
    ·have hc:=mX hc;have W:t.toNat<x4.length:=nJ
     refine Cx nJ (bD W) (AB ⟨rfl,rfl,D _ (oE W)⟩)
    ·obtain⟨z1,z2,z3⟩:=z;obtain⟨rfl,rfl,a,b⟩:=A;refine Gg ⟨rfl,by simp[hu],λx l=>?_,a,b⟩;rcases oA.1 l with h | h
     ·exact L x h
     ·obtain rfl:=nY.1 h;exact f
  ·obtain⟨w2,u1,u2,u3⟩:=z;obtain⟨rfl,hu,L,M,o⟩:=A;dsimp only at hu L M o ⊢;refine AM (Q:=λe=>∃(y:Ap×As),e=sJ y∧y.1.1=((nt+1+tj:Nat):Int)∧y.1.2.1=u2∧0≤y.1.2.2∧y.1.2.2≤nl) (AR (λhc=>?_) λhc=>AB ⟨_,rfl,rfl,rfl,M,o⟩) λe he=>?_
   ·refine AM (U8 H _) λt f=>?_;rcases P.prec with h | ⟨i,R,h⟩
    ·rw[h,Ei]at hc;simp at hc
    ·refine AZ (beq_eq_false_iff_ne.2 (f.2.2 i R h)) (AB ⟨_,rfl,rfl,rfl,f.1,f.2.1⟩)
   ·obtain⟨⟨⟨v1,v2,v3⟩,v4⟩,rfl,a9,b0,b1,a0⟩:=he;dsimp only at b1 a0 a9 b0 ⊢;subst a9 b0;refine Az (by simp only[oD,oQ];omega) (Gg ⟨rfl,rfl,by simp[n],?_,λj r I c=>?_,rfl,rfl⟩)
    ·rw[nZ nJ];exact h0
    ·rcases pO j x3.length with gj | gj
     ·rw[nZ gj]at c;exact E j r I c
     ·have c2:=(hM.1 c).1;simp at c2
      have:j=x3.length:=nJ
      subst this;rw[oM (oY _),tP]at c;cases c;refine⟨⟨⟨nO,nO⟩,nO,L,b1,a0⟩,g.2.2.2.2[k],oE s,by rw[n];exact F,?_⟩;dsimp only;rw[show((nt+1+tj:Nat):Int).toNat - (nt+1)=tj by omega,a8,a7]
 obtain⟨w,x1,x2,N,x4,x5,x6⟩:=z;obtain⟨e1,u,n,h0,E,e4,K⟩:=A;dsimp only at n h0 E e1 u e4 K ⊢;subst e1 u e4 K;refine AM (Hp nJ) λt f=>?_;rcases f with⟨rfl,f⟩|⟨j,rfl,f⟩
 ·exact nC (J 0 nJ) f
 refine AZ (mV nJ) (AB ⟨⟨a4,G⟩,b4,C,⟨a2,nO⟩,⟨((nt+1+sj:Nat):Int),nJ,nO,h0⟩,λk r s P=>(E k r s P).1,⟨nO,nO⟩,λv hv=>?_,⟨h4,D⟩,h5⟩);dsimp only at hv ⊢;have d4:=bD hv;have⟨r,c3,c4⟩:=m _ (oE hv);obtain⟨i,R⟩:=oC c3;have d5:=(hM.1 R).1;have c5:=bD (show i+1<N.length by omega);obtain⟨hp,r',_,h1,Y⟩:=E (i+1) _ nJ c5;rw[Nat.add_sub_cancel,R]at h1;cases h1;refine⟨_,oE (show i+1<N.length by omega),?_⟩;have hl:=hp.left;rw[c4]at Y;obtain⟨W,Y⟩:=hM.1 Y
 have:=aC O.once W hv Y
 omega
theorem dB{s:PO}(G:SmG s)(F:SmF 20 8 s):Ok (CX s) λp=>∃nt a,Pl nt a p:=by unfold CX;exact AM (V9 G F) λg b=>AM (of_ok b) λp c=>AB ⟨_,_,c⟩
end
section
variable {x:Item}
abbrev Rl:Type:=List Ap
def beh(R:Rl)(x:Item):Int:=match R[x.1.toNat]? with
 |some r=>(r.2.1[x.2.toNat]?).getD (-1)
 |none=> -1
def OkI(R:Rl)(x:Item):Prop:=0≤x.1∧0≤x.2∧ ∃r,R[x.1.toNat]? =some r∧x.2.toNat≤r.2.1.length
structure VP (nT:Int) (R:Rl):Prop where
 t0:0≤nT
 left:∀r∈R,nT≤r.1
 right:∀r∈R,∀s∈r.2.1,0≤s
 few:R.length≤100
 short:∀r∈R,r.2.1.length≤100
theorem Pe{p:As}(h:OkI p.2.2.1 x):CH (qA p DC 0) x=some (beh p.2.2.1 x):=by
 obtain⟨d,f,r,b,g⟩:=h;refine sV ?_;unfold CH;refine Cx d b ?_;have e:beh p.2.2.1 x=(r.2.1[x.2.toNat]?).getD (-1):=by unfold beh;rw[b]
 refine AR (λa=>?_) λa=>?_
 ·have a:=mX a;refine AB ?_;rw[e,oO nJ];rfl
 ·have a:=mY a;have c:x.2.toNat<r.2.1.length:=nJ
  refine Cx f (bD c) (AB ?_);rw[e,bD c];rfl
theorem gA{nT:Int}{R:Rl}(V:VP nT R)(h:OkI R x):beh R x= -1∨0≤beh R x:=by
 obtain⟨b,c,r,a,d⟩:=h;unfold beh;rw[a];dsimp only;cases e:r.2.1[x.2.toNat]? with
 |none=>exact .inl rfl
 |some s=>exact .inr (V.right r (eE a) s (eE e))
theorem HO(q:As)(s:Int):Bp q s=some (decide (0≤s) && decide (s< (q.1.length:Int))):=by
 refine sV ?_;unfold Bp;refine AM (Q:=λb=>b=(decide (0≤s) && decide (s< (q.1.length:Int)))) (AR (λh=>AB ?_) λh=>AB ?_) λb a=>AB a
 ·rw[mW (show 0≤s from mX h),Bool.true_and]
 ·rw[mV (show ¬0≤s from mY h),Bool.false_and]
theorem contains_ok{l:List Item}(h:l.length≤9223372036854775807):BC l x=some (decide (x∈l)):=by
 refine sV ?_;unfold BC Bq;refine AM (Q:=λk=>(k= -1∧x∉l)∨(0≤k∧x∈l)) ?_ λk g=>AB ?_
 ·refine J0 l (λ_ y=>decide (x=y)) (λk _=>k) h (λj y f=>?_) (λi=>AB (.inl ⟨rfl,λm=>?_⟩)) λj y f n _=>AB (.inr ⟨nJ,?_⟩)
  ·rw[CD,f,oB];have e:((x.1,x.2).1==y.1 && ((x.1,x.2).2==y.2 && true))=decide (x=y):=by
    obtain⟨a,b⟩:=x;obtain⟨c,d⟩:=y;rw[Bool.and_true,Bool.eq_iff_iff];simp
   rw[e];cases decide (x=y) <;>rfl
  ·obtain⟨j,o⟩:=oC m
   have:=i j x o
   simp at this
  ·have:=mX n
   subst this;exact eE f
 ·rcases g with⟨rfl,h⟩|⟨p,h⟩
  ·rw[mV h];rfl
  ·rw[mW h];exact mW p
inductive Cl (R:Rl) (K:List Item):Item→Prop
 |base {x:Item} :x∈K→Cl R K x
 |step {y:Item} {k:Nat} {r:Ap} :Cl R K y→R[k]? =some r→r.1=beh R y→Cl R K ((k:Int),0)
def Lt(x y:Item):Prop:=x.1<y.1∨x.1=y.1∧x.2<y.2
theorem Lt.irrefl(x:Item):¬Lt x x:=by unfold Lt;omega
theorem Lt.trans{y z:Item}(a:Lt x y)(b:Lt y z):Lt x z:=by unfold Lt at *;omega
theorem YL{l:List Item}(h:l.Nodup):(Hw l).Pairwise Lt:=by have c:=Q7 Ol Om l;have d:(Hw l).Nodup:=(Dh _ l).nodup_iff.2 h;refine((List.pairwise_and_iff.2 ⟨c,pZ.1 d⟩).imp λ{a b} h=>?_);obtain⟨f,g⟩:=h;simp only[Em,rI,nF]at f;have i:¬(a.1=b.1∧a.2=b.2):=λe=>g (rZ e.1 e.2);unfold Lt;omega
theorem WN{l:List Item}:x∈Hw l↔x∈l:=(Dh _ l).mem_iff
theorem SM(l:List Item):(Hw l).length=l.length:=(Dh _ l).length_eq
theorem RQ{R:Rl}{E:List Item}(a:E.Nodup)(h:∀x∈E,∃k:Nat,k<R.length∧x=((k:Int),0)):E.length≤R.length:=by
 have:=List.Nodup.length_le_of_subset (l₂:=(rY R.length).map λk:Nat=>((k:Int),(0:Int))) a (λx b=>by
  have⟨k,c,d⟩:=h x b;exact pH.2 ⟨k,rJ.2 c,d.symm⟩)
 simpa using this
structure Tx (R:Rl) (K C:List Item):Prop where
 up:C.Pairwise Lt
 mem:∀x,x∈C↔Cl R K x
 len:C.length≤K.length+R.length
theorem Cl.ok{R:Rl}{K:List Item}(a:∀x∈K,OkI R x)(h:Cl R K x):OkI R x:=by
 induction h with
 |base h=>exact a _ h
 | @step y k r _ b c _=>exact⟨nO,nO,r,by simpa using b,nP⟩
theorem WO{p:As}(V:VP (p.1.length:Int) p.2.2.1){K:List Item}(hK:∀x∈K,OkI p.2.2.1 x)(hn:K.Nodup)(hl:K.length≤1000000):Ok (BX (qA p DC 0) K) (Tx p.2.2.1 K):=by
 unfold BX;have hf:=V.few;refine AO (x:=K) (by unfold cloneD;rw[mZ nJ]) ?_
 generalize hR:p.2.2.1=R at *
 refine Bz (λ(z:Int×List Item×List (Int×Bool))=>0≤z.1∧z.1≤(z.2.1.length:Int)∧(∃E:List Item,z.2.1=K++E∧E.Nodup∧ ∀x∈E,∃k:Nat,k<R.length∧x=((k:Int),0))∧z.2.1.Nodup∧(∀x∈z.2.1,Cl R K x)∧
  (∀s,BZ s z.2.2=some true→ ∀(k:Nat) r,R[k]? =some r→r.1=s→((k:Int),(0:Int))∈z.2.1)∧
  ∀(j:Nat) x,(j:Int) <z.1→z.2.1[j]? =some x→ ∀(k:Nat) r,R[k]? =some r→r.1=beh R x→((k:Int),(0:Int))∈z.2.1)
  (λz=>K.length+R.length - z.1.toNat) (λb=>b.1.Nodup∧b.1.length≤K.length+R.length∧ ∀x,x∈b.1↔Cl R K x)
  ⟨tT _,nO,⟨[],nP,nP,nP⟩,hn,λx m=>.base m,(λs h=>by cases h),λj x h=>nC h nO⟩ (λz O=>?_) λb hb=>?_
 ·obtain⟨i,l,P⟩:=z;obtain⟨h0,h1,hE,w,u,A,I⟩:=O;dsimp only at h0 h1 hE w u A I ⊢;obtain⟨E,J,nE,Z⟩:=hE;have lE:=RQ nE Z;have lo:l.length≤K.length+R.length:=by rw[J,oK];omega
  refine AR (λf=>?_) λf=>BB ⟨w,lo,λx=>⟨u x,λh=>?_⟩⟩
  ·have f:=mX f;have hi:i.toNat<l.length:=nJ
   have m:=bD hi;have L:=oE hi
   generalize l[i.toNat] =x at m L
   have S:=(u x L).ok hK;refine AM (Q:=λ(y:List Item×List (Int×Bool))=>(∃E:List Item,y.1=K++E∧E.Nodup∧ ∀x∈E,∃k:Nat,k<R.length∧x=((k:Int),0))∧y.1.Nodup∧(∀x∈y.1,Cl R K x)∧(∃n,y.1=l++n)∧
    (∀s,BZ s y.2=some true→ ∀(k:Nat) r,R[k]? =some r→r.1=s→((k:Int),(0:Int))∈y.1)∧ ∀(k:Nat) r,R[k]? =some r→r.1=beh R x→((k:Int),(0:Int))∈y.1) ?_ λy B=>?_
   ·refine Cx h0 m (AO (x:=beh R x) (by have:=Pe (p:=p) (x:=x) (by rw[hR];exact S);rw[hR]at this;exact this) ?_);have hb:=gA V S
    generalize hs:beh R x=s at hb
    have no:s<0∨s< (p.1.length:Int)→ ∀(k:Nat) r,R[k]? =some r→r.1=s→((k:Int),(0:Int))∈l:=λh k r t e=>by
     have:=V.left r (eE t)
     omega
    refine AM (Q:=λb=>(b=true→ ∀(k:Nat) r,R[k]? =some r→r.1=s→((k:Int),(0:Int))∈l)) (AR (λf=>AB λ_=>no (.inl (mX f))) λf=>?_) λb a0=>?_
    ·have f:=mY f;refine AO (HO _ _) (AR (λht=>AB λ_=>no (.inr ?_)) λht=>?_)
     ·simp only[rM,nD]at ht;exact ht.2
     ·refine AO rfl (AB λh=>A s ?_);cases hm:BZ s P with
      |none=>rw[hm]at h;cases h
      |some b=>rw[hm]at h;exact nB some h
    ·refine AR (λf=>AB ⟨⟨E,J,nE,Z⟩,w,u,⟨[],nP⟩,A,a0 f⟩) λf=>BK (λk (z:List Item)=>(∃n:List Item,z=l++n∧ ∀x∈n,∃q:Nat,q<R.length∧x=((q:Int),0)∧ ∃r,R[q]? =some r∧r.1=s)∧z.Nodup∧ ∀(q:Nat) r,q<k→R[q]? =some r→r.1=s→((q:Int),(0:Int))∈z) nJ ⟨⟨[],nP,nP⟩,w,λq r h=>nJ⟩ (λk z hk O=>?_) λz O=>?_
     ·obtain⟨⟨n,o,M⟩,N,d2⟩:=O;have t:=bD hk;have lz:z.length≤K.length+R.length:=by
       have⟨n3,n4,n5⟩:=pD.1 (show(K++(E++n)).Nodup by rw[←mE,←J,←o];exact N)
       have:=RQ (R:=R) n4 (λx m=>by
        rcases oA.1 m with h | h
        ·exact Z x h
        ·have⟨q,a,b,_⟩:=M x h;exact⟨q,a,b⟩)
       rw[o,J,mE,oK];omega
      refine AS t (AM (Q:=λb=>(b=true→R[k].1=s∧((k:Int),(0:Int))∉z)∧(b=false→R[k].1=s→((k:Int),(0:Int))∈z)) (AR (λf=>?_) λf=>AB ⟨nP,λ_ e=>?_⟩) λb T=>?_)
      ·refine AO (contains_ok nJ) (AB ⟨λh=>⟨eq_of_beq f,?_⟩,λh _=>?_⟩)
       ·simpa using h
       ·simpa using h
      ·rw[e]at f;simp at f
      ·refine AM (Q:=λ(z':List Item)=>(∃n:List Item,z'=l++n∧ ∀x∈n,∃q:Nat,q<R.length∧x=((q:Int),0)∧ ∃r,R[q]? =some r∧r.1=s)∧z'.Nodup∧ ∀(q:Nat) r,q<k+1→R[q]? =some r→r.1=s→((q:Int),(0:Int))∈z') (AR (λf=>?_) λf=>AB ⟨⟨n,o,M⟩,N,λq r hq v e=>?_⟩) λz' a1=>AB a1
       ·have⟨g1,g2⟩:=T.1 f;refine Az (by simp only[oD,oQ];omega) (AB ⟨⟨n++ [((k:Int),0)],by rw[o,mE],λx m=>?_⟩,?_,λq r hq v e=>?_⟩)
        ·rcases oA.1 m with h | h
         ·exact M x h
         ·exact⟨k,hk,nY.1 h,_,t,g1⟩
        ·refine pD.2 ⟨N,nP,λx m y B a2=>g2 ?_⟩;rw[←nY.1 B,←a2];exact m
        ·rcases pG.1 hq with h | rfl
         ·exact oR _ (d2 q r h v e)
         ·exact pF _ (nY.2 rfl)
       ·rcases pG.1 hq with h | rfl
        ·exact d2 q r h v e
        ·rw[t]at v;cases v;exact T.2 f e
     ·obtain⟨⟨n,o,M⟩,N,d2⟩:=O;have D:∀(k:Nat) r,R[k]? =some r→r.1=s→((k:Int),(0:Int))∈z:=λk r t e=>d2 k r (hM.1 t).1 t e;refine AB ⟨⟨E++n,by rw[o,J,mE],?_,λx m=>?_⟩,N,λx m=>?_,⟨n,o⟩,λs' C k r t e=>?_,D⟩
      ·exact(pD.1 (show(K++(E++n)).Nodup by rw[←mE,←J,←o];exact N)).2.1
      ·rcases oA.1 m with h | h
       ·exact Z x h
       ·have⟨q,a,b,_⟩:=M x h;exact⟨q,a,b⟩
      ·dsimp only at m;rw[o]at m;rcases oA.1 m with h | h
       ·exact u x h
       ·have⟨q,a,b,r,c,d⟩:=M x h;rw[b];exact .step (u _ L) c (by rw[d,hs])
      ·dsimp only at C ⊢;rw[DR]at C;split at C
       ·rename_i e'
        exact D k r t (by rw[e,e'])
       ·rw[o];exact oR _ (A s' C k r t e)
   ·obtain⟨U,a3⟩:=y;obtain⟨⟨E',W,a4,a5⟩,F,G,⟨n,o⟩,H,X⟩:=B;dsimp only at W F G o H X ⊢;have hw:oF .i64 (i+(1:Int))=i+1:=w64 nJ nJ;have a6:l.length≤U.length:=by rw[o,oK];omega
    refine Bd ⟨⟨by dsimp only;rw[hw];omega,by dsimp only;rw[hw];omega,⟨E',W,a4,a5⟩,F,G,H,λj y Y B k r t e=>?_⟩,by dsimp only;rw[hw];omega⟩;dsimp only at Y B ⊢;rw[hw]at Y;rcases rK j i with g | g
    ·rw[o,nZ nJ]at B;rw[o];exact oR _ (I j y g B k r t e)
    ·have:j=i.toNat:=nJ
     subst this;rw[o,nZ nJ,m]at B;cases B;exact X k r t e
  ·have f:=mY f
   induction h with
   |base h=>rw[J];exact oR _ h
   | @step y k r _ g1 g2 ih=>
    obtain⟨j,Y⟩:=oC ih
    have:=(hM.1 Y).1
    dsimp only at this;exact I j y nJ Y k r g1 g2
 ·obtain⟨b1,b2,b3⟩:=hb;refine AO (x:=Hw b.1) (by unfold J4;rw[mZ nJ]) (AB ⟨YL b1,λx=>WN.trans (b3 x),by rw[SM];exact b2⟩)
end
section
variable {R:Rl}
theorem Pf(u:Nat):∀b∈Lib.decDigits u,48≤b.toNat∧b.toNat≤57:=by
 induction u using rT with
 |ind u c=>
  intro b a;rw[Lib.decDigits]at a;split at a
  ·rename_i h
   have a:=nY.1 a;subst a
   have:(rF (48+u)).toNat=48+u:=nN
   omega
  ·rename_i h
   rcases oA.1 a with a | a
   ·exact c (u / 10) nJ b a
   ·have a:=nY.1 a;subst a
    have:(rF (48+u % 10)).toNat=48+u % 10:=nN
    omega
def gB(l:List UInt8):Nat:=l.foldl (λa b=>a *10+(b.toNat - 48)) 0
theorem U9(u:Nat):gB (Lib.decDigits u)=u:=by
 induction u using rT with
 |ind u a=>
  rw[Lib.decDigits];split
  ·rename_i h
   have:(rF (48+u)).toNat=48+u:=nN
   simp only[gB,qC,List.foldl_nil,this];omega
  ·rename_i h
   have e:(rF (48+u % 10)).toNat=48+u % 10:=nN
   have:=a (u / 10) nJ
   unfold gB at this ⊢;rw[rG,this];simp only[qC,List.foldl_nil,e];omega
theorem XO{u v:Nat}(h:Lib.decDigits u=Lib.decDigits v):u=v:=by rw[←U9 u,h,U9]
theorem YM(i:Int):∀b∈Lib.itoa i,b=45∨(48≤b.toNat∧b.toNat≤57):=by
 intro b a;unfold Lib.itoa at a;split at a
 ·rcases oS.1 a with a | a
  ·exact .inl a
  ·exact .inr (Pf _ b a)
 ·exact .inr (Pf _ b a)
theorem aD{i j:Int}(h:Lib.itoa i=Lib.itoa j):i=j:=by
 have a:∀(u:Nat) (r:List UInt8),Lib.decDigits u≠45::r:=λu r e=>by
  have:=Pf u 45 (by rw[e];simp)
  simp at this
 unfold Lib.itoa at h;split at h<;>split at h
 ·have:=XO (List.cons.inj h).2;omega
 ·exact nC h.symm (a _ _)
 ·exact nC h (a _ _)
 ·have:=XO h;omega
theorem Fl(i:Int):∀x∈C7 i,LV x=true∧x≠32∧x≠46:=by
 intro x a;unfold C7 at a;obtain⟨b,c,rfl⟩:=pH.1 a;unfold LV;simp only[rM,nD];rcases YM i b c with rfl | h
 ·decide
 ·omega
theorem RR{i j:Int}(h:C7 i=C7 j):i=j:=by
 unfold C7 at h;refine aD<|List.map_inj_right (f:=λb:UInt8=>(b.toNat:Int)) ?_ |>.1 h;intro a b c
 have:a.toNat=b.toNat:=nJ
 exact UInt8.toNat_inj.1 this
theorem J5{i:Int}(a: -9223372036854775808≤i)(b:i≤9223372036854775807):(C7 i).length≤21:=by unfold C7;rw[oV];exact Lib.itoa_length_le i a b
def Gy:List Item→nH
 | [] =>[]
 |x::l=>C7 x.1++46::(C7 x.2++32::Gy l)
theorem VA(l m:List Item):Gy (l++m)=Gy l++Gy m:=by
 induction l with
 |nil=>rfl
 |cons x l a=>simp[Gy,a]
theorem VB{c:Int}:∀ {a b r s:nH},(∀x∈a,x≠c)→(∀x∈b,x≠c)→a++c::r=b++c::s→a=b∧r=s:=by
 intro a
 induction a with
 |nil=>
  intro b r s _ d h;cases b with
  |nil=>simpa using h
  |cons y b=>simp at h;exact nC h.1.symm (d y nP)
 |cons x a g=>
  intro b r s f d h;cases b with
  |nil=>simp at h;exact nC h.1 (f x nP)
  |cons y b=>
   simp at h;obtain⟨i,j⟩:=g (λz e=>f z (by simp[e])) (λz e=>d z (by simp[e])) h.2;exact⟨by rw[h.1,i],j⟩
theorem aF:∀ {a b:List Item},Gy a=Gy b→a=b:=by
 intro a
 induction a with
 |nil=>
  intro b h;cases b with
  |nil=>rfl
  |cons y b=>simp[Gy]at h
 |cons x a d=>
  intro b h;cases b with
  |nil=>simp[Gy]at h
  |cons y b=>
   have⟨e,f⟩:=VB (λz c=>(Fl x.1 z c).2.2) (λz c=>(Fl y.1 z c).2.2) h;have⟨g,i⟩:=VB (λz c=>(Fl x.2 z c).2.1) (λz c=>(Fl y.2 z c).2.1) f;rw[rZ (RR e) (RR g),d i]
theorem Pg(l:List Item):∀x∈Gy l,LV x=true:=by
 induction l with
 |nil=>intro x a;cases a
 |cons y l b=>
  intro x a;simp only[Gy,oA,oS]at a;rcases a with h | rfl | h | rfl | h
  ·exact(Fl _ x h).1
  ·decide
  ·exact(Fl _ x h).1
  ·decide
  ·exact b x h
def I64(l:List Item):Prop:= ∀x∈l,0≤x.1∧x.1≤1000000∧0≤x.2∧x.2≤1000000
theorem aJ{l:List Item}(h:I64 l):(Gy l).length≤l.length *44:=by
 induction l with
 |nil=>simp[Gy]
 |cons x l b=>
  have a:=h x nP
  have:=b λy c=>h y (by simp[c])
  have d:=J5 (i:=x.1) nJ nJ;have e:=J5 (i:=x.2) nJ nJ;simp only[Gy,oK,oD];omega
def WP(l:List Item):nI:=⟨((Gy l).map λx=>rF x.toNat).toArray⟩
theorem WQ{x:Int}(h:LV x=true):((rF x.toNat).toNat:Int)=x:=by unfold LV at h;simp only[rM,nD]at h;simp;omega
theorem aK{a b:List Item}(h:WP a=WP b):a=b:=by
 unfold WP at h;simp only[ByteArray.mk.injEq]at h;have c:∀l:nH,(∀x∈l,LV x=true)→(l.map λx=>rF x.toNat).map (λb=>(b.toNat:Int))=l:=λl d=>by
  rw[tM]
  conv=>rhs;rw[←List.map_id l]
  refine List.map_congr_left λx e=>WQ (d x e)
 refine aF ?_;rw[←c (Gy a) (Pg a),←c (Gy b) (Pg b)];rw[List.toArray_inj h]
theorem gC{l:List Item}(h:I64 l)(n:l.length≤20000):Ez l=some (WP l):=by
 refine sV ?_;unfold Ez;refine BK (λk (z:nH)=>z=Gy (l.take k)) nJ rfl (λk z c b=>?_) λz b=>?_
 ·subst b;have d:=bD c;have a:=h _ (oE c);have e:Gy (l.take (k+1))=Gy (l.take k) ++Gy [l[k]]:=by rw[pC,d,VA];rfl
  have f:=aJ (l:=l.take k) λy g=>h y (rQ g)
  have:(l.take k).length≤k:=by rw[pN];omega
  have o:=J5 (i:=l[k].1) nJ nJ;have p:=J5 (i:=l[k].2) nJ nJ;have j:Ek (Gy (l.take k)) l[k].1 10=some (Gy (l.take k) ++C7 l[k].1):=by unfold Ek;rw[mZ ⟨rfl,nJ,nJ,nJ⟩]
  refine AS d (AO j (Az nN ?_));have m:Ek (Gy (l.take k) ++C7 l[k].1++ [46]) l[k].2 10=some (Gy (l.take k) ++C7 l[k].1++ [46] ++C7 l[k].2):=by unfold Ek;rw[mZ ⟨rfl,nJ,nJ,nN⟩]
  refine AO m (Az nN (AB ?_));rw[e];simp[Gy]
 ·subst b;rw[oU (oY _)];refine AO (x:=WP l) ?_ (AB rfl);unfold W0 WP;rw[mZ (List.all_eq_true.2 (Pg l))]
def nx(R:Rl)(l:List Item)(s:Int):List Item:=(l.filter λx=>beh R x==s).map λx=>(x.1,x.2+1)
theorem OkI.dot{nT:Int}(V:VP nT R){x:Item}(h:OkI R x):x.1≤1000∧x.2≤1000:=by
 obtain⟨b,c,r,a,d⟩:=h
 have:=V.short r (eE a)
 have:=(hM.1 a).1
 have:=V.few
 omega
theorem OkI.i64{nT:Int}(V:VP nT R){l:List Item}(h:∀x∈l,OkI R x):I64 l:=λx a=>by
 have:=(h x a).dot V
 have:=(h x a).1
 have:=(h x a).2.1
 omega
theorem dC{p:As}{nT:Int}(V:VP nT p.2.2.1){l:List Item}(h:∀x∈l,OkI p.2.2.1 x)(i:l.length≤1000000)(s:Int):Ce (qA p DC 0) l s=some (nx p.2.2.1 l s):=by
 refine sV ?_;unfold Ce;refine BK (λk (z:List Item)=>z=nx p.2.2.1 (l.take k) s) nJ rfl (λk z d b=>?_) λz b=>AB (by rw[b,oU (oY _)]);subst b;have f:=bD d;have a:=h _ (oE d);have j:=a.dot V;have m:=a.2.1;have e:nx p.2.2.1 (l.take (k+1)) s=nx p.2.2.1 (l.take k) s++nx p.2.2.1 [l[k]] s:=by
  rw[pC,f];unfold nx;rw[tF,qS];rfl
 have g:(nx p.2.2.1 (l.take k) s).length≤k:=by
  unfold nx;rw[oV]
  have:=pE (λx=>beh p.2.2.1 x==s) (l.take k)
  rw[pN]at this;omega
 refine AS f (AO (Pe a) ?_);refine AM (Q:=λz=>z=nx p.2.2.1 (l.take (k+1)) s) (AR (λc=>?_) λc=>AB ?_) λz b=>AB b
 ·refine Az nN (AB ?_);rw[e,w64 nJ nJ];unfold nx;rw[rO,mZ c];rfl
 ·rw[e];unfold nx;rw[rO,nA (by rw[c];decide)];simp
theorem RT{l:List Item}{s:Int}{y:Item}:y∈nx R l s↔∃x∈l,beh R x=s∧y=(x.1,x.2+1):=by
 unfold nx;simp only[pH,sN,beq_iff_eq];constructor
 ·rintro⟨x,⟨a,b⟩,c⟩;exact⟨x,a,b,c.symm⟩
 ·rintro⟨x,a,b,c⟩;exact⟨x,⟨a,b⟩,c.symm⟩
theorem VC{l:List Item}(h:l.Pairwise Lt)(s:Int):(nx R l s).Pairwise Lt:=by unfold nx;rw[tH];exact(h.filter _).imp λ{a b} h=>by unfold Lt at *;dsimp only;omega
theorem gD(R:Rl)(l:List Item)(s:Int):(nx R l s).length≤l.length:=by unfold nx;rw[oV];exact pE _ _
theorem Su{nT:Int}(V:VP nT R){l:List Item}(h:∀x∈l,OkI R x){s:Int}(f:0≤s):∀y∈nx R l s,OkI R y∧1≤y.2:=λy c=>by
 obtain⟨x,d,a,rfl⟩:=RT.1 c;have⟨e,i,r,b,j⟩:=h x d;refine⟨⟨e,nO,r,b,?_⟩,nO⟩;unfold beh at a;rw[b]at a;dsimp only at a ⊢;rcases pO x.2.toNat r.2.1.length with g | g
 ·omega
 ·rw[oO g]at a;simp at a;omega
def syr(R:Rl)(l:List Item):nH:=(l.map (beh R)).filter λs=>decide (0≤s)
def sy(R:Rl)(l:List Item):nH:=Lib.compact (Lq (syr R l))
theorem WR{p:As}{l:List Item}(h:∀x∈l,OkI p.2.2.1 x)(i:l.length≤1000000):B8 (qA p DC 0) l=some (sy p.2.2.1 l):=by
 refine sV ?_;unfold B8;have b:∀k,(syr p.2.2.1 (l.take k)).length≤l.length:=λk=>by
  unfold syr
  have:=pE (λs=>decide (0≤s)) ((l.take k).map (beh p.2.2.1))
  rw[oV,pN]at this;omega
 refine BK (λk (z:nH)=>z=syr p.2.2.1 (l.take k)) nJ rfl (λk z f c=>?_) λz c=>?_
 ·subst c;have g:=bD f;have a:=h _ (oE f);have e:syr p.2.2.1 (l.take (k+1))=syr p.2.2.1 (l.take k) ++syr p.2.2.1 [l[k]]:=by
   rw[pC,g];unfold syr;rw[qS,tF];rfl
  have:=b k
  refine AS g (AO (Pe a) ?_);refine AM (Q:=λz=>z=syr p.2.2.1 (l.take (k+1))) (AR (λd=>?_) λd=>AB ?_) λz c=>AB c
  ·refine Az nN (AB ?_);rw[e];unfold syr;rw[List.map_cons,rO,mZ (by simpa using d)];rfl
  ·rw[e];unfold syr;rw[List.map_cons,rO,nA (by simpa using d)];simp
 ·subst c
  have:=b l.length
  rw[oU (oY _)]at this ⊢;refine AO (x:=Lq (syr p.2.2.1 l)) (by unfold XG;rw[mZ nJ])<|AO (x:=sy p.2.2.1 l) (by unfold Od;rw[mZ (by unfold Lq;rw[(Dh _ _).length_eq];omega)];rfl) (AB rfl)
theorem VD(l:nH):(Lq l).Pairwise (· ≤ ·):=by
 have d:=Q7 (le:=λx y:Int=>decide (x≤y)) (by
  intro a b c d e;simp only[nD]at *
  omega) (by
  intro a b;simp only[sL,nD]
  omega) l
 exact d.imp λ{a b} h=>mX h
theorem Sv{l:nH}(h:l.Pairwise (· ≤ ·)):∀m,m≤l.length→(Lib.compactUpTo l.toArray m).Pairwise (· < ·)∧(∀x,x∈Lib.compactUpTo l.toArray m↔x∈l.take m):=by
 intro m
 induction m with
 |zero=>intro _;exact⟨.nil,λx=>by simp[Lib.compactUpTo]⟩
 |succ m s=>
  intro v;obtain⟨p,d⟩:=s nJ;rw[Lib.compactUpTo_succ];have c:=bD (show m<l.length by omega);have e0:l.toArray[m]! =l[m]:=by rw[getElem!_pos _ m nN];simp
  have r:l.take (m+1)=l.take m++ [l[m]]:=by rw[pC,c];rfl
  have le:∀x∈l.take m,x≤l[m]:=λx c=>by
   obtain⟨j,e,rfl⟩:=sU c;rw[pN]at e;rw[tQ];exact pK.1 h j m nJ nJ nJ
  cases a:Lib.keeps l.toArray m with
  |true=>
   rw[mZ rfl,e0,r];refine⟨sR.2 ⟨p,nP,λx c y t=>?_⟩,λx=>by rw[oA,oA,d]⟩;obtain rfl:=nY.1 t;have b:=(d x).1 c
   have:=le x b
   unfold Lib.keeps at a;have a:=mX a;rcases a with rfl | a
   ·simp at b
   ·have f:l.toArray[m - 1]! =l[m - 1]:=by rw[getElem!_pos _ (m - 1) nN];simp
    rw[e0,f]at a;have k:m≠0:=λn=>by subst n;simp at b
    have u:x≤l[m - 1]:=by
     obtain⟨j,e,rfl⟩:=sU b;rw[pN]at e;rw[tQ];rcases pO j (m - 1) with g | g
     ·exact pK.1 h j (m - 1) nJ nJ nJ
     ·have:j=m - 1:=nJ
      subst this;exact tT _
    have:=pK.1 h (m - 1) m nJ nJ nJ
    omega
  |false=>
   rw[nA nQ,qG,r];refine⟨p,λx=>?_⟩;rw[d,oA,nY];unfold Lib.keeps at a;have a:=mY a;have k:m≠0:=λn=>a (.inl n);have f:l.toArray[m - 1]! =l[m - 1]:=by rw[getElem!_pos _ (m - 1) nN];simp
   have o:l[m] =l[m - 1]:=by
    by_cases q:l[m] =l[m - 1]
    ·exact q
    ·exact nC (.inr (by rw[e0,f];exact q)) a
   constructor
   ·exact .inl
   ·rintro(h | rfl)
    ·exact h
    ·rw[o];refine eE (i:=m - 1) ?_;rw[qQ,mZ nJ,bD nJ]
theorem eu(R:Rl)(l:List Item):(sy R l).Pairwise (· < ·):=(Sv (VD _) _ (oY _)).1
theorem Iv{l:List Item}{s:Int}:s∈sy R l↔0≤s∧ ∃x∈l,beh R x=s:=by
 unfold sy Lib.compact;rw[(Sv (VD _) _ (oY _)).2,oU (oY _)];unfold Lq;rw[(Dh _ _).mem_iff];unfold syr;simp only[sN,pH,nD];constructor
 ·rintro⟨⟨x,a,b⟩,c⟩;exact⟨c,x,a,b⟩
 ·rintro⟨c,x,a,b⟩;exact⟨⟨x,a,b⟩,c⟩
theorem WS(R:Rl)(l:List Item):(sy R l).length≤l.length:=by have b:=Q8 (Lq (syr R l));have c:(Lq (syr R l)).length=(syr R l).length:=(Dh _ _).length_eq;have a:(syr R l).length≤(l.map (beh R)).length:=pE _ _;rw[oV]at a;unfold sy;omega
end
section
variable {b:dtK}{syms:nH}{n m:Nat}
abbrev k0:List Item:=[((0:Int),(0:Int))]
noncomputable def clo(p:As)(K:List Item):List Item:=(BX (qA p DC 0) K).getD []
abbrev VPp(p:As):Prop:=VP (p.1.length:Int) p.2.2.1
structure Kv (R:Rl) (k:List Item):Prop where
 ok:∀x∈k,OkI R x
 up:k.Pairwise Lt
theorem Lt.nodup{l:List Item}(h:l.Pairwise Lt):l.Nodup:=pZ.2 (h.imp λ{a b} h e=>by subst e;exact Lt.irrefl _ h)
theorem GY{nT:Int}{R:Rl}(V:VP nT R){l:List Item}(h:∀x∈l,OkI R x)(d:l.Nodup):l.length≤10100:=by
 have:=List.Nodup.length_le_of_subset (l₂:=(rY 100).flatMap λa=>(rY 101).map λb=>(((a:Nat):Int),((b:Nat):Int))) d (λx e=>by
  have⟨f,g,r,c,i⟩:=h x e
  have:=V.short r (eE c)
  have:=(hM.1 c).1
  have:=V.few
  refine List.mem_flatMap.2 ⟨x.1.toNat,rJ.2 nJ,pH.2 ⟨x.2.toNat,rJ.2 nJ,?_⟩⟩;exact rZ nO nO)
 refine rX this ?_;rw[List.length_flatMap];simp only[oV,List.length_range];decide
theorem GZ{p:As}(V:VPp p){K:List Item}(h:Kv p.2.2.1 K):BX (qA p DC 0) K=some (clo p K)∧Tx p.2.2.1 K (clo p K)∧Kv p.2.2.1 (clo p K)∧(clo p K).length≤10100:=by
 have f:=GY V h.ok (Lt.nodup h.up);obtain⟨C,c,a⟩:=WO V h.ok (Lt.nodup h.up) nJ;have e:clo p K=C:=by unfold clo;rw[c];rfl
 rw[e];have b:Kv p.2.2.1 C:=⟨λx d=>((a.mem x).1 d).ok h.ok,a.up⟩;exact⟨c,a,b,GY V b.ok (Lt.nodup b.up)⟩
noncomputable def Fm(p:As)(B:List dtK)(k:List Item)(fr wi:Int):Nat×List dtK:=
 match B.findIdx? (λb=>decide (b.1=k)) with
 |some i=>(i,B)
 |none=>(B.length,B++ [(k,clo p k,fr,wi)])
abbrev BE:Type:=List dtK×List (List Edge)
noncomputable def Eo(p:As)(b:dtK)(i:Nat)(y:BE)(s:Int):BE:=((Fm p y.1 (nx p.2.2.1 b.2.1 s) (i:Int) s).2,(EI y.2 y.1.length (Fm p y.1 (nx p.2.2.1 b.2.1 s) (i:Int) s).2.length).set i ((((EI y.2 y.1.length (Fm p y.1 (nx p.2.2.1 b.2.1 s) (i:Int) s).2.length))[i]?).getD [] ++ [(s,(((Fm p y.1 (nx p.2.2.1 b.2.1 s) (i:Int) s).1:Nat):Int))]))
noncomputable def EW(p:As)(b:dtK)(i:Nat)(l:nH)(y:BE):BE:=l.foldl (Eo p b i) y
noncomputable def stM(p:As):Nat→BE
 | 0=>([(k0,clo p k0, -1, -1)],[[]])
 |n+1=>match (stM p n).1[n]? with
  |some b=>EW p b n (sy p.2.2.1 b.2.1) (stM p n)
  |none=>stM p n
noncomputable def mid(p:As)(n m:Nat):BE:=match (stM p n).1[n]? with
 |some b=>EW p b n ((sy p.2.2.1 b.2.1).take m) (stM p n)
 |none=>stM p n
theorem IZ(p:As)(B:List dtK)(k:List Item)(fr wi:Int):
 (∃i b,Fm p B k fr wi=(i,B)∧B[i]? =some b∧b.1=k)∨(Fm p B k fr wi=(B.length,B++ [(k,clo p k,fr,wi)])∧ ∀b∈B,b.1≠k):=by
 unfold Fm;cases h:B.findIdx? (λb=>decide (b.1=k)) with
 |none=>
  right
  refine⟨rfl,λb a e=>?_⟩
  have:=qB.1 h b a
  simp[e]at this
 |some i=>
  left
  obtain⟨c,d,_⟩:=List.findIdx?_eq_some_iff_getElem.1 h;exact⟨i,B[i],rfl,bD c,mX d⟩
def Ia(R:Rl)(B:List dtK)(b:dtK)(syms:nH)(e:List Edge):Prop:=
 e.map (·.1)=syms∧ ∀x∈e,∃(t:Nat) (bt:dtK),x.2=(t:Int)∧1≤t∧B[t]? =some bt∧bt.1=nx R b.2.1 x.1
structure Inv (p:As) (n:Nat) (syms:nH) (y:BE):Prop where
 wf:∀b∈y.1,Kv p.2.2.1 b.1∧b.2.1=clo p b.1
 len:y.2.length=y.1.length
 zero:y.1[0]? =some (k0,clo p k0, -1, -1)
 from_:∀(j:Nat) b,1≤j→y.1[j]? =some b→ ∃(f:Nat) (bf:dtK) (e:List Edge),f<j∧b.2.2.1=(f:Int)∧y.1[f]? =some bf∧b.1=nx p.2.2.1 bf.2.1 b.2.2.2∧b.2.2.2∈sy p.2.2.1 bf.2.1∧y.2[f]? =some e∧(b.2.2.2,(j:Int))∈e
 apart:∀(i j:Nat) bi bj,y.1[i]? =some bi→y.1[j]? =some bj→bi.1=bj.1→i=j
 done:∀(j:Nat) b e,j<n→y.1[j]? =some b→y.2[j]? =some e→Ia p.2.2.1 y.1 b (sy p.2.2.1 b.2.1) e
 cur:∀b e,y.1[n]? =some b→y.2[n]? =some e→Ia p.2.2.1 y.1 b syms e
 fresh:∀(j:Nat) e,n<j→y.2[j]? =some e→e= []
theorem Ia.up{R:Rl}{B a:List dtK}{e:List Edge}(H:Ia R B b syms e)(d:∀(j:Nat) x,B[j]? =some x→a[j]? =some x):Ia R a b syms e:=
 ⟨H.1,λx f=>by have⟨t,c,g,h,i,k⟩:=H.2 x f;exact⟨t,c,g,h,d t c i,k⟩⟩
theorem E0{α:Type}{l:List α}{x y:α}{j:Nat}(h:l[j]? =some y):(l++ [x])[j]? =some y:=by rw[nZ (hM.1 h).1];exact h
theorem Bt{α:Type}{l:List α}{y:α}{j:Nat}(h:l[j]? =some y):j<l.length:=(hM.1 h).1
theorem Inv.grow{p:As}{B:List dtK}{E:List (List Edge)}(H:Inv p n syms (B,E))(g:n<B.length){x:dtK}:(E++ [[]]).length=(B++ [x]).length∧(B++ [x])[0]? =some (k0,clo p k0, -1, -1)∧
 (∀(j:Nat) b e,j<n→(B++ [x])[j]? =some b→(E++ [[]])[j]? =some e→Ia p.2.2.1 (B++ [x]) b (sy p.2.2.1 b.2.1) e)∧
 (∀b e,(B++ [x])[n]? =some b→(E++ [[]])[n]? =some e→Ia p.2.2.1 (B++ [x]) b syms e)∧(∀(j:Nat) e,n<j→(E++ [[]])[j]? =some e→e= []):=by
 have f:=H.len;dsimp only at f;refine⟨by simp[f],E0 H.zero,λj b e d c a=>?_,λb e c a=>?_,λj e d a=>?_⟩
 ·rw[nZ nJ]at c a;exact(H.done j b e d c a).up λ_ _ h=>E0 h
 ·rw[nZ nJ]at c a;exact(H.cur b e c a).up λ_ _ h=>E0 h
 ·rcases GA a with h | ⟨_,h⟩
  ·exact H.fresh j e d h
  ·exact h
theorem Inv.edge{p:As}(V:VPp p){B:List dtK}{E:List (List Edge)}(H:Inv p n syms (B,E))(u:B[n]? =some b){s:Int}(hs:s∈sy p.2.2.1 b.2.1):Inv p n (syms++ [s]) (Eo p b n (B,E) s):=by
 have G:=Bt u;have U:=H.len;dsimp only at U;obtain⟨e,I⟩:∃e,E[n]? =some e:=⟨_,bD nJ⟩;have⟨hg,W⟩:=H.wf b (eE u);have⟨_,_,v,_⟩:=GZ V hg;have⟨s0,xs,Y,Z⟩:=Iv.1 hs;have a0:∀y∈nx p.2.2.1 b.2.1 s,1≤y.2:=λy w=>(Su V (l:=b.2.1) (by rw[W];exact v.ok) s0 y w).2;have a1:∃y,y∈nx p.2.2.1 b.2.1 s:=⟨_,RT.2 ⟨xs,Y,Z,rfl⟩⟩;have z:nx p.2.2.1 b.2.1 s≠k0:=λh=>by
  obtain⟨y,w⟩:=a1
  have:=a0 y w
  rw[h]at w
  have:=nY.1 w
  subst this;dsimp only at *;omega
 have t:=H.cur b e u I;unfold Eo;rcases IZ p B (nx p.2.2.1 b.2.1 s) (n:Int) s with⟨i,T,h1,J,h3⟩|⟨h1,J⟩
 ·dsimp only;rw[h1];dsimp only;have A:EI E B.length B.length=E:=by unfold EI;rw[mZ rfl]
  rw[A,I,sG];have a2:1≤i:=by
   rcases pY i with h | h
   ·subst h
    have:=H.zero
    dsimp only at this;rw[J]at this;cases this;exact nC h3.symm z
   ·exact h
  refine⟨H.wf,by simp[U],H.zero,λj m k g=>?_,H.apart,λj m q k g d=>?_,λm q g d=>?_,λj q k d=>?_⟩
  ·have⟨f,K,ef,L,M,C,N,O,r,P⟩:=H.from_ j m k g;dsimp only at C r ⊢;by_cases Q:f=n
   ·subst Q;rw[I]at r;cases r;exact⟨f,K,_,L,M,C,N,O,pV nJ,oR _ P⟩
   ·exact⟨f,K,ef,L,M,C,N,O,by rw[pR (λh=>Q h.symm)];exact r,P⟩
  ·dsimp only at d;rw[pR nJ]at d;exact H.done j m q k g d
  ·dsimp only at d g;rw[pV nJ]at d;rw[u]at g;cases d;cases g;refine⟨by rw[qS,t.1];rfl,λx hx=>?_⟩;rcases oA.1 hx with h | h
   ·exact t.2 x h
   ·obtain rfl:=nY.1 h;exact⟨i,T,rfl,a2,J,h3⟩
  ·dsimp only at d;rw[pR nJ]at d;exact H.fresh j q k d
 ·dsimp only;rw[h1];dsimp only;have A:EI E B.length (B++ [(nx p.2.2.1 b.2.1 s,clo p (nx p.2.2.1 b.2.1 s),(n:Int),s)]).length=E++ [[]]:=by unfold EI;rw[nA nP]
  have R:(E++ [[]])[n]? =some e:=E0 I;rw[A,R,sG];have⟨q1,q2,q3,q4,q5⟩:=H.grow G (x:=(nx p.2.2.1 b.2.1 s,clo p (nx p.2.2.1 b.2.1 s),(n:Int),s));have a3:Kv p.2.2.1 (nx p.2.2.1 b.2.1 s):=⟨λy w=>(Su V (l:=b.2.1) (by rw[W];exact v.ok) s0 y w).1,VC (by rw[W];exact v.up) s⟩
  generalize F:(nx p.2.2.1 b.2.1 s,clo p (nx p.2.2.1 b.2.1 s),(n:Int),s)=X at *
  have X1:X.1=nx p.2.2.1 b.2.1 s:=by rw[←F]
  have D:(B++ [X])[B.length]? =some X:=by rw[oM (oY _),tP];rfl
  refine⟨λm g=>?_,by simp[U],q2,λj m k g=>?_,λi j T bj hi k o=>?_,λj m q k g d=>?_,λm q g d=>?_,λj q k d=>?_⟩
  ·rcases oA.1 g with h | h
   ·exact H.wf m h
   ·obtain rfl:=nY.1 h;rw[←F];exact⟨a3,rfl⟩
  ·dsimp only at g ⊢;rcases GA g with h | ⟨hj',rfl⟩
   ·have⟨f,K,ef,L,M,C,N,O,r,P⟩:=H.from_ j m k h;dsimp only at C r ⊢;by_cases Q:f=n
    ·subst Q;rw[I]at r;cases r;exact⟨f,K,_,L,M,E0 C,N,O,pV nN,oR _ P⟩
    ·exact⟨f,K,ef,L,M,E0 C,N,O,by rw[pR (λh=>Q h.symm)];exact E0 r,P⟩
   ·subst hj';refine⟨n,b,_,G,by rw[←F],E0 u,by rw[←F],by rw[←F];exact hs,pV nN,pF _ ?_⟩;rw[←F];exact nY.2 rfl
  ·dsimp only at hi k;rcases GA hi with a | ⟨a,a'⟩ <;>rcases GA k with c | ⟨c,c'⟩
   ·exact H.apart i j T bj a c o
   ·rw[c',X1]at o;exact nC o (J T (eE a))
   ·rw[a',X1]at o;exact nC o.symm (J bj (eE c))
   ·omega
  ·dsimp only at d g;rw[pR nJ]at d;exact q3 j m q k g d
  ·dsimp only at d g;rw[pV nN]at d;rw[E0 u]at g;cases d;cases g;have S:=q4 b e (E0 u) R;refine⟨by rw[qS,S.1];rfl,λx hx=>?_⟩;rcases oA.1 hx with h | h
   ·exact S.2 x h
   ·obtain rfl:=nY.1 h;exact⟨B.length,X,rfl,nJ,D,X1⟩
  ·dsimp only at d;rw[pR nJ]at d;exact q5 j q k d
theorem Sw{p:As}{s:Int}(y:BE):∃l,(Eo p b n y s).1=y.1++l:=by
 unfold Eo;rcases IZ p y.1 (nx p.2.2.1 b.2.1 s) (n:Int) s with⟨i,c,a,_⟩|⟨a,_⟩
 ·rw[a];exact⟨[],nP⟩
 ·rw[a];exact⟨_,rfl⟩
theorem JS{p:As}:∀(l:nH) (y:BE),∃m,(EW p b n l y).1=y.1++m:=by
 intro l
 induction l with
 |nil=>intro y;exact⟨[],by simp[EW]⟩
 |cons s l a=>
  intro y;have⟨c,d⟩:=Sw (p:=p) (b:=b) (n:=n) (s:=s) y;obtain⟨e,f⟩:=a (Eo p b n y s);exact⟨c++e,by rw[←mE,←d];exact f⟩
theorem Inv.fold{p:As}(V:VPp p):∀(l:nH) {syms:nH}{y:BE},Inv p n syms y→y.1[n]? =some b→(∀s∈l,s∈sy p.2.2.1 b.2.1)→Inv p n (syms++l) (EW p b n l y):=by
 intro l
 induction l with
 |nil=>intro syms y H a _;rw[qG];exact H
 |cons s l e=>
  intro syms y H a c;obtain⟨B,E⟩:=y;have f:=H.edge V a (c s nP);have⟨m,g⟩:=Sw (p:=p) (b:=b) (n:=n) (s:=s) (B,E);have d:=e f (by rw[g,nZ (Bt a)];exact a) (λx h=>c x (by simp[h]));rw[mE]at d;exact d
theorem Inv.next{p:As}{y:BE}(d:y.1[n]? =some b)(H:Inv p n (sy p.2.2.1 b.2.1) y):Inv p (n+1) [] y:=by
 refine⟨H.wf,H.len,H.zero,H.from_,H.apart,λj f e g a c=>?_,λf e a c=>?_,λj e g c=>H.fresh j e nJ c⟩
 ·rcases pG.1 g with h | rfl
  ·exact H.done j f e h a c
  ·rw[d]at a;cases a;exact H.cur b e d c
 ·have:=H.fresh (n+1) e nJ c
  subst this;exact⟨rfl,nP⟩
theorem Inv.skip{p:As}{y:BE}(f:y.1.length≤n)(H:Inv p n syms y)(m:Nat)(g:n≤m):Inv p m [] y:=by
 have h:=H.len;refine⟨H.wf,H.len,H.zero,H.from_,H.apart,λj b e d a c=>H.done j b e (by have:=Bt a;omega) a c,λb e a c=>?_,λj e d c=>?_⟩
 ·have:=Bt a;omega
 ·have:=Bt c;omega
theorem Ph{p:As}(V:VPp p)(v:1≤p.2.2.1.length):∀n,Inv p n [] (stM p n):=by
 intro n
 induction n with
 |zero=>
  have g:Kv p.2.2.1 k0:=⟨λx k=>by
   obtain rfl:=nY.1 k;exact⟨nQ,nQ,p.2.2.1[0],bD nJ,nP⟩,nP⟩
  have one:∀(j:Nat) b,(stM p 0).1[j]? =some b→j=0:=λj b h=>by
   have:=Bt h
   simp[stM]at this;exact this
  refine⟨λb a=>?_,rfl,rfl,λj b c a=>?_,λi j l o q c _=>by rw[one i l q,one j o c],λj b e c=>nJ,λb e a d=>?_,λj e c d=>?_⟩
  ·have:b=(k0,clo p k0, -1, -1):=nY.1 a
   subst this;exact⟨g,rfl⟩
  ·have:=one j b a;omega
  ·have:e= []:=by simpa[stM]using d.symm
   subst this;exact⟨rfl,nP⟩
  ·have:=Bt d
   simp[stM]at this;omega
 |succ n f=>
  unfold stM;cases h:(stM p n).1[n]? with
  |none=>exact f.skip (List.getElem?_eq_none_iff.1 h) (n+1) nJ
  |some b=>
   have r:=f.fold V (sy p.2.2.1 b.2.1) h (λs t=>t);refine Inv.next (b:=b) ?_ r;have⟨m,u⟩:=JS (p:=p) (b:=b) (n:=n) (sy p.2.2.1 b.2.1) (stM p n);rw[u,nZ (Bt h)];exact h
theorem dD{p:As}(V:VPp p)(c:1≤p.2.2.1.length)(a:(stM p n).1[n]? =some b):Inv p n ((sy p.2.2.1 b.2.1).take m) (mid p n m)∧(mid p n m).1[n]? =some b:=by have H:=(Ph V c n).fold V ((sy p.2.2.1 b.2.1).take m) a (λs d=>rQ d);have⟨l,e⟩:=JS (p:=p) (b:=b) (n:=n) ((sy p.2.2.1 b.2.1).take m) (stM p n);unfold mid;rw[a];exact⟨H,by rw[e,nZ (Bt a)];exact a⟩
theorem aL{p:As}{s:Int}(a:(stM p n).1[n]? =some b)(c:(sy p.2.2.1 b.2.1)[m]? =some s):mid p n (m+1)=Eo p b n (mid p n m) s:=by unfold mid;rw[a];dsimp only;rw[pC,c];unfold EW;rw[rG];rfl
theorem XP{p:As}(a:(stM p n).1[n]? =some b):mid p n (sy p.2.2.1 b.2.1).length=stM p (n+1):=by unfold mid;rw[stM];rw[a];dsimp only;rw[oU (oY _)]
theorem dE(p:As)(n:Nat):∃l,(stM p (n+1)).1=(stM p n).1++l:=by
 rw[stM];cases h:(stM p n).1[n]? with
 |none=>exact⟨[],nP⟩
 |some b=>exact JS _ _
theorem aM(p:As)(h:n≤m):∃l,(stM p m).1=(stM p n).1++l:=by
 induction h with
 |refl=>exact⟨[],nP⟩
 | @step m _ b=>
  obtain⟨l,c⟩:=b;obtain⟨l',a⟩:=dE p m;exact⟨l++l',by rw[a,c,mE]⟩
theorem WT{p:As}(h:(stM p n).1.length≤n)(a:n≤m):stM p m=stM p n:=by
 induction a with
 |refl=>rfl
 | @step m a b=>
  rw[stM,b,oO (rX h a)]
end
section
variable {L M:Int}{B:List dtK}{fd:Fd}{rm cl:DA}
theorem XQ{α:Type}{o:Option α}{P:α→Prop}(h:Ok (o.bind some) P):Ok o P:=by
 cases o with
 |none=>exact h
 |some x=>exact h
def tot(B:List dtK):Nat:=(B.map (·.2.1.length)).sum
theorem Qi(B C:List dtK):tot (B++C)=tot B+tot C:=by unfold tot;rw[qS,List.sum_append]
def Fit(L M:Int)(B:List dtK):Prop:=(B.length:Int) ≤L∧((tot B:Nat):Int) ≤M
theorem Fit.of_app{C:List dtK}(h:Fit L M (B++C)):Fit L M B:=by unfold Fit at *;rw[Qi,oK]at h;omega
structure QX (L M:Int) (fd:Fd) (rm cl:DA) (B:List dtK):Prop where
 map:∀k,I64 k→BZ (WP k) fd=(B.findIdx? (λb=>decide (b.1=k))).map (λn:Nat=>(n:Int))
 rlim:rm.1=L
 rused:rm.2.1=(B.length:Int)
 clim:cl.1=M
 cused:cl.2.1=((tot B:Nat):Int)
theorem XR{m:DA}{n:Int}(b:0≤n)(c:n≤1000000)(d:0≤m.2.1)(e:m.2.1≤m.1)(f:m.1≤1099511627776):
 Ok (DF m n) λt=>(n≤m.1 - m.2.1→t.1=0∧t.2.1=m.1∧t.2.2.1=m.2.1+n)∧(m.1 - m.2.1<n→t.1=5∧t.2=m):=by
 unfold DF FZ;refine AZ (mV nJ) (AO rfl ?_);rw[w64 (show -9223372036854775808≤m.1 - m.2.1 by omega) nJ,w64 (show -9223372036854775808≤m.2.1+n by omega) nJ];refine AR (λa=>AB ?_) λa=>AB ?_
 ·have:=mX a
  exact⟨λh=>nJ,λ_=>⟨rfl,rfl⟩⟩
 ·have:=mY a
  exact⟨λ_=>⟨rfl,rfl,rfl⟩,λh=>nJ⟩
theorem YN{x:dtK}{k:List Item}(h:∀b∈B,b.1≠x.1):(B++ [x]).findIdx? (λb=>decide (b.1=k))=if k=x.1 then some B.length else B.findIdx? (λb=>decide (b.1=k)):=by
 rw[List.findIdx?_append];by_cases e:k=x.1
 ·rw[mZ e]
  have:B.findIdx? (λb=>decide (b.1=k))=none:=qB.2 λb a=>mV (by rw[e];exact h b a)
  rw[this];simp[e]
 ·rw[nA e]
  have: [x].findIdx? (λb=>decide (b.1=k))=none:=qB.2 λb a=>mV (by
   obtain rfl:=nY.1 a;exact λh=>e h.symm)
  rw[this];simp
theorem add_ok{p:As}(V:VPp p){k:List Item}{fr wi:Int}(C:QX L M fd rm cl B)(F:Fit L M B)(I:L≤1099511627776)(J:M≤1099511627776)(g:Kv p.2.2.1 k)(U:B.length<1099512676352):
 Ok (YJ p fd B rm cl k fr wi) λr=>r.1=(((Fm p B k fr wi).1:Nat):Int)∧r.2.2.2.1=(Fm p B k fr wi).2∧(Fit L M (Fm p B k fr wi).2→r.2.1=0∧QX L M r.2.2.1 r.2.2.2.2.1 r.2.2.2.2.2 (Fm p B k fr wi).2)∧(¬Fit L M (Fm p B k fr wi).2→r.2.1=5):=by
 have E:=OkI.i64 V g.ok;have K:=GY V g.ok (Lt.nodup g.up);have⟨N,W,X,Y⟩:=GZ V g;have o:=C.map k E;unfold YJ;refine AO (gC E nJ) ?_;unfold Fm;cases hf:B.findIdx? (λb=>decide (b.1=k)) with
 |some i=>
  rw[hf]at o;rw[o];exact Ay rfl (AB ⟨rfl,rfl,λ_=>⟨rfl,C⟩,λh=>nC F h⟩)
 |none=>
  rw[hf]at o;have s:∀b∈B,b.1≠k:=λb O=>mY (qB.1 hf b O);rw[o];have v:=F.1;have y:=F.2;refine AZ rfl (AO N ?_);refine AM (XR (m:=rm) (n:=1) nQ nQ (by rw[C.rused];omega) (by rw[C.rused,C.rlim];exact v) (by rw[C.rlim];exact I)) λt f=>?_;rw[C.rused,C.rlim]at f;have c:tot (B++ [(k,clo p k,fr,wi)])=tot B+(clo p k).length:=by rw[Qi];unfold tot;simp
  have a:(B++ [(k,clo p k,fr,wi)]).length=B.length+1:=nP
  refine AM (Q:=λ(z:Int×DA)=>(Fit L M (B++ [(k,clo p k,fr,wi)])→t.1=0∧z.1=0∧z.2.1=M∧z.2.2.1=((tot B+(clo p k).length:Nat):Int))∧(¬Fit L M (B++ [(k,clo p k,fr,wi)])→z.1=5)) (AR (λd=>?_) λd=>AB ?_) λz G=>?_
  ·refine AM (XR (m:=cl) (n:=(((clo p k).length:Nat):Int)) nJ nJ (by rw[C.cused];omega) (by rw[C.cused,C.clim];exact y) (by rw[C.clim];exact J)) λu j=>AB ?_;rw[C.cused,C.clim]at j;unfold Fit;rw[c,a];refine⟨λh=>⟨eq_of_beq d,(j.1 nJ).1,(j.1 nJ).2.1,by rw[(j.1 nJ).2.2];omega⟩,λh=>?_⟩;rcases rK (M - (tot B:Int)) ((clo p k).length:Int) with q | q
   ·exact(j.2 q).1
   ·exfalso;refine h ⟨?_,nJ⟩;rcases rK (L - (B.length:Int)) 1 with w | w
    ·have:=(f.2 w).1
     rw[this]at d;simp at d
    ·omega
  ·unfold Fit;rw[c,a];have d:¬t.1=0:=by simpa using d
   have P:L - (B.length:Int) <1:=by
    rcases rK (L - (B.length:Int)) 1 with w | w
    ·exact w
    ·exact nC (f.1 w).1 d
   exact⟨λh=>nJ,λ_=>(f.2 P).1⟩
  ·refine Az nN (AB ⟨?_,rfl,λl=>?_,λl=>G.2 l⟩)
   ·dsimp only;rw[a,w64 nJ nJ];omega
   ·have⟨Z,R,S,T⟩:=G.1 l;have A:1≤L - (B.length:Int):=by unfold Fit at l;rw[a]at l;omega
    have⟨t1,t2,t3⟩:=f.1 A;refine⟨R,λH D=>?_,t2,by rw[t3,a];omega,S,by rw[T,c]⟩;rw[DR,YN (x:=(k,clo p k,fr,wi)) s];by_cases e:H=k
    ·rw[mZ (by rw[e]),mZ e];rfl
    ·rw[nA (λh=>e (aK h)),nA e];exact C.map H D
theorem dG{p:As}(V:VPp p){E:List (List Edge)}{n:Nat}{syms:nH}{b:dtK}{s:Int}(H:Inv p n syms (B,E))(j:B[n]? =some b)(x:s∈sy p.2.2.1 b.2.1)(z:syms.length≤1000000)
 (C:QX L M fd rm cl B) (F:Fit L M B) (A:L≤1099511627776) (D:M≤1099511627776) (G:B.length<1099512676352):
 Ok (XN p b (n:Int) s (fd,B,E,rm,cl)) λe=>(Fit L M (Eo p b n (B,E) s).1→ ∃d f g,e= .next (d,(Eo p b n (B,E) s).1,(Eo p b n (B,E) s).2,f,g)∧QX L M d f g (Eo p b n (B,E) s).1)∧(¬Fit L M (Eo p b n (B,E) s).1→e= .done 5):=by
 have⟨I,J⟩:=H.wf b (eE j);have⟨_,_,a,k⟩:=GZ V I;rw[←J]at a k;have K:=(Iv.1 x).1;have l:Kv p.2.2.1 (nx p.2.2.1 b.2.1 s):=⟨λy N=>(Su V a.ok K y N).1,VC a.up s⟩;have O:=H.len;dsimp only at O;have P:=Bt j;obtain⟨e,m⟩:∃e,E[n]? =some e:=⟨_,bD nJ⟩;have Q:e.length=syms.length:=by rw[← (H.cur b e j m).1,oV]
 unfold XN;refine AO (dC V a.ok nJ s)<|AM (add_ok V C F A D l G (fr:=(n:Int)) (wi:=s)) λr R=>?_;obtain⟨r1,v,r3,w⟩:=R;obtain⟨T,U,o,rB,q,t⟩:=r;dsimp only at r1 v r3 w ⊢;subst r1 v;unfold Eo;dsimp only;by_cases i:Fit L M (Fm p B (nx p.2.2.1 b.2.1 s) (n:Int) s).2
 ·have⟨u,S⟩:=r3 i;subst u;have c:(EI E B.length (Fm p B (nx p.2.2.1 b.2.1 s) (n:Int) s).2.length)[n]? =some e:=by
   unfold EI;split
   ·exact m
   ·exact E0 m
  refine AZ rfl (AS c (Az nN (Ex nJ (by have:=Bt c;omega) (AB ⟨λ_=>⟨o,q,t,?_,S⟩,λh=>nC i h⟩))));rw[c,pS];rfl
 ·have u:=w i;subst u;exact Ay rfl (AB ⟨λh=>nC h i,λ_=>rfl⟩)
def gE(p:As)(L:Int):Prop:= ∀n m,(((mid p n m).1.length:Nat):Int) ≤L→(mid p n m).1.length<1099512676352
theorem aN(p:As)(n m:Nat){b:dtK}(a:(stM p n).1[n]? =some b):∃l,(stM p (n+1)).1=(mid p n m).1++l:=by
 rw[←XP a];unfold mid;rw[a];dsimp only;rw[oU (oY _)]
 conv=>rhs;intro l;lhs;rw[←qV m (sy p.2.2.1 b.2.1)]
 unfold EW;rw[rG];exact JS _ _
theorem aO{p:As}(V:VPp p)(D:1≤p.2.2.1.length){n:Nat}{b:dtK}(k:(stM p n).1[n]? =some b)(C:QX L M fd rm cl (stM p n).1)(F:Fit L M (stM p n).1)(K:L≤1099511627776)(N:M≤1099511627776)(O:gE p L):
 Ok (Tv p b (n:Int) (fd,(stM p n).1,(stM p n).2,rm,cl)) λe=>(Fit L M (stM p (n+1)).1→ ∃d f g,e= .next (d,(stM p (n+1)).1,(stM p (n+1)).2,f,g)∧QX L M d f g (stM p (n+1)).1)∧(¬Fit L M (stM p (n+1)).1→e= .done 5):=by
 have H:=Ph V D n;have⟨P,Q⟩:=H.wf b (eE k);have⟨_,_,t,v⟩:=GZ V P;rw[←Q]at t v;have R:=WS p.2.2.1 b.2.1;unfold Tv;refine AO (WR t.ok nJ) (XQ ?_);have a:mid p n 0=stM p n:=by unfold mid;rw[k];rfl
 refine Gs (λm (y:BSt)=>y.2.1=(mid p n m).1∧y.2.2.1=(mid p n m).2∧Fit L M (mid p n m).1∧QX L M y.1 y.2.2.2.1 y.2.2.2.2 (mid p n m).1) (λq=>q=5∧ ¬Fit L M (stM p (n+1)).1) nJ ⟨by rw[a],by rw[a],by rw[a];exact F,by rw[a];exact C⟩ (λm y G w=>?_) (λy w=>AB ?_) λq I=>AB ⟨λh=>nC h I.2,λ_=>by rw[I.1]⟩
 ·obtain⟨fd,B,E,rm,cl⟩:=y;obtain⟨o,r,u,s⟩:=w;dsimp only at o r s ⊢;have⟨S,x⟩:=dD V D k (m:=m);have J:=bD G;have z:=oE G;have i:=aL k J;have j:=O n m u.1;refine AS J ?_;subst o r;refine(dG (B:=(mid p n m).1) (E:=(mid p n m).2) V S x z (by rw[pN];omega) s u K N j).mono λe A=>?_;have T:Eo p b n ((mid p n m).1,(mid p n m).2) (sy p.2.2.1 b.2.1)[m] =mid p n (m+1):=i.symm;rw[T]at A;by_cases c:Fit L M (mid p n (m+1)).1
  ·obtain⟨d,f,g,U,W⟩:=A.1 c;exact .inl ⟨_,U,rfl,rfl,c,W⟩
  ·refine .inr ⟨5,A.2 c,rfl,λh=>c ?_⟩;have⟨l,X⟩:=aN p n (m+1) k;rw[X]at h;exact h.of_app
 ·obtain⟨fd,B,E,rm,cl⟩:=y;obtain⟨o,r,u,s⟩:=w;dsimp only at o r s;rw[XP k]at o r u s;subst o r;exact⟨λ_=>⟨fd,rm,cl,rfl,s⟩,λh=>nC u h⟩
theorem YO{p:As}(V:VPp p)(q:1≤p.2.2.1.length)(C:QX L M fd rm cl (stM p 0).1)(F:Fit L M (stM p 0).1)(r:L≤1099511627776)(s:M≤1099511627776)(t:gE p L):
 Ok (Qg p (fd,(stM p 0).1,(stM p 0).2,rm,cl)) λe=>(∃n a b c,e= .next (a,(stM p n).1,(stM p n).2,b,c)∧(stM p n).1.length≤n∧Fit L M (stM p n).1∧QX L M a b c (stM p n).1)∨(e= .done 5∧ ∃n,¬Fit L M (stM p n).1):=by
 unfold Qg;refine XQ (Bz (λ(z:Int×BSt)=>∃n:Nat,z.1=(n:Int)∧z.2.2.1=(stM p n).1∧z.2.2.2.1=(stM p n).2∧Fit L M (stM p n).1∧QX L M z.2.1 z.2.2.2.2.1 z.2.2.2.2.2 (stM p n).1) (λz=>(L+1 - z.1).toNat) (λe=>(∃n a b c,e= .next (a,(stM p n).1,(stM p n).2,b,c)∧(stM p n).1.length≤n∧Fit L M (stM p n).1∧QX L M a b c (stM p n).1)∨(e= .done 5∧ ∃n,¬Fit L M (stM p n).1)) ⟨0,rfl,rfl,rfl,F,C⟩ (λz u=>?_) λe f=>AB f);obtain⟨i,fd,B,E,rm,cl⟩:=z;obtain⟨n,e0,k,l,h,j⟩:=u;dsimp only at e0 k l j ⊢;subst e0 k l;refine AR (λg=>?_) λg=>BB (.inl ⟨n,fd,rm,cl,rfl,?_,h,j⟩)
 ·have g:=mX g;have v:n< (stM p n).1.length:=nJ
  have m:=bD v;refine AS m (AM (aO V q m j h r s t) λe f=>?_);have w:=h.1;by_cases d:Fit L M (stM p (n+1)).1
  ·obtain⟨a,b,c,x,y⟩:=f.1 d;subst x;have o:oF .i64 ((n:Int)+1)=((n+1:Nat):Int):=by rw[w64 nJ nJ];omega
   refine Bd ⟨⟨n+1,o,rfl,rfl,d,y⟩,?_⟩;dsimp only;rw[o];omega
  ·have:=f.2 d
   subst this;exact BB (.inr ⟨rfl,n+1,d⟩)
 ·have:=mY g
  omega
def held(n:Int):Int:=if n<0 then 0 else if n>1099511627776 then 1099511627776 else n
theorem new_ok(n:Int):Gn n=some (held n,0,0):=by
 refine sV ?_;unfold Gn Jw;refine AO rfl (AB ?_);refine rZ ?_ rfl;dsimp only;unfold held
 split<;>split<;>(try split) <;>(try split) <;>omega
theorem Qj(n:Int):0≤held n∧held n≤1099511627776:=by unfold held;split<;>(try split) <;>omega
noncomputable def gF(p:As)(n:Nat):GQ:=(p.1,p.2.1,p.2.2.1,p.2.2.2.1,p.2.2.2.2.1,p.2.2.2.2.2,Fe (stM p n).1 (stM p n).2,((tot (stM p n).1:Nat):Int))
theorem aQ{p:As}(V:VPp p)(g:1≤p.2.2.1.length){st it:Int}(h:gE p (held st)):
 Ok (RN p st it) λr=>(∃n,(stM p n).1.length≤n∧Fit (held st) (held it) (stM p n).1∧r=(some (gF p n),0))∨(r=(none,5)∧ ∃n,¬Fit (held st) (held it) (stM p n).1):=by
 unfold RN;have b:=Qj st;have c:=Qj it;have i:=(Ph V g 0).wf (k0,clo p k0, -1, -1) (nY.2 rfl);have j:QX (held st) (held it) [] (held st,0,0) (held it,0,0) []:=⟨λk _=>rfl,rfl,rfl,rfl,rfl⟩;refine AO (new_ok st) (AO (new_ok it) (AM (add_ok V j ⟨b.1,c.1⟩ b.2 c.2 i.1 nP) λr l=>?_));obtain⟨r1,d,r3,f⟩:=l;have e:Fm p [] k0 (-1) (-1)=(0,(stM p 0).1):=rfl;rw[e]at r1 d r3 f;obtain⟨C,D,m,rB,o,q⟩:=r;dsimp only at r1 d r3 f ⊢;subst d;by_cases a:Fit (held st) (held it) (stM p 0).1
 ·have⟨s,t⟩:=r3 a;subst s;refine AZ rfl (AM (YO V g t a b.2 c.2 h) λe u=>?_);rcases u with⟨n,v,w,y,rfl,z,A,B⟩|⟨rfl,n,hn⟩
  ·refine AO (x:=((tot (stM p n).1:Nat):Int)) (by unfold Fa;exact nB some B.cused) (AB (.inl ⟨n,z,A,rfl⟩))
  ·exact AB (.inr ⟨rfl,n,hn⟩)
 ·have:=f a
  subst this;exact Ay rfl (AB (.inr ⟨rfl,0,a⟩))
end
section
variable {j:Nat}
theorem Pl.vp{nt e:Nat}{p:As}(H:Pl nt e p):VPp p:=by
 have f:=H.terms.len;obtain⟨st,i,j,g⟩:=H.first;have a:∀r∈p.2.2.1,((nt+1:Nat):Int) ≤r.1∧r.2.1.length≤8∧ ∀s∈r.2.1,0≤s:=λr b=>by
  obtain⟨k,c⟩:=oC b;rcases pY k with rfl | h
  ·rw[g]at c;cases c;refine⟨nO,nP,λs d=>?_⟩
   have:s=st:=by simpa using d
   omega
  ·have:=H.rules k r h c
   exact⟨this.left.1,this.few,λs d=>by have:=this.right s d;omega⟩
 have:=H.room
 exact⟨nJ,λr b=>by rw[f];exact(a r b).1,λr b=>(a r b).2.2,nJ,λr b=>by have:=(a r b).2.1;omega⟩
theorem Pl.pos{nt a:Nat}{p:As}(H:Pl nt a p):1≤p.2.2.1.length:=H.room.1
structure Fin (p:As) (B:List dtK) (E:List (List Edge)):Prop where
 wf:∀b∈B,Kv p.2.2.1 b.1∧b.2.1=clo p b.1
 len:E.length=B.length
 zero:B[0]? =some (k0,clo p k0, -1, -1)
 from_:∀(j:Nat) b,1≤j→B[j]? =some b→ ∃(f:Nat) (bf:dtK) (e:List Edge),f<j∧b.2.2.1=(f:Int)∧B[f]? =some bf∧b.1=nx p.2.2.1 bf.2.1 b.2.2.2∧b.2.2.2∈sy p.2.2.1 bf.2.1∧E[f]? =some e∧(b.2.2.2,(j:Int))∈e
 apart:∀(i j:Nat) bi bj,B[i]? =some bi→B[j]? =some bj→bi.1=bj.1→i=j
 done:∀(j:Nat) b e,B[j]? =some b→E[j]? =some e→Ia p.2.2.1 B b (sy p.2.2.1 b.2.1) e
theorem gG{p:As}(V:VPp p)(c:1≤p.2.2.1.length){n:Nat}(h:(stM p n).1.length≤n):Fin p (stM p n).1 (stM p n).2:=by have H:=Ph V c n;exact⟨H.wf,H.len,H.zero,H.from_,H.apart,λj b e a d=>H.done j b e (by have:=Bt a;omega) a d⟩
abbrev BG(p:As)(B:List dtK)(E:List (List Edge))(t:Int):GQ:=(p.1,p.2.1,p.2.2.1,p.2.2.2.1,p.2.2.2.2.1,p.2.2.2.2.2,Fe B E,t)
section
variable {p:As}{B:List dtK}{E:List (List Edge)}{t:Int}
theorem RU(H:Fin p B E):B6 (BG p B E t)=some (B.length:Int):=by unfold B6;rw[En H.len]
theorem gH{b:dtK}{e:List Edge}(a:B[j]? =some b)(c:E[j]? =some e):(Fe B E)[j]? =some (NV b e):=by unfold Fe;rw[sP,a,c]
theorem XS(H:Fin p B E){b:dtK}{e:List Edge}(a:B[j]? =some b)(d:E[j]? =some e):B0 (BG p B E t) (j:Int)=some (NV b e):=by
 refine sV ?_
 have:=Bt a
 unfold B0;refine AM (Q:=λc=>c=false) (AZ (mV nJ) (AB (mV (by rw[En H.len];omega)))) λc f=>?_;subst f;exact AZ rfl (AS (gH a d) (AB rfl))
theorem Fin.edge(H:Fin p B E){b:dtK}(a:B[j]? =some b):∃e,E[j]? =some e:=⟨_,bD (by have:=Bt a;have:=H.len;omega)⟩
theorem Fin.good(V:VPp p)(H:Fin p B E){b:dtK}(f:B[j]? =some b):Kv p.2.2.1 b.1∧Kv p.2.2.1 b.2.1∧Tx p.2.2.1 b.1 b.2.1∧b.1.length≤10100∧b.2.1.length≤10100:=by have⟨a,g⟩:=H.wf b (eE f);have⟨_,c,d,e⟩:=GZ V a;rw[←g]at c d e;exact⟨a,d,c,GY V a.ok (Lt.nodup a.up),e⟩
theorem VE(V:VPp p)(H:Fin p B E){b:dtK}(a:B[j]? =some b):C1 (BG p B E t) (j:Int)=some b.2.1:=by
 have⟨e,c⟩:=H.edge a
 have:=(H.good V a).2.2.2.2
 refine sV ?_;unfold C1;exact AO (XS H a c) (AO (x:=b.2.1) (by unfold cloneD;rw[mZ nO]) (AB rfl))
theorem Fin.edges_len(V:VPp p)(H:Fin p B E){b:dtK}{e:List Edge}(a:B[j]? =some b)(c:E[j]? =some e):e.length≤10100:=by have d:=(H.done j b e a c).1;have f:=WS p.2.2.1 b.2.1;have g:=(H.good V a).2.2.2.2;rw[←d,oV]at f;omega
theorem VF(V:VPp p)(H:Fin p B E){b:dtK}{e:List Edge}(a:B[j]? =some b)(c:E[j]? =some e):C2 (BG p B E t) (j:Int)=some e:=by
 have:=H.edges_len V a c
 refine sV ?_;unfold C2;exact AO (XS H a c) (AO (x:=e) (by unfold cloneD;rw[mZ nO]) (AB rfl))
def J6(R:Rl)(B:List dtK)(b:dtK)(e:List Edge)(s t:Int):Prop:=
 (s∈sy R b.2.1∧ ∃(q:Nat) (bt:dtK),t=(q:Int)∧1≤q∧B[q]? =some bt∧bt.1=nx R b.2.1 s∧(s,t)∈e)∨(s∉sy R b.2.1∧t= -1)
theorem XT(V:VPp p)(H:Fin p B E){b:dtK}{e:List Edge}(d:B[j]? =some b)(f:E[j]? =some e)(s:Int):Ok (BF (BG p B E t) (j:Int) s) (J6 p.2.2.1 B b e s):=by
 have w:=H.edges_len V d f;have hd:=H.done j b e d f;unfold BF;refine AO (XS H d f)<|J0 e (λ_ x=>x.1==s) (λ_ x=>x.2) nJ (λk x c=>?_) (λl=>AB (.inr ⟨λh=>?_,rfl⟩)) λk x c m _=>AB (.inl ?_)
 ·rw[CD,c,oB];cases x.1==s<;>rfl
 ·rw[←hd.1]at h;have⟨x,c,a⟩:=pH.1 h;obtain⟨k,n⟩:=oC c
  have:=l k x n
  rw[a]at this;simp at this
 ·have a:x.1=s:=eq_of_beq m;have g:=eE c;have⟨q,o,r,u,v,i⟩:=hd.2 x g;rw[a]at i;refine⟨by rw[←hd.1,←a];exact pH.2 ⟨x,g,rfl⟩,q,o,r,u,v,i,?_⟩;rw[←a];exact g
theorem J6.unique(H:Fin p B E){b:dtK}{e:List Edge}{s t1 t2:Int}(g:J6 p.2.2.1 B b e s t1)(h:J6 p.2.2.1 B b e s t2):t1=t2:=by
 rcases g with⟨a,i,j,c,d1,k,l,_⟩|⟨a,c⟩ <;>rcases h with⟨d,m,n,f,d2,o,q,_⟩|⟨d,f⟩
 ·rw[c,f,H.apart i m j n k o (by rw[l,q])]
 ·exact nC a d
 ·exact nC d a
 ·rw[c,f]
inductive Walk (R:Rl) (B:List dtK) (E:List (List Edge)):Int→nH→Int→Prop
 |nil (j:Int):Walk R B E j [] j
 |stop {j:Nat} {b:dtK} {e:List Edge} {s:Int} {l:nH} :B[j]? =some b→E[j]? =some e→J6 R B b e s (-1)→Walk R B E j (s::l) (-1)
 |step {j q:Nat} {b:dtK} {e:List Edge} {s:Int} {l:nH} {t:Int} :B[j]? =some b→E[j]? =some e→J6 R B b e s (q:Int)→q<B.length→Walk R B E (q:Int) l t→Walk R B E j (s::l) t
theorem Walk.unique(H:Fin p B E):∀ {l:nH}{j t1 t2:Int},Walk p.2.2.1 B E j l t1→Walk p.2.2.1 B E j l t2→t1=t2:=by
 intro l
 induction l with
 |nil=>intro j t1 t2 m d;cases m;cases d;rfl
 |cons s l t=>
  intro j t1 t2 m d;cases m with
  | @stop j b e _ _ h i k=>
   generalize u:(j:Int)=j' at d
   cases d with
   |stop=>rfl
   | @step f q n o _ _ _ a c g v r=>
    have:f=j:=nJ
    subst this;rw[h]at a;rw[i]at c;cases a;cases c
    have:=J6.unique H k g
    omega
  | @step j q b e _ _ _ h i k y w=>
   generalize u:(j:Int)=j' at d
   cases d with
   | @stop f n o _ _ a c g=>
    have:f=j:=nJ
    subst this;rw[h]at a;rw[i]at c;cases a;cases c
    have:=J6.unique H k g
    omega
   | @step f x n o _ _ _ a c g v r=>
    have:f=j:=nJ
    subst this;rw[h]at a;rw[i]at c;cases a;cases c
    have:=J6.unique H k g
    have:x=q:=nJ
    subst this;exact t w r
theorem Walk.snoc{l:nH}:∀ {j:Int}{q r:Nat}{b:dtK}{e:List Edge}{s:Int},Walk p.2.2.1 B E j l (q:Int)→B[q]? =some b→E[q]? =some e→J6 p.2.2.1 B b e s (r:Int)→r<B.length→Walk p.2.2.1 B E j (l++ [s]) (r:Int):=by
 induction l with
 |nil=>
  intro j q r b e s h a c d f
  generalize g:(q:Int)=q' at h
  cases h;subst g;exact .step a c d f (.nil _)
 |cons x l i=>
  intro j q r b e s h a c d f
  generalize g:(q:Int)=q' at h
  cases h with
  |stop=>omega
  |step k m n o t=>
   subst g;exact .step k m n o (i t a c d f)
theorem Walk.stops{l:nH}:∀ {j:Int}{q:Nat}{b:dtK}{e:List Edge}{s:Int},Walk p.2.2.1 B E j l (q:Int)→B[q]? =some b→E[q]? =some e→J6 p.2.2.1 B b e s (-1)→ ∀m,Walk p.2.2.1 B E j (l++s::m) (-1):=by
 induction l with
 |nil=>
  intro j q b e s h a c d m
  generalize f:(q:Int)=q' at h
  cases h;subst f;exact .stop a c d
 |cons x l g=>
  intro j q b e s h a c d m
  generalize f:(q:Int)=q' at h
  cases h with
  |stop=>omega
  |step i k n o r=>
   subst f;exact .step i k n o (g r a c d m)
theorem dH(V:VPp p)(H:Fin p B E)(C:j<B.length){l:nH}(I:l.length≤1000000):Ok (Cf (BG p B E t) (j:Int) l) λr=>Walk p.2.2.1 B E (j:Int) l r∧(r= -1∨ ∃q:Nat,r=(q:Int)∧q<B.length):=by
 unfold Cf;refine AM (Q:=λc=>c=false) (AZ (mV nJ) (AB (mV (by rw[En H.len];omega)))) λc D=>?_;subst D;refine AZ rfl ?_;have m:Ok ((C6 (σ:=Int) (β:=Int) (0:Int) (l.length:Int) (j:Int) λd F=>
  (idx l d).bind λn=>
  (BF (BG p B E t) F n).bind λt8=>
  cond (decide (t8< (0:Int)))
  (some (sI t8))
  (some (sJ t8))).bind some) (λr=>Walk p.2.2.1 B E (j:Int) l (tX r)∧(tX r= -1∨ ∃q:Nat,tX r=(q:Int)∧q<B.length)):=by
  refine Gs (λk (z:Int)=>∃q:Nat,z=(q:Int)∧q<B.length∧Walk p.2.2.1 B E (j:Int) (l.take k) (q:Int)) (λr=>r= -1∧Walk p.2.2.1 B E (j:Int) l (-1)) nJ ⟨j,rfl,C,.nil _⟩ (λk z w s=>?_) (λz s=>AB ?_) λr a=>AB ⟨by show Walk p.2.2.1 B E (j:Int) l r;rw[a.1];exact a.2,.inl a.1⟩
  ·obtain⟨q,rfl,u,f⟩:=s;have h:=bD w;have i:=bD u;have⟨e,v⟩:=H.edge i;refine AS h (AM (XT V H i v l[k]) λt y=>?_);have g:=y;rcases y with⟨_,r,J,b,A,G,_⟩|⟨_,b⟩
   ·subst b;have a:=Bt G;refine AZ (mV nJ) (Bd ⟨r,rfl,a,?_⟩);rw[pC,h];exact f.snoc i v g a
   ·subst b;refine Ay rfl (BB ⟨rfl,?_⟩)
    have:=f.stops i v g (l.drop (k+1))
    rw[show l[k]::l.drop (k+1)=l.drop k from(qZ w).symm,qV]at this;exact this
  ·obtain⟨q,rfl,u,f⟩:=s;rw[oU (oY _)]at f;exact⟨f,.inr ⟨q,rfl,u⟩⟩
 obtain⟨r,b,A⟩:=m;rw[show ∀o:Option (AX Int Int),o.bind some=o from λo=>by cases o<;>rfl]at b
 refine AM (Q:=λr=>Walk p.2.2.1 B E (j:Int) l r∧(r= -1∨ ∃q:Nat,r=(q:Int)∧q<B.length)) ⟨tX r,?_,A⟩ λx h=>AB h;rw[b];rfl
end
end
section
variable {r:Ap}
inductive Nul (R:Rl):Int→Prop
 |rule {r:Ap} :r∈R→(∀s∈r.2.1,Nul R s)→Nul R r.1
inductive Pro (nT:Int) (R:Rl):Int→Prop
 |term {s:Int} :0≤s→s<nT→Pro nT R s
 |rule {r:Ap} :r∈R→(∀s∈r.2.1,Pro nT R s)→Pro nT R r.1
structure Gr (nT:Int) (R:Rl):Prop where
 pos:0<nT
 zero:∃r st,R[0]? =some r∧r.2.1= [st] ∧nT≤st∧(∀r'∈R,r.1∉r'.2.1)∧ ∀k r',R[k]? =some r'→r'.1=r.1→k=0
 left:∀r∈R,nT≤r.1
 right:∀r∈R,∀s∈r.2.1,0<s
 pro:∀r∈R,∀s∈r.2.1,Pro nT R s
def Pth(Tr:Nat→Int→Nat→Prop):Nat→nH→Nat→Prop
 |n,[],m=>n=m
 |n,s::l,m=>∃q,Tr n s q∧Pth Tr q l m
theorem Pth.app{Tr:Nat→Int→Nat→Prop}:∀ {l l':nH}{n m:Nat},Pth Tr n (l++l') m↔∃q,Pth Tr n l q∧Pth Tr q l' m:=by
 intro l
 induction l with
 |nil=>intro l' n m;exact⟨λh=>⟨n,rfl,h⟩,λ⟨q,a,b⟩=>by cases a;exact b⟩
 |cons s l e=>
  intro l' n m;constructor
  ·rintro⟨q,a,b⟩;have⟨p,c,d⟩:=e.1 b;exact⟨p,⟨q,a,c⟩,d⟩
  ·rintro⟨p,⟨q,a,c⟩,d⟩;exact⟨q,a,e.2 ⟨p,c,d⟩⟩
structure Aut (R:Rl) (S:Nat→Prop) (K:Nat→List Item) (Tr:Nat→Int→Nat→Prop):Prop where
 ok:∀ {n x},S n→x∈K n→OkI R x
 kern:∀ {n x},S n→x∈K n→(x=(0,0)∧n=0)∨1≤x.2
 zero:∀x,x∈K 0↔x=(0,0)
 s0:S 0
 st:∀ {n s m},Tr n s m→S n∧S m∧1≤m∧0≤s
 go:∀ {n x},S n→Cl R (K n) x→0≤beh R x→ ∃m,Tr n (beh R x) m
 into:∀ {n s m x},Tr n s m→(x∈K m↔∃y,Cl R (K n) y∧beh R y=s∧x=(y.1,y.2+1))
 some_:∀ {n s m},Tr n s m→ ∃y,Cl R (K n) y∧beh R y=s
 fn:∀ {n s m m'},Tr n s m→Tr n s m'→m=m'
 reach:∀ {n},S n→ ∃l,Pth Tr 0 l n
def It(R:Rl)(K:Nat→List Item)(n k d:Nat):Prop:=Cl R (K n) ((k:Int),(d:Int))
theorem Oo(R:Rl)(k d:Nat)(h:R[k]? =some r):beh R ((k:Int),(d:Int))=(r.2.1[d]?).getD (-1):=by unfold beh;dsimp only;rw[pS,pS,h]
theorem Ga{nT:Int}{R:Rl}(G:Gr nT R){k d:Nat}{s:Int}(h:beh R ((k:Int),(d:Int))=s)(a:0≤s):∃r,R[k]? =some r∧r.2.1[d]? =some s:=by
 cases hr:R[k]? with
 |none=>unfold beh at h;dsimp only at h;rw[pS,hr]at h;dsimp only at h;omega
 |some r=>
  rw[Oo R k d hr]at h;refine⟨r,rfl,?_⟩;cases hd:r.2.1[d]? with
  |none=>rw[hd]at h;simp at h;omega
  |some x=>rw[hd]at h;simp at h;rw[h]
section
variable {nT:Int}{R:Rl}{S:Nat→Prop}{K:Nat→List Item}{Tr:Nat→Int→Nat→Prop}
theorem Aut.form(A:Aut R S K Tr){n:Nat}(a:S n){x:Item}(h:Cl R (K n) x):∃k d:Nat,x=((k:Int),(d:Int))∧It R K n k d∧ ∃r,R[k]? =some r∧d≤r.2.1.length:=by have⟨g,i,r,b,c⟩:=Cl.ok (λx f=>A.ok a f) h;have e:x=((x.1.toNat:Int),(x.2.toNat:Int)):=rZ (by simp only;omega) (by simp only;omega);exact⟨x.1.toNat,x.2.toNat,e,by unfold It;rw[←e];exact h,r,b,c⟩
theorem Aut.step(G:Gr nT R)(A:Aut R S K Tr){n k d:Nat}{s:Int}(f:S n)(h:It R K n k d)(c:R[k]? =some r)(e:r.2.1[d]? =some s):∃m,Tr n s m∧It R K m k (d+1):=by
 have a:beh R ((k:Int),(d:Int))=s:=by rw[Oo R k d c,e];rfl
 have g:0<s:=G.right r (eE c) s (eE e);obtain⟨m,b⟩:=A.go f h (by rw[a];omega);rw[a]at b;exact⟨m,b,.base ((A.into b).2 ⟨_,h,a,rfl⟩)⟩
theorem Aut.clos{n k d j:Nat}{a:Ap}{s:Int}(h:It R K n k d)(b:R[k]? =some r)(c:r.2.1[d]? =some s)(e:R[j]? =some a)(f:a.1=s):It R K n j 0:=
 .step h e (by rw[Oo R k d b,c,f];rfl)
theorem Aut.back(G:Gr nT R)(A:Aut R S K Tr){n m k d:Nat}{s:Int}(a:Tr n s m)(h:It R K m k (d+1)):It R K n k d∧ ∃r,R[k]? =some r∧r.2.1[d]? =some s:=by
 unfold It at h
 generalize b:(((k:Int),((d+1:Nat):Int)):Item)=x at h
 cases h with
 |base h=>
  obtain⟨y,c,f,g⟩:=(A.into a).1 h;subst b;have⟨i,j⟩:=Prod.mk.inj g;have e:y=((k:Int),(d:Int)):=rZ (by simp only;omega) (by simp only;omega);subst e;exact⟨c,Ga G f (A.st a).2.2.2⟩
 |step _ _ _=>have:=(Prod.mk.inj b).2;omega
theorem Aut.at0(A:Aut R S K Tr){l:nH}{n m:Nat}(a:S n)(h:Pth Tr n l m):S m:=by
 induction l generalizing n with
 |nil=>cases h;exact a
 |cons s l b=>obtain⟨q,c,d⟩:=h;exact b (A.st c).2.1 d
theorem Pth.fn(A:Aut R S K Tr){l:nH}{n m c:Nat}(h:Pth Tr n l m)(d:Pth Tr n l c):m=c:=by
 induction l generalizing n with
 |nil=>cases h;cases d;rfl
 |cons s l e=>obtain⟨q,f,g⟩:=h;obtain⟨i,a,b⟩:=d;cases A.fn f a;exact e g b
theorem Aut.along(G:Gr nT R)(A:Aut R S K Tr){k:Nat}(b:R[k]? =some r):∀ {l:nH}{n d:Nat},S n→It R K n k d→r.2.1.drop d=l→ ∃m,Pth Tr n l m∧It R K m k (d+l.length):=by
 intro l
 induction l with
 |nil=>intro n d _ h _;exact⟨n,rfl,h⟩
 |cons s l c=>
  intro n d e h hd;have f:r.2.1[d]? =some s:=by
   have:=nB (λl=>l[0]?) hd
   simpa using this
  have⟨q,a,g⟩:=A.step G e h b f;obtain⟨m,i,j⟩:=c (d:=d+1) (A.st a).2.1 g (by
   have:=nB (List.drop 1) hd
   simpa using this)
  exact⟨m,⟨q,a,i⟩,by rw[oD,show d+(l.length+1)=d+1+l.length by omega];exact j⟩
theorem Aut.part(G:Gr nT R)(A:Aut R S K Tr){n m k:Nat}(b:S n)(f:R[k]? =some r)(h:It R K n k 0){l l':nH}(g:r.2.1=l++l')(c:Pth Tr n l m):It R K m k l.length:=by
 have⟨q,a,i⟩:=A.along G f b h (l:=r.2.1) rfl;rw[g]at a;obtain⟨u,j,_⟩:=Pth.app.1 a;have e:∀(l:nH) (n d m:Nat),S n→It R K n k d→(∃l',r.2.1.drop d=l++l')→Pth Tr n l m→It R K m k (d+l.length):=by
  intro l
  induction l with
  |nil=>intro n d m _ h _ c;cases c;exact h
  |cons s l o=>
   intro n d m b h ⟨l',hd⟩ ⟨q,a,i⟩;have p:r.2.1[d]? =some s:=by
    have:=nB (λl=>l[0]?) hd
    simpa using this
   obtain⟨v,j,t⟩:=A.step G b h f p;cases A.fn a j
   have:=o q (d+1) m (A.st a).2.1 t ⟨l',by
    have:=nB (List.drop 1) hd
    simpa using this⟩ i
   rw[oD,show d+(l.length+1)=d+1+l.length by omega];exact this
 have:=e l n 0 m b h ⟨l',g⟩ c
 rwa [Nat.zero_add]at this
theorem Aut.behind(G:Gr nT R)(A:Aut R S K Tr){k:Nat}:∀ {d:Nat}{l:nH}{m:Nat},Pth Tr 0 l m→It R K m k d→ ∃(b:nH) (q:Nat) (r:Ap),R[k]? =some r∧l=b++r.2.1.take d∧Pth Tr 0 b q∧Pth Tr q (r.2.1.take d) m∧It R K q k 0∧d≤r.2.1.length:=by
 intro d
 induction d with
 |zero=>
  intro l m a h;obtain⟨t,E,e,_,r,c,_⟩:=A.form (A.at0 A.s0 a) h;have⟨i,_⟩:=Prod.mk.inj e;have i:k=t:=nJ
  subst i;exact⟨l,m,r,c,nP,a,by simp[Pth],h,Nat.zero_le _⟩
 |succ d u=>
  intro l m a h;rcases List.eq_nil_or_concat l with rfl | ⟨l',s,rfl⟩
  ·cases a;exfalso;unfold It at h
   generalize f:(((k:Int),((d+1:Nat):Int)):Item)=x at h
   cases h with
   |base h=>rw[(A.zero _).1 h]at f;have:=(Prod.mk.inj f).2;omega
   |step _ _ _=>have:=(Prod.mk.inj f).2;omega
  ·rw[List.concat_eq_append]at a ⊢;have⟨n,v,q,c,w⟩:=Pth.app.1 a;cases w;have⟨y,r,j,g⟩:=A.back G c h;obtain⟨b,p,F,o,z,B,C,D,H⟩:=u v y;rw[j]at o;cases o;refine⟨b,p,r,j,?_,B,?_,D,(hM.1 g).1⟩
   ·rw[z,mE,pC,g];rfl
   ·rw[pC,g];exact Pth.app.2 ⟨n,C,m,c,rfl⟩
inductive Rdd (nT:Int) (R:Rl) (K:Nat→List Item) (Tr:Nat→Int→Nat→Prop):Nat→Int→Prop
 |term {m q:Nat} {t:Int} :Tr m t q→t<nT→Rdd nT R K Tr m t
 |fin {m:Nat} :It R K m 0 1→Rdd nT R K Tr m 0
 |next {m q:Nat} {c t:Int} :Tr m c q→nT≤c→Nul R c→Rdd nT R K Tr q t→Rdd nT R K Tr m t
inductive Fol (nT:Int) (R:Rl) (K:Nat→List Item) (Tr:Nat→Int→Nat→Prop):Nat→Int→Int→Prop
 |read {n m:Nat} {a t:Int} :Tr n a m→Rdd nT R K Tr m t→Fol nT R K Tr n a t
 |incl {n m q k:Nat} {a t:Int} {r:Ap} {b g:nH} :Tr n a m→R[k]? =some r→r.2.1=b++a::g→(∀s∈g,Nul R s)→It R K q k 0→Pth Tr q b n→Fol nT R K Tr q r.1 t→Fol nT R K Tr n a t
def Lk(nT:Int)(R:Rl)(K:Nat→List Item)(Tr:Nat→Int→Nat→Prop)(s k:Nat)(t:Int):Prop:=
 (k=0∧t=0∧It R K s 0 1)∨(0<k∧ ∃(n m:Nat) (r:Ap),R[k]? =some r∧Tr n r.1 m∧Pth Tr n r.2.1 s∧Fol nT R K Tr n r.1 t)
theorem Nul.var(G:Gr nT R){s:Int}(h:Nul R s):nT≤s:=by
 cases h with
 |rule h _=>exact G.left _ h
theorem RV(G:Gr nT R){k d:Nat}{a:Ap}(b:R[0]? =some a)(c:R[k]? =some r):r.2.1[d]?≠some a.1:=by obtain⟨z,st,e,g,i,f,j⟩:=G.zero;rw[e]at b;cases b;exact λh=>f r (eE c) (eE h)
theorem Aut.top(G:Gr nT R)(A:Aut R S K Tr){n k:Nat}(b:S n)(p:0<k)(h:It R K n k 0):∃(j d:Nat) (r a:Ap),It R K n j d∧R[k]? =some r∧R[j]? =some a∧a.2.1[d]? =some r.1:=by
 unfold It at h
 generalize c:(((k:Int),((0:Nat):Int)):Item)=x at h
 cases h with
 |base h=>
  subst c;rcases A.kern b h with⟨e,_⟩|e
  ·have:=(Prod.mk.inj e).1;omega
  ·dsimp only at e;omega
 | @step y g r h f i=>
  have e:=(Prod.mk.inj c).1;have e:k=g:=nJ
  subst e;obtain⟨j,d,rfl,l,_⟩:=A.form b h;have q:=G.left r (eE f);have s:=G.pos;obtain⟨a,m,o⟩:=Ga G i.symm nJ;exact⟨j,d,r,a,l,f,m,o⟩
theorem Aut.starts(G:Gr nT R)(A:Aut R S K Tr){n m k:Nat}(a:R[k]? =some r)(h:Tr n r.1 m):0<k∧It R K n k 0:=by have⟨y,f,g⟩:=A.some_ h;obtain⟨j,d,rfl,i,_⟩:=A.form (A.st h).1 f;obtain⟨l,b,c⟩:=Ga G g (A.st h).2.2.2;refine⟨Nat.pos_of_ne_zero λe=>?_,Aut.clos i b c a rfl⟩;subst e;exact RV G a b c
theorem Hx{l:nH}{d:Nat}{s:Int}(h:l[d]? =some s):l=l.take d++s::l.drop (d+1):=by
 have a:=(hM.1 h).1;have e:=(hM.1 h).2
 conv=>lhs;rw[←qV d l,qZ a,e]
theorem Fol.tr{n:Nat}{a t:Int}(h:Fol nT R K Tr n a t):∃m,Tr n a m:=by
 cases h with
 |read h _=>exact⟨_,h⟩
 |incl h _ _ _ _ _ _=>exact⟨_,h⟩
inductive Fs (nT:Int) (R:Rl):nH→Int→Prop
 |term {s:Int} {l:nH} :s<nT→Fs nT R (s::l) s
 |var {s t:Int} {l:nH} {r:Ap} :r∈R→r.1=s→Fs nT R r.2.1 t→Fs nT R (s::l) t
 |skip {s t:Int} {l:nH} :Nul R s→Fs nT R l t→Fs nT R (s::l) t
inductive Fw (nT:Int) (R:Rl):Int→Int→Prop
 |zero {r:Ap} :R[0]? =some r→Fw nT R r.1 0
 |first {r:Ap} {b g:nH} {a t:Int} :r∈R→r.2.1=b++a::g→Fs nT R g t→Fw nT R a t
 |left {r:Ap} {b g:nH} {a t:Int} :r∈R→r.2.1=b++a::g→(∀s∈g,Nul R s)→Fw nT R r.1 t→Fw nT R a t
theorem Oq{l:nH}{d:Nat}{s:Int}(h:l[d]? =some s):l.drop d=s::l.drop (d+1):=by have a:=(hM.1 h).1;rw[qZ a,(hM.1 h).2]
theorem XU(G:Gr nT R)(A:Aut R S K Tr){n:Nat}(a:S n)(m:1≤n):¬It R K n 0 0:=by
 intro h;unfold It at h
 generalize b:(((0:Nat):Int),((0:Nat):Int))=x at h
 cases h with
 |base h=>
  subst b;rcases A.kern a h with⟨_,e⟩|e
  ·omega
  ·dsimp only at e;omega
 | @step y k r f c g=>
  have e:=(Prod.mk.inj b).1;have e:k=0:=nJ
  subst e;obtain⟨j,d,rfl,o,_⟩:=A.form a f;have p:=G.pos;have q:=G.left r (eE c);obtain⟨s,i,l⟩:=Ga G g.symm nJ;exact RV G c i l
theorem dI{s:Nat}{t:Int}(h:Lk nT R K Tr s 0 t):t=0:=by
 rcases h with⟨_,h,_⟩|⟨h,_⟩
 ·exact h
 ·omega
end
end
def KB(B:List dtK)(n:Nat):List Item:=match B[n]? with
 |some b=>b.1
 |none=>[]
def SB(B:List dtK)(n:Nat):Prop:=n<B.length
def TrB(p:As)(B:List dtK)(E:List (List Edge))(n:Nat)(s:Int)(m:Nat):Prop:= ∃b e,B[n]? =some b∧E[n]? =some e∧J6 p.2.2.1 B b e s (m:Int)
section
variable {p:As}{B:List dtK}{E:List (List Edge)}
theorem RX{n:Nat}{b:dtK}(h:B[n]? =some b):KB B n=b.1:=by unfold KB;rw[h]
theorem J6.to{b:dtK}{e:List Edge}{s:Int}{m:Nat}(h:J6 p.2.2.1 B b e s (m:Int)):s∈sy p.2.2.1 b.2.1∧1≤m∧ ∃a,B[m]? =some a∧a.1=nx p.2.2.1 b.2.1 s∧(s,(m:Int))∈e:=by
 rcases h with⟨c,q,a,j,d,f,g,i⟩|⟨_,h⟩
 ·have e:m=q:=nJ
  subst e;exact⟨c,d,a,f,g,i⟩
 ·omega
theorem Gb(V:VPp p)(H:Fin p B E){n:Nat}{b:dtK}(a:B[n]? =some b)(x:Item):x∈b.2.1↔Cl p.2.2.1 (KB B n) x:=by rw[RX a];exact(H.good V a).2.2.1.mem x
theorem HP(V:VPp p)(H:Fin p B E):Aut p.2.2.1 (SB B) (KB B) (TrB p B E) where
 ok {n x} hn hx:=by
  have a:=bD (l:=B) hn;rw[RX a]at hx;exact(H.good V a).1.ok x hx
 kern {n x} hn hx:=by
  have a:=bD (l:=B) hn;rw[RX a]at hx;rcases pY n with rfl | h
  ·have:=H.zero
   rw[a]at this;rw[Option.some.inj this]at hx;exact .inl ⟨by simpa[k0]using hx,rfl⟩
  ·have⟨f,F,e,d,k,c,g,w,G,I⟩:=H.from_ n _ h a;rw[g]at hx;exact .inr (Su V (H.good V c).2.1.ok (Iv.1 w).1 x hx).2
 zero x:=by rw[RX H.zero];simp[k0]
 s0:=Bt H.zero
 st {n s m} h:=by
  obtain⟨b,e,a,i,j⟩:=h;obtain⟨d,k,z,c,_⟩:=j.to;exact⟨Bt a,Bt c,k,(Iv.1 d).1⟩
 go {n x} hn hx K:=by
  have a:=bD (l:=B) hn;have⟨e,i⟩:=H.edge a;have A:beh p.2.2.1 x∈sy p.2.2.1 B[n].2.1:=Iv.2 ⟨K,x,(Gb V H a x).2 hx,rfl⟩;have hd:=H.done n _ e a i;rw[←hd.1]at A;obtain⟨y,J,o⟩:=pH.1 A;have⟨t,z,d,k,c,g⟩:=hd.2 y J;refine⟨t,_,e,a,i,.inl ⟨?_,t,z,rfl,k,c,?_,?_⟩⟩
  ·rw[←hd.1];exact A
  ·rw[←o];exact g
  ·rw[←o,←d];exact J
 into {n s m x} h:=by
  obtain⟨b,e,a,i,j⟩:=h;obtain⟨d,k,z,c,g,_⟩:=j.to;rw[RX c,g,RT];constructor
  ·rintro⟨y,q,r,C⟩;exact⟨y,(Gb V H a y).1 q,r,C⟩
  ·rintro⟨y,q,r,C⟩;exact⟨y,(Gb V H a y).2 q,r,C⟩
 some_ {n s m} h:=by
  obtain⟨b,e,a,i,j⟩:=h;obtain⟨y,q,r⟩:=(Iv.1 j.to.1).2;exact⟨y,(Gb V H a y).1 q,r⟩
 fn {n s m m'} h h':=by
  obtain⟨b,e,a,i,j⟩:=h;obtain⟨N,O,u,v,D⟩:=h';rw[a]at u;rw[i]at v;cases u;cases v
  have:=J6.unique H j D
  omega
 reach {n} hn:=by
  induction n using rT with
  |_ n L=>
   rcases pY n with rfl | h
   ·exact⟨[],rfl⟩
   ·have a:=bD (l:=B) hn;have⟨f,F,e,d,k,c,g,w,G,I⟩:=H.from_ n _ h a;obtain⟨l,M⟩:=L f d (Bt c);exact⟨l++ [B[n].2.2.2],Pth.app.2 ⟨f,M,n,⟨F,e,c,G,.inl ⟨w,n,_,rfl,h,a,g,I⟩⟩,rfl⟩⟩
theorem aR(H:Fin p B E):∀ {l:nH}{n m:Nat},n<B.length→(Walk p.2.2.1 B E (n:Int) l (m:Int)↔Pth (TrB p B E) n l m):=by
 intro l
 induction l with
 |nil=>
  intro n m o;constructor
  ·intro h
   generalize r:(n:Int)=n' at h
   generalize g:(m:Int)=m' at h
   cases h
   have:n=m:=nJ
   exact this
  ·rintro rfl;exact .nil _
 |cons s l i=>
  intro n m o;constructor
  ·intro h
   generalize r:(n:Int)=n' at h
   generalize g:(m:Int)=m' at h
   cases h with
   |stop _ _ _=>omega
   | @step j q b e _ _ _ c d a f t=>
    have e:n=j:=nJ
    subst e;subst g;exact⟨q,⟨b,_,c,d,a⟩,(i f).1 t⟩
  ·rintro⟨q,⟨b,e,c,d,a⟩,u⟩;obtain⟨_,_,v,k,_⟩:=a.to;exact .step c d a (Bt k) ((i (Bt k)).2 u)
theorem iU{nt i:Nat}(G:Pl nt i p)(l:∀v:Nat,v<p.2.1.length→Pro (p.1.length:Int) p.2.2.1 ((p.1.length+v:Nat):Int)):Gr (p.1.length:Int) p.2.2.1:=by
 have o:=G.terms.len;obtain⟨st,q,t,j⟩:=G.first;have a:∀(k:Nat) r,p.2.2.1[k]? =some r→(k=0∧r=(((nt+1+p.2.1.length:Nat):Int),[st],0))∨(1≤k∧Pr nt p.2.1.length i r):=λk r b=>by
  rcases pY k with rfl | h
  ·rw[j]at b;exact .inl ⟨rfl,(Option.some.inj b).symm⟩
  ·exact .inr ⟨h,G.rules k r h b⟩
 have syms:∀r∈p.2.2.1,∀s∈r.2.1,0<s∧s< ((nt+1+p.2.1.length:Nat):Int):=λr c s d=>by
  obtain⟨k,b⟩:=oC c;rcases a k r b with⟨_,rfl⟩|⟨_,h⟩
  ·simp at d;subst d;omega
  ·exact h.right s d
 refine⟨nJ,⟨_,st,j,rfl,nJ,λf g m=>?_,λk f b n=>?_⟩,λr c=>?_,λr c s d=>(syms r c s d).1,λr c s d=>?_⟩
 ·have:=syms f g _ m
  dsimp only at this;omega
 ·rcases a k f b with⟨h,_⟩|⟨_,h⟩
  ·exact h
  ·have:=h.left
   dsimp only at n;omega
 ·obtain⟨k,b⟩:=oC c;rcases a k r b with⟨_,rfl⟩|⟨_,h⟩
  ·dsimp only;omega
  ·have:=h.left;omega
 ·have:=syms r c s d
  by_cases h:s< (p.1.length:Int)
  ·exact .term nJ h
  ·have e:s=((p.1.length+(s.toNat - p.1.length):Nat):Int):=nJ
   rw[e];exact l _ nJ
end
end Go.Proofs.YtfnppeejaimnbaaGreatDoor
namespace Go.Proofs.YtfnppeejaimnbaaGreatDoor
open Go Go.Eng Dg
abbrev dtP:Type:=As
abbrev dtA:Type:=GQ
noncomputable def YP(ss:List Ae)(x y:Int):Option (Bool×List Ae):=(idx ss x).bind λs=>(idx ss y).bind λo=>need (OkS s∧OkS o)<|some (F9 s o,ss.set x.toNat (BT s o))
noncomputable def dJ(ss:List Ae)(x:Int)(o:Ae):Option (Bool×List Ae):=(idx ss x).bind λs=>need (OkS s∧OkS o)<|some (F9 s o,ss.set x.toNat (BT s o))
def nT(p:dtP):Int:=(p.1.length:Int)
noncomputable def Ma(p:dtP)(m:Int)(null:List Bool)(x:Int)(ss:List Ae)(seq:nH):Option (Bool×Bool×List Ae):=
 (C6 (σ:=Bool×List Ae) (β:=Bool×Bool×List Ae) 0 (seq.length:Int) (false,ss) λi z=>
  (idx seq i).bind λsym=>(Bp p sym).bind λt=>
  cond t
   ((DY (nT p) [sym]).bind λo=>(dJ z.2 x o).bind λu=>some (.done (u.1 || z.1,false,u.2)))
   (need (oF .i64 (sym - nT p) <m)<|(YP z.2 x (oF .i64 (sym - nT p))).bind λu=>(idx null (oF .i64 (sym - nT p))).bind λb=>
    cond b (some (.next (u.1 || z.1,u.2))) (some (.done (u.1 || z.1,false,u.2))))).bind λe=>match e with
 |.next z=>some (z.1,true,z.2)
 |.done r=>some r
noncomputable def RY(p:dtP)(m:Int)(null:List Bool)(ss:List Ae):Option (Bool×List Bool×List Ae):=forS (σ:=Bool×List Bool×List Ae) 0 (p.2.2.1.length:Int) (false,null,ss) λi z=>(idx p.2.2.1 i).bind λr=>need (0≤oF .i64 (r.1 - nT p)∧oF .i64 (r.1 - nT p) <m)<|(Ma p m z.2.1 (oF .i64 (r.1 - nT p)) z.2.2 r.2.1).bind λg=>(idx z.2.1 (oF .i64 (r.1 - nT p))).bind λb=>(DQ z.2.1 (oF .i64 (r.1 - nT p)) (b || g.2.1)).bind λa=>some (z.1 || g.1 || (g.2.1 && !b),a,g.2.2)
noncomputable def Ot(p:dtP)(m:Int)(null:List Bool)(ss:List Ae):Option (Bool×List Ae):=forS (σ:=Bool×List Ae) 0 (p.2.2.1.length:Int) (false,ss) λi z=>(idx p.2.2.1 i).bind λr=>forS (σ:=Bool×List Ae) 0 (r.2.1.length:Int) z λj z=>(idx r.2.1 j).bind λsym=>(Bp p sym).bind λt=>cond t (some z) (need (0≤oF .i64 (sym - nT p)∧oF .i64 (sym - nT p) <m)<|(Ma p m null (m+oF .i64 (sym - nT p)) z.2 (r.2.1.drop (j+1).toNat)).bind λg=>(cond g.2.1 (need (0≤oF .i64 (r.1 - nT p)∧oF .i64 (r.1 - nT p) <m)<|(YP g.2.2 (m+oF .i64 (sym - nT p)) (m+oF .i64 (r.1 - nT p))).bind λu=>some (u.1 || g.1,u.2)) (some (g.1,g.2.2))).bind λh=>some (z.1 || h.1,h.2))
noncomputable def Pi(p:dtP):Option (List Ae):=forS (σ:=List Ae) 0 (oF .i64 ((p.2.1.length:Int)+1)) [] λ_ a=>(CN (nT p)).bind λs=>app a [s]
noncomputable def Lz(ss:List Ae):Option (List nH):=forS (σ:=List nH) 0 (ss.length:Int) [] λi a=>(idx ss i).bind λs=>(Kc s).bind λl=>app a [l]
abbrev dtF:Type:=ec
noncomputable def RZ(p:dtP):Option dtF:=(EC (oF .i64 ((p.2.1.length:Int)+1)) false).bind λnull=>(Pi p).bind λf=>(Pi p).bind λg=>(loop (σ:=Int×List Bool×List Ae) (β:=Int×List Bool×List Ae) (1,null,f++g) λz=>(RY p (f.length:Int) z.2.1 z.2.2).bind λr=>cond r.1 (some (.next (oF .i64 (z.1+1),r.2))) (some (.done (z.1,r.2)))).bind λz=>(idx (z.2.2.drop f.length) (p.2.1.length:Int)).bind λs=>(Aw s 0).bind λa=>(loop (σ:=List Ae) (β:=List Ae) (z.2.2.set (f.length+p.2.1.length) a.2) λss=>(Ot p (f.length:Int) z.2.1 ss).bind λr=>cond r.1 (some (.next r.2)) (some (.done r.2))).bind λss=>(Lz (ss.take f.length)).bind λa=>(Lz (ss.drop f.length)).bind λb=>some (z.2.1,a,b,z.1)
end Go.Proofs.YtfnppeejaimnbaaGreatDoor
namespace Go.Proofs.YtfnppeejaimnbaaGreatDoor.Dg
open Go Go.Eng
section
variable {i:Nat}
abbrev E5:Int:=9223372036854775807
def lv(low:nH)(v:Int):Int:=(idx low v).getD 0
theorem Pj{low:nH}{v:Int}(a:0≤v)(b:v< (low.length:Int)):idx low v=some (lv low v):=by
 have:idx low v=some low[v.toNat]:=MU a nJ
 unfold lv;rw[this];rfl
theorem aT{low:nH}{v:Int}(h:v<0∨(low.length:Int) ≤v):lv low v=0:=by
 unfold lv idx;split
 ·rw[oO nJ];rfl
 ·rfl
theorem Tz{low:nH}{x e:Int}(b:0≤x)(c:x< (low.length:Int))(v:Int):lv (low.set x.toNat e) v=if v=x then e else lv low v:=by
 by_cases a:v=x
 ·subst a;rw[mZ rfl];unfold lv idx;rw[mZ b,qY,mZ rfl,mZ nJ];rfl
 ·rw[nA a];unfold lv idx;split
  ·rw[qY,nA nJ]
  ·rfl
inductive Reach (ll:List nH) (n:Int):Int→Int→Prop where
 |refl (x:Int):Reach ll n x x
 |step {x y z:Int} :y∈DO ll x n→Reach ll n y z→Reach ll n x z
theorem Reach.trans{ll:List nH}{n x y z:Int}(h:Reach ll n x y)(k:Reach ll n y z):Reach ll n x z:=by
 induction h with
 |refl=>exact k
 |step e _ a=>exact .step e (a k)
theorem Reach.one{ll:List nH}{n x y:Int}(h:y∈DO ll x n):Reach ll n x y:=.step h (.refl _)
theorem J7{ll:List nH}{n x y:Int}(h:y∈DO ll x n):0≤y∧y<n:=by
 unfold DO at h;split at h
 ·cases h
 ·have:=(sN.1 h).2
  unfold Lr at this;simp at this;omega
theorem Reach.closed{ll:List nH}{n:Int}{D:Int→Prop}(a:∀v w,D v→w∈DO ll v n→D w){x y:Int}(h:Reach ll n x y):D x→D y:=by
 induction h with
 |refl=>exact id
 |step e _ b=>exact λc=>b (a _ _ c e)
structure gI (ll:List nH) (n:Int) {A:Type}(ledA:A→Int→Int→Option A) (partA:A→nH→Option A) where
 I:(Int→Prop)→A→Prop
 Q:A→Int→Int→Prop
 led:∀ {D:Int→Prop} {a:A} {x to:Int},I D a→0≤x→x<n→to∈DO ll x n→D to∨Reach ll n to x→ ¬D x→ ∃a',ledA a x to=some a'∧I D a'∧Q a' x to∧ ∀y z,Q a y z→Q a' y z
 part:∀ {D:Int→Prop} {a:A} {l:nH},I D a→l≠[] →l.Nodup→(∀v∈l,0≤v∧v<n∧ ¬D v)→(∀v∈l,∀w∈DO ll v n,Q a v w∧(D w∨w∈l))→(∀v∈l,∀z,z∈l↔Reach ll n v z∧Reach ll n z v)→
  ∃a',partA a l=some a'∧I (λv=>D v∨v∈l) a'∧ ∀y z,Q a y z→Q a' y z
section
variable (ll:List nH) (n:Int)
structure Inv (low stk:nH):Prop where
 len:(low.length:Int)=n
 on:∀(i:Nat) (v:Int),stk[i]? =some v→0≤v∧v<n∧1≤lv low v∧lv low v≤(i:Int)+1
 off:∀v:Int,0≤v→v<n→v∉stk→lv low v=0∨lv low v=E5
 nodup:stk.Nodup
 back:∀(i:Nat) (v:Int),stk[i]? =some v→ ∃(j:Nat) (u:Int),lv low v=(j:Int)+1∧stk[j]? =some u∧Reach ll n v u
 clo:∀v w:Int,lv low v=E5→w∈DO ll v n→lv low w=E5
variable {ll:List nH}{n:Int}
theorem Inv.size{low stk:nH}(H:Inv ll n low stk):stk.length≤low.length:=by
 have h:=List.Nodup.length_le_of_subset (l₂:=(rY low.length).map λk:Nat=>(k:Int)) H.nodup (λv a=>by
  obtain⟨i,b⟩:=oC a
  have:=H.on i v b
  have c:=H.len;exact pH.2 ⟨v.toNat,rJ.2 nJ,nJ⟩)
 simpa using h
theorem Inv.mem{low stk:nH}(H:Inv ll n low stk)(e:n≤100000){v:Int}(a:0≤v)(b:v<n)(c:lv low v≠0)(d:lv low v≠E5):∃i:Nat,stk[i]? =some v:=by
 by_cases h:v∈stk
 ·exact oC h
 ·rcases H.off v a b h with h | h
  ·exact nC h c
  ·exact nC h d
theorem Inv.notMax{low stk:nH}(H:Inv ll n low stk)(c:n≤100000){v:Int}(h:stk[i]? =some v):lv low v≠E5:=by
 have a:=(H.on i v h).2.2.2;have d:=H.size;have e:=H.len;have f:i<stk.length:=by
  rcases pO i stk.length with g | g
  ·exact g
  ·rw[oO g]at h;cases h
 intro b;rw[b]at a;simp only[E5]at a;omega
theorem N4{α:Type}{l:List α}{v:α}(h:l[i]? =some v):i<l.length:=by
 rcases pO i l.length with g | g
 ·exact g
 ·rw[oO g]at h;cases h
theorem VG{low a:nH}(b:a.length=low.length)(h:∀v,lv low v≠0→lv a v≠0):a.count 0≤low.count 0:=by
 have c:∀(l l':nH),l'.length=l.length→(∀i:Nat,(l[i]?).getD 0≠0→(l'[i]?).getD 0≠0)→l'.count 0≤l.count 0:=by
  intro l
  induction l with
  |nil=>intro l' b _;rw[pP b];exact oY _
  |cons x l g=>
   intro l' b h;cases l' with
   |nil=>simp
   |cons y l'=>
    have j:=g l' (by simpa using b) λi d=>by simpa using h (i+1) (by simpa using d)
    have f:=h 0;simp only[pT,sG]at f;rw[qT,qT];by_cases e:x=0
    ·subst e;simp only[beq_self_eq_true,if_true]
     split<;>omega
    ·have:=f e
     rw[nA (by simpa using this),nA (by simpa using e)];omega
 refine c low a b λi d=>?_
 have:=h (i:Int)
 unfold lv at this;rw[CD,CD]at this;exact this d
theorem Hd{low:nH}{x e:Int}(b:0≤x)(c:x< (low.length:Int))(d:lv low x=0)(f:e≠0):(low.set x.toNat e).count 0+1≤low.count 0:=by
 have a:∀(l:nH) (i:Nat),l[i]? =some 0→(l.set i e).count 0+1≤l.count 0:=by
  intro l
  induction l with
  |nil=>intro i h;simp at h
  |cons y l g=>
   intro i h;cases i with
   |zero=>
    simp only[pT,Option.some.injEq]at h;subst h;rw[List.set_cons_zero,qT,qT];simp[f]
   |succ i=>
    have:=g i (by simpa using h)
    rw[List.set_cons_succ,qT,qT];omega
 refine a low x.toNat ?_
 have:=Pj (low:=low) b c
 unfold idx at this;rw[mZ b,d]at this;exact this
end
section
variable {ll:List nH}{n:Int}{A:Type}{ledA:A→Int→Int→Option A}{partA:A→nH→Option A}(S:gI ll n ledA partA)
abbrev Dn(low:nH)(v:Int):Prop:=lv low v=E5
structure dK (low stk:nH) (x:Int) (a:A) (low' ext:nH) (a':A):Prop where
 inv:Inv ll n low' (stk++ext)
 keep:∀v:Int,lv low v≠0→lv low' v=lv low v
 seen:lv low' x≠0
 fresh:∀v∈ext,lv low v=0
 reach:∀v∈ext,Reach ll n x v
 strict:∀(i:Nat) (v:Int),ext[i]? =some v→lv low' x≤lv low' v∧lv low' v< (stk.length:Int)+i+1
 edges:∀v∈ext,∀w∈DO ll v n,lv low' w≠0∧S.Q a' v w∧ ∀i:Nat,stk[i]? =some w→lv low' v≤(i:Int)+1
 ok:S.I (Dn low') a'
 mono:∀y z:Int,S.Q a y z→S.Q a' y z
structure Ep (low0 stk:nH) (x:Int) (a0:A) (es:nH) (q:Int) (low ext:nH) (a:A):Prop where
 inv:Inv ll n low (stk++x::ext)
 keep:∀v:Int,lv low0 v≠0→lv low v=lv low0 v
 fresh:∀v∈ext,lv low0 v=0
 reach:∀v∈ext,Reach ll n x v
 strict:∀(i:Nat) (v:Int),ext[i]? =some v→(lv low x≤lv low v∨q≤lv low v)∧lv low v< (stk.length:Int)+i+2
 edges:∀v∈ext,∀w∈DO ll v n,lv low w≠0∧S.Q a v w∧ ∀i:Nat,stk[i]? =some w→lv low v≤(i:Int)+1
 own:∀w∈es,lv low w≠0∧S.Q a x w∧ ∀i:Nat,stk[i]? =some w→lv low x≤(i:Int)+1
 ok:S.I (Dn low) a
 mono:∀y z:Int,S.Q a0 y z→S.Q a y z
theorem gJ(stk:nH)(x:Int)(ext:nH):(stk++x::ext)[stk.length]? =some x:=by rw[oM (oY _),tP];rfl
theorem Pm{stk:nH}{v:Int}(h:stk[i]? =some v)(r:nH):(stk++r)[i]? =some v:=by rw[nZ (N4 h)];exact h
theorem gK{stk:nH}{x:Int}{ext:nH}{v:Int}(h:ext[i]? =some v):(stk++x::ext)[stk.length+1+i]? =some v:=by rw[oM nJ,show stk.length+1+i - stk.length=i+1 by omega];exact h
theorem Hx{stk:nH}{x:Int}{ext:nH}{v:Int}(h:(stk++x::ext)[i]? =some v):(stk[i]? =some v)∨(i=stk.length∧v=x)∨ ∃k,i=stk.length+1+k∧ext[k]? =some v:=by
 rcases tO i stk.length with g | g | g
 ·left;rw[nZ g]at h;exact h
 ·right;left
  subst g;rw[gJ]at h;exact⟨rfl,(Option.some.inj h).symm⟩
 ·right;right
  refine⟨i - stk.length - 1,nJ,?_⟩;rw[oM nJ,show i - stk.length=(i - stk.length - 1)+1 by omega]at h;exact h
theorem Ep.all{low0 stk:nH}{x q:Int}{a0:A}{es low ext:nH}{a:A}(R:Ep S low0 stk x a0 es q low ext a)(c:∀u∈stk,Reach ll n u x):∀(i:Nat) (v:Int),(stk++x::ext)[i]? =some v→Reach ll n v x:=by
 intro i
 induction i using rT with
 |ind i d=>
  intro v b;rcases Hx b with h | ⟨_,rfl⟩|⟨k,rfl,hk⟩
  ·exact c v (eE h)
  ·exact .refl _
  ·have⟨j,u,g,e,f⟩:=R.inv.back _ v b
   have:=(R.strict k v hk).2
   exact f.trans (d j nJ u e)
variable {low0 stk:nH}{x q:Int}{a0:A}{es low ext:nH}{a:A}
theorem Ep.not_stk(R:Ep S low0 stk x a0 es q low ext a){v:Int}(b:v∈x::ext):v∉stk:=λh=>by
 have:=(pD.1 R.inv.nodup).2.2
 exact this v h v b rfl
theorem Ep.not_x(R:Ep S low0 stk x a0 es q low ext a){v:Int}(b:v∈ext):v≠x:=λh=>by
 have:=(pD.1 R.inv.nodup).2.1
 rw[List.nodup_cons]at this;subst h;exact this.1 b
theorem Ep.x_on(R:Ep S low0 stk x a0 es q low ext a):0≤x∧x<n∧1≤lv low x∧lv low x≤(stk.length:Int)+1:=R.inv.on _ _ (gJ stk x ext)
theorem Ep.begin(N:n≤100000)(H:Inv ll n low0 stk)(r:0≤x)(B:x<n)(s:lv low0 x=0)(C:S.I (Dn low0) a0):Ep S low0 stk x a0 [] (lv (low0.set x.toNat ((stk.length:Int)+1)) x) (low0.set x.toNat ((stk.length:Int)+1)) [] a0:=by
 have g:=H.len;have D:=H.size;have d:=λv=>Tz (low:=low0) (x:=x) (e:=(stk.length:Int)+1) r nJ v;have l:x∉stk:=λh=>by
  obtain⟨i,E⟩:=oC h
  have:=(H.on i x E).2.2.1
  omega
 have m:Dn (low0.set x.toNat ((stk.length:Int)+1))=Dn low0:=by
  funext v;apply propext;show lv _ v=E5↔lv low0 v=E5;rw[d];split
  ·rename_i e;subst e;rw[s];simp only[E5];omega
  ·exact Iff.rfl
 have f:∀ {v:Int},lv low0 v≠0→v≠x:=λh e=>by subst e;exact h s
 refine⟨⟨?_,?_,?_,?_,?_,?_⟩,?_,?_,?_,?_,?_,?_,?_,?_⟩
 ·rw[pJ];exact g
 ·intro i v c;rcases Hx c with h | ⟨rfl,rfl⟩|⟨k,_,hk⟩
  ·have t:=H.on i v h;rw[d,nA (f nJ)];exact t
  ·rw[d,mZ rfl];exact⟨r,B,nJ,nJ⟩
  ·simp at hk
 ·intro v F G c;have o:v≠x:=λe=>c (by rw[e];simp);rw[d,nA o];exact H.off v F G λh=>c (oR _ h)
 ·rw[pD];exact⟨H.nodup,nP,λa J b A e=>by simp at A;subst A;subst e;exact l J⟩
 ·intro i v c;rcases Hx c with h | ⟨rfl,rfl⟩|⟨k,_,hk⟩
  ·have⟨j,u,K,L,M⟩:=H.back i v h;have t:=H.on i v h;exact⟨j,u,by rw[d,nA (f nJ)];exact K,Pm L _,M⟩
  ·exact⟨stk.length,v,by rw[d,mZ rfl],gJ _ _ _,.refl _⟩
  ·simp at hk
 ·intro v w c p;have q:Dn low0 v:=by rw[←m];exact c
  have:=H.clo v w q p
  show Dn _ w;rw[m];exact this
 ·intro v c;rw[d,nA (f c)]
 ·intro v c;cases c
 ·intro v c;cases c
 ·intro i v c;simp at c
 ·intro v c;cases c
 ·intro w p;cases p
 ·rw[m];exact C
 ·exact λy z h=>h
theorem Ep.child(R:Ep S low0 stk x a0 es (lv low x) low ext a){to:Int}{d e:nH}{t:A}(q:to∈DO ll x n)(B:lv low to=0)(c:dK S low (stk++x::ext) to a d e t):Ep S low0 stk x a0 es (lv d to) d (ext++e) t:=by
 have C:=R.x_on;have k:lv d x=lv low x:=c.keep x nJ;have l:∀v∈ext,lv low v≠0:=λv b=>by
  obtain⟨i,r⟩:=oC b
  have:=(R.inv.on _ _ (gK (stk:=stk) (x:=x) r)).2.2.1
  omega
 have s:∀v,lv low v=0→lv low0 v=0:=λv b=>by
  by_cases h:lv low0 v=0
  ·exact h
  ·have:=R.keep v h
   omega
 refine⟨?_,?_,?_,?_,?_,?_,?_,c.ok,λy z h=>c.mono y z (R.mono y z h)⟩
 ·have:=c.inv
  rwa [mE,pM]at this
 ·intro v b;have f:=R.keep v b;rw[c.keep v (by rw[f];exact b),f]
 ·intro v b;rcases oA.1 b with h | h
  ·exact R.fresh v h
  ·exact s v (c.fresh v h)
 ·intro v b;rcases oA.1 b with h | h
  ·exact R.reach v h
  ·exact .step q (c.reach v h)
 ·intro i v b;rcases pO i ext.length with g | g
  ·rw[nZ g]at b;have f:=R.strict i v b;rw[c.keep v (l v (eE b)),k];exact⟨.inl (f.1.elim id id),f.2⟩
  ·rw[oM g]at b;have f:=c.strict _ v b;refine⟨.inr f.1,?_⟩;have u:=f.2;rw[oK,oD]at u;omega
 ·intro v b w p;rcases oA.1 b with h | h
  ·have⟨j,m,o⟩:=R.edges v h w p;rw[c.keep v (l v h),c.keep w j];exact⟨j,c.mono _ _ m,o⟩
  ·have⟨j,m,o⟩:=c.edges v h w p;exact⟨j,m,λi r=>o i (Pm r _)⟩
 ·intro w p;have⟨j,m,o⟩:=R.own w p;rw[c.keep w j,k];exact⟨j,c.mono _ _ m,o⟩
theorem Ep.upd(N:n≤100000){to:Int}(O:∀u∈stk,Reach ll n u x)(P:lv low0 x=0)(R:Ep S low0 stk x a0 es (lv low to) low ext a)(p:to∈DO ll x n)(A:lv low to≠0):
 ∃C,ledA a x to=some C∧Ep S low0 stk x a0 (es++ [to]) (lv (low.set x.toNat (if lv low to<lv low x then lv low to else lv low x)) x) (low.set x.toNat (if lv low to<lv low x then lv low to else lv low x)) ext C:=by
 have q:=R.x_on;have E:=R.inv.size;have B:=R.inv.len;rw[oK,oD]at E;have⟨t0,t1⟩:=J7 p;have F:¬Dn low x:=λh=>by have h:lv low x=E5:=h;simp only[E5]at h;omega
 have c:Dn low to∨ ∃i:Nat,(stk++x::ext)[i]? =some to:=by
  by_cases h:lv low to=E5
  ·exact .inl h
  ·exact .inr (R.inv.mem N t0 t1 A h)
 obtain⟨C,Q,T,U,G⟩:=S.led R.ok q.1 q.2.1 p (c.imp id λ⟨i,s⟩=>R.all S O i to s) F;refine⟨C,Q,?_⟩;obtain⟨m,o⟩:∃m,(if lv low to<lv low x then lv low to else lv low x)=m:=⟨_,rfl⟩;rw[o];have V:1≤lv low to:=by
  rcases c with h | ⟨i,s⟩
  ·have h:lv low to=E5:=h;rw[h];decide
  ·exact(R.inv.on i to s).2.2.1
 have W:m≤lv low x:=by rw[←o];split<;>omega
 have X:m≤lv low to:=by rw[←o];split<;>omega
 have H:1≤m:=by rw[←o];split<;>omega
 have d:=λv=>Tz (low:=low) (x:=x) (e:=m) q.1 nJ v;have I:Dn (low.set x.toNat m)=Dn low:=by
  funext v;apply propext;show lv _ v=E5↔lv low v=E5;rw[d];split
  ·rename_i e;subst e;simp only[E5];omega
  ·exact Iff.rfl
 refine⟨⟨?_,?_,?_,R.inv.nodup,?_,?_⟩,?_,R.fresh,R.reach,?_,?_,?_,?_,λy z h=>G y z (R.mono y z h)⟩
 ·rw[pJ];exact B
 ·intro i v b;have⟨t,D,Y,Z⟩:=R.inv.on i v b;rw[d];split
  ·rename_i e;subst e;exact⟨t,D,H,nJ⟩
  ·exact⟨t,D,Y,Z⟩
 ·intro v g0 t b;have f:v≠x:=λe=>b (by rw[e];simp);rw[d,nA f];exact R.inv.off v g0 t b
 ·intro i v b;rw[d];split
  ·rename_i e
   subst e;by_cases l:lv low to<lv low v
   ·rw[mZ l]at o;subst o;rcases c with h | ⟨k,hk⟩
    ·have h:lv low to=E5:=h;rw[h]at l;simp only[E5]at l;omega
    ·have⟨j,u,M,J,K⟩:=R.inv.back k to hk;exact⟨j,u,M,J,.step p K⟩
   ·rw[nA l]at o;subst o;exact R.inv.back i v b
  ·exact R.inv.back i v b
 ·intro v w b r;have L:Dn low v:=by rw[←I];exact b
  show Dn _ w;rw[I];exact R.inv.clo v w L r
 ·intro v b;have f:v≠x:=λe=>b (by rw[e];exact P);rw[d,nA f];exact R.keep v b
 ·intro i v b;have f:=R.not_x S (eE b);have⟨t,D⟩:=R.strict i v b;rw[d x,mZ rfl,d v,nA f];refine⟨.inl ?_,D⟩;rcases t with g | g<;>omega
 ·intro v b w r;have⟨M,J,K⟩:=R.edges v b w r;rw[d v,nA (R.not_x S b)];refine⟨?_,G _ _ J,K⟩;rw[d]
  split<;>omega
 ·intro w r;rw[d x,mZ rfl];refine⟨?_,?_,?_⟩
  ·rw[d];split
   ·omega
   ·rcases oA.1 r with h | h
    ·exact(R.own w h).1
    ·simp at h;subst h;exact A
  ·rcases oA.1 r with h | h
   ·exact G _ _ (R.own w h).2.1
   ·simp at h;subst h;exact U
  ·intro i s;rcases oA.1 r with h | h
   ·have:=(R.own w h).2.2 i s;omega
   ·simp at h;subst h
    have:=(R.inv.on i w (Pm s _)).2.2.2
    omega
 ·rw[I];exact T
theorem Ep.stay(d:lv low0 x=0)(R:Ep S low0 stk x a0 (DO ll x n) (lv low x) low ext a)(e:lv low x≠(stk.length:Int)+1):dK S low0 stk x a0 low (x::ext) a:=by
 have f:=R.x_on;refine⟨R.inv,R.keep,nJ,?_,?_,?_,?_,R.ok,R.mono⟩
 ·intro v b;rcases oS.1 b with h | h
  ·rw[h];exact d
  ·exact R.fresh v h
 ·intro v b;rcases oS.1 b with h | h
  ·rw[h];exact .refl _
  ·exact R.reach v h
 ·intro i v b;cases i with
  |zero=>
   simp only[pT,Option.some.injEq]at b;subst b;exact⟨tT _,nJ⟩
  |succ i=>
   have:=R.strict i v (by simpa using b)
   exact⟨this.1.elim id id,nJ⟩
 ·intro v b w c;rcases oS.1 b with h | h
  ·subst h;exact R.own w c
  ·exact R.edges v h w c
theorem dL{low:nH}:∀(l:nH),(∀v∈l,0≤v∧v< (low.length:Int))→l.length≤9223372036854775807→ ∃a:nH,(forS 0 (l.length:Int) low λi low=>(idx l i).bind λy=>DQ low y 9223372036854775807)=some a∧a.length=low.length∧ ∀v,lv a v=if v∈l then E5 else lv low v:=by
 intro l d j;obtain⟨a,m,o,p⟩:=CM (f:=λi (low:nH)=>(idx l i).bind λy=>DQ low y 9223372036854775807) (n:=l.length) (λk a=>a.length=low.length∧ ∀v,lv a v=if v∈l.take k then E5 else lv low v) j (s:=low) ⟨rfl,λv=>nP⟩ (λk s b ⟨q,r⟩=>by
  have c:=d _ (oE b);refine⟨s.set (l[k]).toNat E5,by rw[GV b];exact IW c.1 nJ,by rw[pJ];exact q,λv=>?_⟩;rw[Tz c.1 nJ,r,oX b];by_cases e:v=l[k]
  ·rw[mZ e,mZ (pF _ (by rw[e];exact nY.2 rfl))]
  ·rw[nA e];by_cases h:v∈l.take k
   ·rw[mZ h,mZ (oR _ h)]
   ·rw[nA h,nA λg=>(oA.1 g).elim h λg=>e (nY.1 g)])
 refine⟨a,m,o,λv=>?_⟩;rw[p,qO]
theorem Ep.pop(N:n≤100000)(V:∀u∈stk,Reach ll n u x)(W:lv low0 x=0)(R:Ep S low0 stk x a0 (DO ll x n) (lv low x) low ext a)(he:lv low x=(stk.length:Int)+1){c:nH}(q:c.length=low.length)(d:∀v,lv c v=if v∈x::ext then E5 else lv low v):
 ∃E,partA a (x::ext)=some E∧dK S low0 stk x a0 c [] E:=by
 have X:=R.x_on;have F:=R.inv.size;have s:=R.inv.len;rw[oK,oD]at F;have G:∀v∈x::ext,(stk.length:Int)+1≤lv low v:=λv b=>by
  rcases oS.1 b with h | h
  ·subst h;omega
  ·obtain⟨i,o⟩:=oC h
   have:=(R.strict i v o).1.elim id id
   omega
 have t:∀v∈x::ext,∀w∈DO ll v n,lv low w≠0∧S.Q a v w∧ ∀i:Nat,stk[i]? =some w→lv low v≤(i:Int)+1:=λv b w e=>by
  rcases oS.1 b with h | h
  ·subst h;exact R.own w e
  ·exact R.edges v h w e
 have f:∀v∈x::ext,∃i:Nat,(stk++x::ext)[i]? =some v:=λv b=>oC (pF _ b);have r:∀v∈x::ext,∀w∈DO ll v n,lv low w=E5∨w∈x::ext:=λv b w e=>by
  have⟨H,I,J⟩:=t v b w e;have⟨w0,Y⟩:=J7 e;by_cases O:lv low w=E5
  ·exact .inl O
  ·have⟨i,o⟩:=R.inv.mem N w0 Y H O;rcases Hx o with h | ⟨_,rfl⟩|⟨k,_,hk⟩
   ·have P:=J i h;have T:=G v b;have U:=N4 h;omega
   ·exact .inr nP
   ·exact .inr (pQ _ (eE hk))
 have A:∀v∈x::ext,¬lv low v=E5:=λv b=>by
  have⟨i,o⟩:=f v b;exact R.inv.notMax N o
 have p:∀v∈x::ext,Reach ll n x v∧Reach ll n v x:=λv b=>by
  have⟨i,o⟩:=f v b;refine⟨?_,R.all S V i v o⟩;rcases oS.1 b with h | h
  ·rw[h];exact .refl _
  ·exact R.reach v h
 have K:Dn c=λv=>Dn low v∨v∈x::ext:=by
  funext v;apply propext;show lv c v=E5↔_;rw[d];split
  ·exact⟨λ_=>.inr (by assumption),λ_=>rfl⟩
  ·exact⟨λh=>.inl h,λh=>h.elim id λg=>nC g (by assumption)⟩
 have B:=(pD.1 R.inv.nodup).2.1;obtain⟨E,P,T,U⟩:=S.part (l:=x::ext) R.ok nP B (λv b=>by
  have⟨i,o⟩:=f v b
  have:=R.inv.on i v o
  exact⟨this.1,this.2.1,A v b⟩) (λv b w e=>⟨(t v b w e).2.1,r v b w e⟩) (λv b z=>by
  constructor
  ·intro C;exact⟨(p v b).2.trans (p z C).1,(p z C).2.trans (p v b).1⟩
  ·rintro⟨L,Z⟩;rcases L.closed (D:=λv=>lv low v=E5∨v∈x::ext) (λv w b e=>by
    rcases b with h | h
    ·exact .inl (R.inv.clo v w h e)
    ·exact r v h w e) (.inr b) with h | h
   ·exact nC (Z.closed (D:=λv=>lv low v=E5) (λv w b e=>R.inv.clo v w b e) h) (A v b)
   ·exact h)
 refine⟨E,P,⟨⟨?_,?_,?_,?_,?_,?_⟩,?_,?_,?_,?_,?_,?_,?_,λy z h=>U y z (R.mono y z h)⟩⟩
 ·rw[q];exact s
 ·intro i v b;rw[qG]at b;have m:v∉x::ext:=λh=>R.not_stk S h (eE b);rw[d,nA m];exact R.inv.on i v (Pm b _)
 ·intro v g0 L b;rw[qG]at b;rw[d];split
  ·exact .inr rfl
  ·rename_i h
   exact R.inv.off v g0 L λg=>(oA.1 g).elim b h
 ·rw[qG];exact(pD.1 R.inv.nodup).1
 ·intro i v b;rw[qG]at b ⊢;have m:v∉x::ext:=λh=>R.not_stk S h (eE b);have⟨j,u,H,I,J⟩:=R.inv.back i v (Pm b _);have h4:=(R.inv.on i v (Pm b _)).2.2.2;have h5:=N4 b;refine⟨j,u,by rw[d,nA m];exact H,?_,J⟩;rw[nZ nJ]at I;exact I
 ·intro v w b e;have M:Dn low v∨v∈x::ext:=by
   have:Dn c v:=b
   rwa [K]at this
  show Dn c w;rw[K];rcases M with h | h
  ·exact .inl (R.inv.clo v w h e)
  ·exact r v h w e
 ·intro v b;have m:v∉x::ext:=λh=>by
   rcases oS.1 h with h | h
   ·rw[h]at b;exact b W
   ·exact b (R.fresh v h)
  rw[d,nA m];exact R.keep v b
 ·rw[d,mZ nP];decide
 ·intro v b;cases b
 ·intro v b;cases b
 ·intro i v b;simp at b
 ·intro v b;cases b
 ·rw[K];exact T
theorem WU(J:n≤100000)(y:∀l∈ll,l.length≤1073741824):∀(fuel:Nat) (low stk:nH) (a:A) (x:Int),Inv ll n low stk→0≤x→x<n→lv low x=0→(∀u∈stk,Reach ll n u x)→S.I (Dn low) a→low.count 0≤fuel→
 ∃h ext K,Ls ll n ledA partA fuel (low,stk,a) x=some (h,stk++ext,K)∧dK S low stk x a h ext K:=by
 intro fuel
 induction fuel with
 |zero=>
  intro low stk a x H j X r _ _ Z;have z:=H.len
  have:=Hd (e:=1) j nJ r nQ
  omega
 |succ f ih=>
  intro low stk a x H j X r L hI Z;have z:=H.len;have a0:=H.size;have a4:(DO ll x n).length≤1073741824:=by
   unfold DO;split
   ·simp
   ·refine rX (pE _ _) ?_;cases hg:ll[x.toNat]? with
    |none=>simp
    |some l=>exact y l (eE hg)
  show ∃h ext K,RA ll n ledA partA (Ls ll n ledA partA f) (low,stk,a) x=some (h,stk++ext,K)∧_;unfold RA;dsimp only;rw[GW nN,oB,IW j nJ,oB,F6 y];have B:(((stk++ [x]).length:Nat):Int)=(stk.length:Int)+1:=nP
  rw[B];have a5:=Hd (e:=(stk.length:Int)+1) j nJ r nJ;obtain⟨st,e1,b,c,m,rfl,R,o⟩:=CM (f:=λi st=>(idx (DO ll x n) i).bind λto=>toD ledA (Ls ll n ledA partA f) x to st) (n:=(DO ll x n).length)
   (λk st=>∃b c m,st=((b,stk++x::c,m):EG A)∧Ep S low stk x a ((DO ll x n).take k) (lv b x) b c m∧b.count 0≤f) nJ (s:=((low.set x.toNat ((stk.length:Int)+1),stk++ [x],a):EG A))
   ⟨_,[],a,rfl,by rw[List.take_zero];exact Ep.begin S J H j X r hI,nJ⟩ (λk st M ⟨b,c,m,e,R,o⟩=>by
    subst e;have p:=oE M;have⟨t0,t1⟩:=J7 p;have N:=R.inv.len;rw[GV M,oB,oX M]
    generalize (DO ll x n)[k] =to at *
    unfold toD;dsimp only;rw[Pj t0 nJ,oB];have mid:∃d g t,(cond (lv b to==0) (Ls ll n ledA partA f (b,stk++x::c,m) to) (some (b,stk++x::c,m)))=some (d,stk++x::g,t)∧Ep S low stk x a ((DO ll x n).take k) (lv d to) d g t∧lv d to≠0∧d.count 0≤f:=by
     by_cases C:lv b to=0
     ·rw[show(lv b to==0)=true by simp[C],cond_true];obtain⟨d,g,t,D,w⟩:=ih b (stk++x::c) m to R.inv t0 t1 C (λu hu=>by
       obtain⟨i,E⟩:=oC hu;exact(R.all S L i u E).trans (.one p)) R.ok o
      refine⟨d,c++g,t,by rw[D,mE,pM],R.child S p C w,w.seen,?_⟩;have O:=w.inv.len;exact rX (VG nJ λv q=>by rw[w.keep v q];exact q) o
     ·rw[show(lv b to==0)=false by simp[C],cond_false];exact⟨b,c,m,rfl,⟨R.inv,R.keep,R.fresh,R.reach,λi v q=>⟨.inl ((R.strict i v q).1.elim id id),(R.strict i v q).2⟩,R.edges,R.own,R.ok,R.mono⟩,C,o⟩
    obtain⟨d,g,t,D,F,G,P⟩:=mid;have O:=F.inv.len;have a6:=F.x_on;rw[D];simp only[oB];rw[Pj j nJ,oB,Pj t0 nJ,oB,IW j nJ,oB];have⟨a3,Q,R3⟩:=F.upd S J L r p G;refine⟨_,by rw[Q];rfl,_,g,a3,rfl,R3,?_⟩;refine rX (VG nP λv q=>?_) P;rw[Tz j nJ];split
    ·have:1≤lv d to:=by
      by_cases Y:lv d to=E5
      ·rw[Y];decide
      ·have⟨i,E⟩:=F.inv.mem J t0 t1 G Y;exact(F.inv.on i to E).2.2.1
     split<;>omega
    ·exact q)
  rw[qO]at R;have N:=R.inv.len;have T:=R.inv.size;have a7:=R.x_on;rw[e1,oB];unfold ZW;dsimp only;rw[Pj j nJ,oB,B];by_cases hd:lv b x=(stk.length:Int)+1
  ·rw[show(lv b x !=(stk.length:Int)+1)=false by simp[hd],cond_false];have U:(stk++ [x]).length=stk.length+1:=nP
   rw[U,F6 ⟨nJ,nP,nJ⟩];have V:(stk++x::c).drop (stk.length+1 - 1)=x::c:=nP
   have W:(stk++x::c).take (stk.length+1 - 1)=stk:=nP
   rw[V,W];obtain⟨d,D,w,Q⟩:=dL (low:=b) (x::c) (λv q=>by
    obtain⟨i,E⟩:=oC (pF stk q)
    have:=R.inv.on i v E
    exact⟨this.1,nJ⟩) (by rw[oK]at T;omega)
   have⟨t,g4,g5⟩:=R.pop S J L r hd w Q;exact⟨d,[],t,by rw[D,oB,g4,qG];rfl,g5⟩
  ·rw[show(lv b x !=(stk.length:Int)+1)=true by simp[hd],cond_true];exact⟨b,x::c,m,rfl,R.stay S r hd⟩
end
end
section
variable {ll:List nH}{n:Int}{A:Type}{ledA:A→Int→Int→Option A}{partA:A→nH→Option A}(S:gI ll n ledA partA)
theorem YQ(G:0≤n)(J:n≤100000)(C:∀l∈ll,l.length≤1073741824){a:A}(K:S.I (λ_=>False) a){fuel:Nat}(R:n.toNat≤fuel):∃o,Si ll n ledA partA fuel a=some o∧S.I (λv=>0≤v∧v<n) o.2.2:=by
 unfold Si;rw[F6 ⟨G,nJ⟩];have c:∀v,lv (qN n.toNat (0:Int)) v=0:=λv=>by
  unfold lv idx;split
  ·rw[List.getElem?_replicate]
   split<;>rfl
  ·rfl
 have D:n=(n.toNat:Int):=nJ
 have d:=CM (f:=λi (st:EG A)=>(idx st.1 i).bind λe=>cond (e==0) (Ls ll n ledA partA fuel st i) (some st)) (n:=n.toNat)
  (λk st=>∃low E,st=(low,[],E)∧Inv ll n low [] ∧(∀v:Int,0≤v→v<k→lv low v≠0)∧S.I (Dn low) E) nJ (s:=(qN n.toNat (0:Int),[],a))
  ⟨_,_,rfl,⟨nN,λi v j=>by simp at j,λv _ _ _=>.inl (c v),.nil,λi v j=>by simp at j,λv w j=>by rw[c]at j;simp[E5]at j⟩,λv p z=>nJ,by
   have:Dn (qN n.toNat (0:Int))=λ_=>False:=by
    funext v;apply propext;show lv _ v=E5↔False;rw[c];exact⟨λh=>(by simp[E5]at h),λh=>h.elim⟩
   rw[this];exact K⟩ (λk st T ⟨low,F,e,H,b,m⟩=>by
    subst e;have t:=H.len;dsimp only;rw[Pj nJ nJ,oB];by_cases B:lv low (k:Int)=0
    ·rw[show(lv low (k:Int)==0)=true by simp[B],cond_true];have L:low.count 0≤low.length:=List.count_le_length;obtain⟨x,ext,M,z,q⟩:=WU S J C fuel low [] F k H nJ nJ B (λu N=>by cases N) m nJ;have y:ext= []:=by
      cases ext with
      |nil=>rfl
      |cons v r=>
       have O:=(q.strict 0 v rfl).2;have U:=(q.inv.on 0 v rfl).2.2.1;simp at O;omega
     subst y;refine⟨_,z,x,M,rfl,q.inv,λv p P=>?_,q.ok⟩;by_cases j:v=(k:Int)
     ·subst j;exact q.seen
     ·have:=b v p nJ
      rw[q.keep v this];exact this
    ·rw[show(lv low (k:Int)==0)=false by simp[B],cond_false];refine⟨_,rfl,low,F,rfl,H,λv p P=>?_,m⟩;by_cases j:v=(k:Int)
     ·subst j;exact B
     ·exact b v p nJ)
 rw[←D]at d;obtain⟨o,Q,low,E,rfl,H,b,m⟩:=d;refine⟨_,Q,?_⟩;have t:=H.len
 have:Dn low=λv=>0≤v∧v<n:=by
  funext v;apply propext;show lv low v=E5↔_;constructor
  ·intro h;rcases rK v 0 with g | g
   ·rw[aT (.inl g)]at h;cases h
   ·refine⟨g,?_⟩;rcases rK v n with g' | g'
    ·exact g'
    ·rw[aT (.inr nJ)]at h;cases h
  ·rintro⟨p,z⟩;rcases H.off v p z nP with h | h
   ·exact nC h (b v p nJ)
   ·exact h
 rw[←this];exact m
end
def gv(a:List Ae)(v:Int):Ae:=(idx a v).getD (0,[])
theorem T0{a:List Ae}{v:Int}(b:0≤v)(c:v< (a.length:Int)):idx a v=some (gv a v):=by
 have:idx a v=some a[v.toNat]:=MU b nJ
 unfold gv;rw[this];rfl
theorem aU{a:List Ae}{x:Int}{s:Ae}(c:0≤x)(d:x< (a.length:Int))(v:Int):gv (a.set x.toNat s) v=if v=x then s else gv a v:=by
 by_cases b:v=x
 ·subst b;rw[mZ rfl];unfold gv idx;rw[mZ c,qY,mZ rfl,mZ nJ];rfl
 ·rw[nA b];unfold gv idx;split
  ·rw[qY,nA nJ]
  ·rfl
section
variable (ll:List nH) (n wide:Int) (B:List Ae)
def Nf(v j:Int):Prop:= ∃z,Reach ll n v z∧mem (gv B z) j=true
structure L4 (a:List Ae):Prop where
 len:(a.length:Int)=n
 ok:∀v,0≤v→v<n→OkS (gv a v)∧(gv a v).1=wide
 base:∀v j,0≤v→v<n→mem (gv B v) j=true→mem (gv a v) j=true
 sound:∀v j,0≤v→v<n→mem (gv a v) j=true→Nf ll n B v j
variable {ll n wide B}
theorem Nf.back{v w j:Int}(h:Reach ll n v w)(k:Nf ll n B w j):Nf ll n B v j:=by obtain⟨z,a,b⟩:=k;exact⟨z,h.trans a,b⟩
theorem dM{a:List Ae}(H:L4 ll n wide B a){v j:Int}(b:0≤v)(c:v<n)(h:mem (gv a v) j=true):j<wide:=by
 have⟨d,e⟩:=H.ok v b c
 have:=(Pa d h).2
 omega
theorem L4.led{a:List Ae}(H:L4 ll n wide B a){x to:Int}(g:0≤x)(m:x<n)(t0:0≤to)(t1:to<n)(o:Reach ll n x to):∃i,RH a x to=some i∧L4 ll n wide B i∧(∀v,v≠x→gv i v=gv a v)∧(∀j,mem (gv i x) j=(mem (gv a x) j || mem (gv a to) j)):=by
 have d:=H.len;have⟨l,p⟩:=H.ok x g m;have⟨kt,w⟩:=H.ok to t0 t1;have⟨q,r,t⟩:=Og l kt;have f:=λv=>aU (a:=a) (x:=x) (s:=BT (gv a x) (gv a to)) g nJ v;have k:∀j,mem (BT (gv a x) (gv a to)) j=(mem (gv a x) j || mem (gv a to) j):=λj=>by
  rw[t];by_cases h:mem (gv a to) j=true
  ·have:=dM H t0 t1 h
   rw[mW nJ,Bool.and_true]
  ·rw[Bool.not_eq_true]at h;rw[h];rfl
 refine⟨a.set x.toNat (BT (gv a x) (gv a to)),?_,⟨by rw[pJ];exact d,?_,?_,?_⟩,λv u=>by rw[f,nA u],λj=>by rw[f,mZ rfl,k]⟩
 ·unfold RH;rw[T0 g nJ,oB,T0 t0 nJ,oB,F6 ⟨l,kt⟩,IW g nJ]
 ·intro v b c;rw[f];split
  ·exact⟨q,by rw[r,p]⟩
  ·exact H.ok v b c
 ·intro v j b c h;rw[f];split
  ·rename_i e
   subst e;rw[k,H.base v j b c h];rfl
  ·exact H.base v j b c h
 ·intro v j b c h;rw[f]at h;split at h
  ·rename_i e
   subst e;rw[k,sL]at h;rcases h with h | h
   ·exact H.sound v j b c h
   ·exact(H.sound to j t0 t1 h).back o
  ·exact H.sound v j b c h
theorem dN{s:Ae}(H:OkS s):DZ s=some s:=by unfold DZ cloneD;have a:=H.len;have b:=H.hi;rw[mZ nJ];rfl
theorem L4.part{a:List Ae}(H:L4 ll n wide B a){c:Int}{l:nH}(p:∀v∈c::l,0≤v∧v<n)(I:(c::l).Nodup)(hb:l.length≤100000)(O:∀v∈c::l,∀w∈c::l,Reach ll n v w):
 ∃E,QJ a (c::l)=some E∧L4 ll n wide B E∧(∀v,v∉c::l→gv E v=gv a v)∧ ∀v∈c::l,∀w∈c::l,∀j,mem (gv a w) j=true→mem (gv E v) j=true:=by
 have i0:=p c nP;have q:c∉l:=(List.nodup_cons.1 I).1;have⟨r,U,F,o1,V,J⟩:=CM (f:=λi (a:List Ae)=>(idx l i).bind λy=>RH a c y) (n:=l.length)
  (λk b=>L4 ll n wide B b∧(∀v,v≠c→gv b v=gv a v)∧(∀j,mem (gv a c) j=true→mem (gv b c) j=true)∧ ∀w∈l.take k,∀j,mem (gv a w) j=true→mem (gv b c) j=true) nJ (s:=a)
  ⟨H,λ_ _=>rfl,λ_ h=>h,λw g=>by simp at g⟩ (λk b m ⟨u,A,K,W⟩=>by
   have t:l[k]∈l:=oE m;have⟨G,P⟩:=p _ (pQ _ t);obtain⟨X,o,Y,Z,Q⟩:=u.led i0.1 i0.2 G P (O _ nP _ (pQ _ t));refine⟨X,by rw[GV m];exact o,Y,λv d=>(Z v d).trans (A v d),λj h=>by rw[Q,K j h];rfl,λw g j h=>?_⟩;rw[oX m]at g;rw[Q];rcases oA.1 g with g | g
   ·rw[W w g j h];rfl
   ·have g:=nY.1 g;rw[g]at h;have C:=A l[k] (λe=>q (by rw[←e];exact t));rw[C,h,Bool.or_true])
 rw[qO]at J;have a0:=F.len;have R:=F.ok c i0.1 i0.2;have⟨S,e2,H2,o2,T⟩:=CM (f:=λi (a:List Ae)=>(idx l i).bind λy=>(idx a c).bind λs=>(DZ s).bind λs=>DQ a y s) (n:=l.length)
  (λk b=>L4 ll n wide B b∧(∀v,v∉l.take k→gv b v=gv r v)∧ ∀v∈l.take k,gv b v=gv r c) nJ (s:=r)
  ⟨F,λ_ _=>rfl,λw g=>by simp at g⟩ (λk b m ⟨u,A,K⟩=>by
   have t:l[k]∈l:=oE m;have L:=u.len;have⟨G,P⟩:=p _ (pQ _ t);have M:gv b c=gv r c:=A c λh=>q (rQ h);have D:=λv=>aU (a:=b) (x:=l[k]) (s:=gv r c) G nJ v;refine⟨b.set (l[k]).toNat (gv r c),?_,⟨by rw[pJ];exact L,?_,?_,?_⟩,?_,?_⟩
   ·rw[GV m,oB,T0 i0.1 nJ,oB,M,dN R.1,oB,IW G nJ]
   ·intro v z o;rw[D];split
    ·exact R
    ·exact u.ok v z o
   ·intro v j z o h;rw[D];split
    ·rename_i e
     subst e;exact J _ t j (H.base _ j z o h)
    ·exact u.base v j z o h
   ·intro v j z o h;rw[D]at h;split at h
    ·rename_i e
     subst e;exact(F.sound c j i0.1 i0.2 h).back (O _ (pQ _ t) _ nP)
    ·exact u.sound v j z o h
   ·intro v d;rw[oX m]at d;have h1:v∉l.take k:=λh=>d (oR _ h);have C:v≠l[k]:=λh=>d (pF _ (nY.2 h));rw[D,nA C];exact A v h1
   ·intro v d;rw[oX m]at d;rw[D];split
    ·rfl
    ·rename_i C
     rcases oA.1 d with h | h
     ·exact K v h
     ·exact nC (nY.1 h) C)
 rw[qO]at o2 T;refine⟨S,?_,H2,λv d=>?_,λv d w g j h=>?_⟩
 ·unfold QJ;rw[show idx (c::l) 0=some c from rfl,oB,show(c::l).drop 1=l from rfl,U,oB,e2]
 ·rw[oS,not_or]at d;rw[o2 v d.2,o1 v d.1]
 ·have N:gv S v=gv r c:=by
   rcases oS.1 d with e | e
   ·rw[e];exact o2 c q
   ·exact T v e
  rw[N];rcases oS.1 g with e | e
  ·subst e;exact V j h
  ·exact J w e j h
def YR(P:n≤100000):gI ll n RH QJ where
 I D a:=L4 ll n wide B a∧ ∀v,D v→0≤v→v<n→ ∀j,Nf ll n B v j→mem (gv a v) j=true
 Q a y z:= ¬Reach ll n z y→ ∀j,Nf ll n B z j→mem (gv a y) j=true
 led:=by
  rintro D a x to ⟨H,t⟩ L M hto q hx;have⟨t0,t1⟩:=J7 hto;obtain⟨r,e,u,o,m⟩:=H.led L M t0 t1 (.one hto);have grow:∀v j,mem (gv a v) j=true→mem (gv r v) j=true:=λv j h=>by
   by_cases b:v=x
   ·subst b;rw[m,h];rfl
   ·rw[o v b];exact h
  refine⟨r,e,⟨u,λv b A C j c=>grow v j (t v b A C j c)⟩,λd j c=>?_,λy z h d j c=>grow y j (h d j c)⟩;rcases q with g | g
  ·rw[m,t to g t0 t1 j c,Bool.or_true]
  ·exact nC g d
 part:=by
  rintro D a l ⟨H,t⟩ hne hnd hin hq hscc;obtain⟨f,l',rfl⟩:∃f l',l=f::l':=by
   cases l with
   |nil=>exact nC rfl hne
   |cons a l=>exact⟨a,l,rfl⟩
  have s:(f::l').length≤100000:=by
   have h:=List.Nodup.length_le_of_subset (l₂:=(rY n.toNat).map λk:Nat=>(k:Int)) hnd (λv b=>by
    have:=hin v b
    exact pH.2 ⟨v.toNat,rJ.2 nJ,nJ⟩)
   simp at h ⊢;omega
  obtain⟨r,e,u,o,m⟩:=H.part (λv b=>⟨(hin v b).1,(hin v b).2.1⟩) hnd (by simp at s;omega) (λv b w p=>((hscc v b w).1 p).1);have grow:∀v j,mem (gv a v) j=true→mem (gv r v) j=true:=λv j h=>by
   by_cases b:v∈f::l'
   ·exact m v b v b j h
   ·rw[o v b];exact h
  have E:∀ {y z:Int},Reach ll n y z→ ∀j,mem (gv B z) j=true→y∈f::l'→ ∃w∈f::l',mem (gv a w) j=true:=λ{y z} q j c=>by
   induction q with
   |refl y=>
    intro i;exact⟨y,i,H.base y j (hin y i).1 (hin y i).2.1 c⟩
   | @step y w z K q N=>
    intro i;by_cases p:w∈f::l'
    ·exact N c p
    ·refine⟨y,i,(hq y i w K).1 (λF=>p ((hscc y i w).2 ⟨.one K,F⟩)) j ⟨z,q,c⟩⟩
  refine⟨r,e,⟨u,λv b A C j c=>?_⟩,λy z h d j c=>grow y j (h d j c)⟩;rcases b with b | b
  ·exact grow v j (t v b A C j c)
  ·obtain⟨z,G,J⟩:=c;have⟨w,p,O⟩:=E G j J b;exact m v b w p j O
end
end Go.Proofs.YtfnppeejaimnbaaGreatDoor.Dg
