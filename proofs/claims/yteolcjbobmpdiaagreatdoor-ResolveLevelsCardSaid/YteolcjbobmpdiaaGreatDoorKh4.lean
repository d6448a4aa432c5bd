/-
  P2, P3, P4, P5, T1, T2, LookD, DgTarjan, DgTarjanB, DgP1, F1, F2, DenL, FirstS, FirstT, FirstU, FirstV, SimL, LookS, LookE, LookR, LookI, LookJ, LookG, put together.
  Conditions: none; each part tells its own.
-/
import Derived.Test.YteolcjbobmpdiaaGreatDoorKh3
import Derived.Test.YteolcjbobmpdiaaGreatDoorKh2
import Derived.Test.YteolcjbobmpdiaaGreatDoorKh1
import Derived.Test.YteolcjbobmpdiaaGreatDoorProg
import Derived.KernelRfl
open List renaming getElem?_eq_getElem → bR,getElem?_append_left → bX,mem_of_getElem? → bY,perm_middle → bZ,getElem?_of_mem → cC,getElem_mem → cD,append_assoc → cH,take_succ_eq_append_getElem → cI,mem_cons_of_mem → cJ,getElem?_append_right → cL,length_append → cQ,take_of_length_le → cS,getElem?_eq_none → dC,getElem?_set_ne → dD,replicate → dE,take_add_one → dG,getElem?_set_self → dJ,length_cons → dL,length_take → dM,take_length → dN,mem_append_right → dO,length_map → dR,append_nil → dS,mem_append_left → dU,getElem?_set → dV,countP_cons → eA,map_append → eF,count_cons → eG,length_filter_le → eH,mem_of_mem_take → eI,length_set → eM,set_cons_succ → eP,getElem?_cons_zero → eR,take_append_drop → eS,perm_append_comm → eU,filter_cons → eV,map_cons → eY,eq_nil_of_length_eq_zero → fA,mem_append → fC,range → fG,getElem?_drop → fH,drop_eq_getElem_cons → fL,foldl_append → fM,getElem?_replicate → fP,foldl_cons → fT,mem_of_mem_drop → fX,getElem_of_mem → fY,filter_append → fZ,getElem?_take → gA,set_cons_zero → gB,mem_cons_self → gC,getElem_take → gE,length_range → gF,cons_append → gK,length → gM
open Go.IntKind renaming wrap → bT
open Option renaming bind_some → bU,isNone → fN,getD_some → fO
open Go.Eng.T renaming call → bV,out → cF,block → cZ,load → dB,ret → dK,sem → dP,loop → dQ,join → dY,still → dZ,brk → eB,both → fR,store → fS,new → fU
open Go.Proofs.Tryz renaming prog → bW,underlying3 → eX,underlying135 → fJ,underlying136 → fK,underlying134 → gD
open List.Perm renaming cons → cA,append_right → cE,swap → cN,append_left → eT
open Go.Eng.Ro renaming int → cG,list → eD,bool → eO,pt → fI,str → gO,slc → gQ
open Go.Builtin renaming append_ → cK
open Go.Eng.Sub renaming refl → cP,trans → eW
open Int renaming toNat → cT,toNat_of_nonneg → cV,toNat_natCast → cY,lt_or_le → fF
open Nat renaming le_refl → cU,le_trans → dI,eq_zero_or_pos → eC,zero_add → eL,strongRecOn → fB,lt_or_ge → fE,sub_self → gG,lt_trichotomy → gI
open Bool renaming or_eq_true → dH,and_eq_true → eK,and_eq_false_iff → fV,or_eq_false_iff → fW,not_eq_true → gL
open Go.Instr renaming lookup → dW,mapUpdate → eN,makeSlice → fD
open Go.Eng.St renaming freezeRow → dX,cells → eJ,nil → gP
open UInt8 renaming ofNat → eQ
open Go.Eng.Rep renaming raw → eZ
open Go.Eng.AY renaming next → fQ,done → gH,get → gS
open Go.Sem renaming bind → gJ
open Prod renaming ext → gN
open Go.Eng.Ok renaming eq → gR
namespace Go.Proofs.YteolcjbobmpdiaaGreatDoor
open Go Go.Eng
set_option linter.unusedVariables false
set_option maxRecDepth 100000
theorem Mh (u:Nat):∀b∈Lib.decDigits u,48≤b.toNat∧b.toNat≤57:=by
 induction u using fB with
 |ind u ih=>
  intro b hb;rw [Lib.decDigits]at hb;split at hb
  ·rename_i h
   have hb:=List.mem_singleton.1 hb;subst hb
   have:(eQ (48+u)).toNat=48+u:=by simp;omega
   omega
  ·rename_i h
   rcases List.mem_append.1 hb with hb | hb
   ·exact ih (u / 10) (by omega) b hb
   ·have hb:=List.mem_singleton.1 hb;subst hb
    have:(eQ (48+u % 10)).toNat=48+u % 10:=by simp;omega
    omega
def Yc (l:List UInt8):Nat:=l.foldl (fun a b=>a *10+(b.toNat - 48)) 0
theorem RI (u:Nat):Yc (Lib.decDigits u)=u:=by
 induction u using fB with
 |ind u ih=>
  rw [Lib.decDigits];split
  ·rename_i h
   have:(eQ (48+u)).toNat=48+u:=by simp;omega
   simp only [Yc,fT,List.foldl_nil,this];omega
  ·rename_i h
   have e:(eQ (48+u % 10)).toNat=48+u % 10:=by simp;omega
   have:=ih (u / 10) (by omega)
   unfold Yc at this ⊢;rw [fM,this];simp only [fT,List.foldl_nil,e];omega
theorem TK {u v:Nat}(h:Lib.decDigits u=Lib.decDigits v):u=v:=by rw [←RI u,h,RI]
theorem UM (i:Int):∀b∈Lib.itoa i,b=45∨(48≤b.toNat∧b.toNat≤57):=by
 intro b hb;unfold Lib.itoa at hb;split at hb
 ·rcases List.mem_cons.1 hb with hb | hb
  ·exact .inl hb
  ·exact .inr (Mh _ b hb)
 ·exact .inr (Mh _ b hb)
theorem Vj {i j:Int}(h:Lib.itoa i=Lib.itoa j):i=j:=by
 have no45:∀(u:Nat) (r:List UInt8),Lib.decDigits u≠45::r:=fun u r e=>by
  have:=Mh u 45 (by rw [e];simp)
  simp at this
 unfold Lib.itoa at h;split at h<;>split at h
 ·have:=TK (List.cons.inj h).2;omega
 ·exact absurd h.symm (no45 _ _)
 ·exact absurd h (no45 _ _)
 ·have:=TK h;omega
theorem Es (i:Int):∀x∈Cq i,Jb x=true∧x≠32∧x≠46:=by
 intro x hx;unfold Cq at hx;obtain ⟨b,hb,rfl⟩:=List.mem_map.1 hx;unfold Jb;simp only [eK,decide_eq_true_eq];rcases UM i b hb with rfl | h
 ·decide
 ·omega
theorem OB {i j:Int}(h:Cq i=Cq j):i=j:=by
 unfold Cq at h;refine Vj<|List.map_inj_right (f:=fun b:UInt8=>(b.toNat:Int)) ?_ |>.1 h;intro a b hab
 have:a.toNat=b.toNat:=by omega
 exact UInt8.toNat_inj.1 this
theorem Ij {i:Int}(h0: -9223372036854775808≤i) (h1:i≤9223372036854775807):(Cq i).length≤21:=by
 unfold Cq;rw [dR];exact Lib.itoa_length_le i h0 h1
def F9:List Item→List Int
 | [] =>[]
 |x::l=>Cq x.1++46::(Cq x.2++32::F9 l)
theorem RJ (l m:List Item):F9 (l++m)=F9 l++F9 m:=by
 induction l with
 |nil=>rfl
 |cons x l ih=>simp [F9,ih]
theorem RK {c:Int}:∀ {a b r s:List Int},(∀x∈a,x≠c)→(∀x∈b,x≠c)→a++c::r=b++c::s→a=b∧r=s:=by
 intro a
 induction a with
 |nil=>
  intro b r s _ hb h;cases b with
  |nil=>simpa using h
  |cons y b=>simp at h;exact absurd h.1.symm (hb y (by simp))
 |cons x a ih=>
  intro b r s ha hb h;cases b with
  |nil=>simp at h;exact absurd h.1 (ha x (by simp))
  |cons y b=>
   simp at h;obtain ⟨h1,h2⟩:=ih (fun z hz=>ha z (by simp [hz])) (fun z hz=>hb z (by simp [hz])) h.2;exact ⟨by rw [h.1,h1],h2⟩
theorem Vk:∀ {a b:List Item},F9 a=F9 b→a=b:=by
 intro a
 induction a with
 |nil=>
  intro b h;cases b with
  |nil=>rfl
  |cons y b=>simp [F9]at h
 |cons x a ih=>
  intro b h;cases b with
  |nil=>simp [F9]at h
  |cons y b=>
   obtain ⟨h1,h2⟩:=RK (fun z hz=>(Es x.1 z hz).2.2) (fun z hz=>(Es y.1 z hz).2.2) h;obtain ⟨h3,h4⟩:=RK (fun z hz=>(Es x.2 z hz).2.1) (fun z hz=>(Es y.2 z hz).2.1) h2;rw [gN (OB h1) (OB h3),ih h4]
theorem Mi (l:List Item):∀x∈F9 l,Jb x=true:=by
 induction l with
 |nil=>intro x hx;cases hx
 |cons y l ih=>
  intro x hx;simp only [F9,fC,List.mem_cons]at hx;rcases hx with h | rfl | h | rfl | h
  ·exact (Es _ x h).1
  ·decide
  ·exact (Es _ x h).1
  ·decide
  ·exact ih x h
def I64 (l:List Item):Prop:= ∀x∈l,0≤x.1∧x.1≤1000000∧0≤x.2∧x.2≤1000000
theorem Vl {l:List Item}(h:I64 l):(F9 l).length≤l.length *44:=by
 induction l with
 |nil=>simp [F9]
 |cons x l ih=>
  have a:=h x (by simp)
  have:=ih fun y hy=>h y (by simp [hy])
  have h1:=Ij (i:=x.1) (by omega) (by omega);have h2:=Ij (i:=x.2) (by omega) (by omega);simp only [F9,cQ,dL];omega
def SZ (l:List Item):ByteArray:=⟨((F9 l).map fun x=>eQ x.toNat).toArray⟩
theorem Sa {x:Int}(h:Jb x=true):((eQ x.toNat).toNat:Int)=x:=by
 unfold Jb at h;simp only [eK,decide_eq_true_eq]at h;simp;omega
theorem Vm {a b:List Item}(h:SZ a=SZ b):a=b:=by
 unfold SZ at h;simp only [ByteArray.mk.injEq]at h;have h1:∀l:List Int,(∀x∈l,Jb x=true)→(l.map fun x=>eQ x.toNat).map (fun b=>(b.toNat:Int))=l:=fun l hl=>by
  rw [List.map_map]
  conv=>rhs;rw [←List.map_id l]
  refine List.map_congr_left fun x hx=>Sa (hl x hx)
 refine Vk ?_;rw [←h1 (F9 a) (Mi a),←h1 (F9 b) (Mi b)];rw [List.toArray_inj h]
theorem Yd {l:List Item}(h:I64 l) (hl:l.length≤20000):EE l=some (SZ l):=by
 refine gR ?_;unfold EE;refine CN (fun k (z:List Int)=>z=F9 (l.take k)) (by omega) rfl (fun k z hk hz=> ?_) fun z hz=> ?_
 ·subst hz;have hx:=bR hk;have a:=h _ (cD hk);have e:F9 (l.take (k+1))=F9 (l.take k) ++F9 [l[k]]:=by rw [dG,hx,RJ];rfl
  have hlen:=Vl (l:=l.take k) fun y hy=>h y (eI hy)
  have:(l.take k).length≤k:=by rw [dM];omega
  have h1:=Ij (i:=l[k].1) (by omega) (by omega);have h2:=Ij (i:=l[k].2) (by omega) (by omega);have c1:D5 (F9 (l.take k)) l[k].1 10=some (F9 (l.take k) ++Cq l[k].1):=by unfold D5;rw [if_pos ⟨rfl,by omega,by omega,by omega⟩]
  refine AW hx (AL c1 (Bk (by simp;omega) ?_));have c2:D5 (F9 (l.take k) ++Cq l[k].1++ [46]) l[k].2 10=some (F9 (l.take k) ++Cq l[k].1++ [46] ++Cq l[k].2):=by unfold D5;rw [if_pos ⟨rfl,by omega,by omega,by simp;omega⟩]
  refine AL c2 (Bk (by simp;omega) (AD ?_));rw [e];simp [F9]
 ·subst hz;rw [cS (cU _)];refine AL (x:=SZ l) ?_ (AD rfl);unfold S8 SZ;rw [if_pos (List.all_eq_true.2 (Mi l))]
def nx (R:Rl) (l:List Item) (s:Int):List Item:=(l.filter fun x=>beh R x==s).map fun x=>(x.1,x.2+1)
theorem OkI.dot {nT:Int}{R:Rl}(V:VP nT R) {x:Item}(h:OkI R x):x.1≤1000∧x.2≤1000:=by
 obtain ⟨h0,h1,r,h2,h3⟩:=h
 have:=V.short r (bY h2)
 have:=(List.getElem?_eq_some_iff.1 h2).1
 have:=V.few
 omega
theorem OkI.i64 {nT:Int}{R:Rl}(V:VP nT R) {l:List Item}(h:∀x∈l,OkI R x):I64 l:=fun x hx=>by
 have:=(h x hx).dot V
 have:=(h x hx).1
 have:=(h x hx).2.1
 omega
theorem XB {p:A9}{nT:Int}(V:VP nT p.2.2.1) {l:List Item}(h:∀x∈l,OkI p.2.2.1 x) (hl:l.length≤1000000) (s:Int):B7 (qA p DM 0) l s=some (nx p.2.2.1 l s):=by
 refine gR ?_;unfold B7;refine CN (fun k (z:List Item)=>z=nx p.2.2.1 (l.take k) s) (by omega) rfl (fun k z hk hz=> ?_) fun z hz=>AD (by rw [hz,cS (cU _)]);subst hz;have hx:=bR hk;have a:=h _ (cD hk);have ad:=a.dot V;have a2:=a.2.1;have e:nx p.2.2.1 (l.take (k+1)) s=nx p.2.2.1 (l.take k) s++nx p.2.2.1 [l[k]] s:=by
  rw [dG,hx];unfold nx;rw [fZ,eF];rfl
 have hlen:(nx p.2.2.1 (l.take k) s).length≤k:=by
  unfold nx;rw [dR]
  have:=eH (fun x=>beh p.2.2.1 x==s) (l.take k)
  rw [dM]at this;omega
 refine AW hx (AL (Mg a) ?_);refine AP (Q:=fun z=>z=nx p.2.2.1 (l.take (k+1)) s) (Ac (fun hc=> ?_) fun hc=>AD ?_) fun z hz=>AD hz
 ·refine Bk (by simp;omega) (AD ?_);rw [e,w64 (by omega) (by omega)];unfold nx;rw [eV,if_pos hc];rfl
 ·rw [e];unfold nx;rw [eV,if_neg (by rw [hc];decide)];simp
theorem Sb {R:Rl}{l:List Item}{s:Int}{y:Item}:y∈nx R l s↔∃x∈l,beh R x=s∧y=(x.1,x.2+1):=by
 unfold nx;simp only [List.mem_map,List.mem_filter,beq_iff_eq];constructor
 ·rintro ⟨x,⟨h1,h2⟩,h3⟩;exact ⟨x,h1,h2,h3.symm⟩
 ·rintro ⟨x,h1,h2,h3⟩;exact ⟨x,⟨h1,h2⟩,h3.symm⟩
theorem X4 {R:Rl}{l:List Item}(h:l.Pairwise Lt) (s:Int):(nx R l s).Pairwise Lt:=by
 unfold nx;rw [List.pairwise_map];exact (h.filter _).imp fun {a b} h=>by unfold Lt at *;dsimp only;omega
theorem TL {nT:Int}{R:Rl}(V:VP nT R) {l:List Item}(h:∀x∈l,OkI R x) {s:Int}(hs:0≤s):∀y∈nx R l s,OkI R y∧1≤y.2:=fun y hy=>by
 obtain ⟨x,h1,h2,rfl⟩:=Sb.1 hy;obtain ⟨g0,g1,r,g2,g3⟩:=h x h1;refine ⟨⟨g0,by dsimp only;omega,r,g2,?_⟩,by dsimp only;omega⟩;unfold beh at h2;rw [g2]at h2;dsimp only at h2 ⊢;rcases fE x.2.toNat r.2.1.length with g | g
 ·omega
 ·rw [dC g]at h2;simp at h2;omega
def syr (R:Rl) (l:List Item):List Int:=(l.map (beh R)).filter fun s=>decide (0≤s)
def sy (R:Rl) (l:List Item):List Int:=Lib.compact (Js (syr R l))
theorem Sc {p:A9}{l:List Item}(h:∀x∈l,OkI p.2.2.1 x) (hl:l.length≤1000000):Bl (qA p DM 0) l=some (sy p.2.2.1 l):=by
 refine gR ?_;unfold Bl;have hlen:∀k,(syr p.2.2.1 (l.take k)).length≤l.length:=fun k=>by
  unfold syr
  have:=eH (fun s=>decide (0≤s)) ((l.take k).map (beh p.2.2.1))
  rw [dR,dM]at this;omega
 refine CN (fun k (z:List Int)=>z=syr p.2.2.1 (l.take k)) (by omega) rfl (fun k z hk hz=> ?_) fun z hz=> ?_
 ·subst hz;have hx:=bR hk;have a:=h _ (cD hk);have e:syr p.2.2.1 (l.take (k+1))=syr p.2.2.1 (l.take k) ++syr p.2.2.1 [l[k]]:=by
   rw [dG,hx];unfold syr;rw [eF,fZ];rfl
  have:=hlen k
  refine AW hx (AL (Mg a) ?_);refine AP (Q:=fun z=>z=syr p.2.2.1 (l.take (k+1))) (Ac (fun hc=> ?_) fun hc=>AD ?_) fun z hz=>AD hz
  ·refine Bk (by simp;omega) (AD ?_);rw [e];unfold syr;rw [eY,eV,if_pos (by simpa using hc)];rfl
  ·rw [e];unfold syr;rw [eY,eV,if_neg (by simpa using hc)];simp
 ·subst hz
  have:=hlen l.length
  rw [cS (cU _)]at this ⊢;refine AL (x:=Js (syr p.2.2.1 l)) (by unfold TB;rw [if_pos (by omega)])<|AL (x:=sy p.2.2.1 l) (by unfold Ly;rw [if_pos (by unfold Js;rw [(DJ _ _).length_eq];omega)];rfl) (AD rfl)
theorem RL (l:List Int):(Js l).Pairwise (· ≤ ·):=by
 have h1:=Nr (le:=fun x y:Int=>decide (x≤y)) (by
  intro a b c h1 h2;simp only [decide_eq_true_eq]at *
  omega) (by
  intro a b;simp only [dH,decide_eq_true_eq]
  omega) l
 exact h1.imp fun {a b} h=>of_decide_eq_true h
theorem PN {l:List Int}(h:l.Pairwise (· ≤ ·)):∀m,m≤l.length→(Lib.compactUpTo l.toArray m).Pairwise (· < ·)∧(∀x,x∈Lib.compactUpTo l.toArray m↔x∈l.take m):=by
 intro m
 induction m with
 |zero=>intro _;exact ⟨.nil,fun x=>by simp [Lib.compactUpTo]⟩
 |succ m ih=>
  intro hm;obtain ⟨h1,h2⟩:=ih (by omega);rw [Lib.compactUpTo_succ];have hx:=bR (show m<l.length by omega);have e0:l.toArray[m]! =l[m]:=by rw [getElem!_pos _ m (by simp;omega)];simp
  have et:l.take (m+1)=l.take m++ [l[m]]:=by rw [dG,hx];rfl
  have le:∀x∈l.take m,x≤l[m]:=fun x hx=>by
   obtain ⟨j,hj,rfl⟩:=fY hx;rw [dM]at hj;rw [gE];exact List.pairwise_iff_getElem.1 h j m (by omega) (by omega) (by omega)
  cases hk:Lib.keeps l.toArray m with
  |true=>
   rw [if_pos rfl,e0,et];refine ⟨List.pairwise_append.2 ⟨h1,by simp,fun x hx y hy=> ?_⟩,fun x=>by rw [fC,fC,h2]⟩;obtain rfl:=List.mem_singleton.1 hy;have hx':=(h2 x).1 hx
   have:=le x hx'
   unfold Lib.keeps at hk;have hk:=of_decide_eq_true hk;rcases hk with rfl | hk
   ·simp at hx'
   ·have e1:l.toArray[m - 1]! =l[m - 1]:=by rw [getElem!_pos _ (m - 1) (by simp;omega)];simp
    rw [e0,e1]at hk;have hm0:m≠0:=fun h0=>by subst h0;simp at hx'
    have hle:x≤l[m - 1]:=by
     obtain ⟨j,hj,rfl⟩:=fY hx';rw [dM]at hj;rw [gE];rcases fE j (m - 1) with g | g
     ·exact List.pairwise_iff_getElem.1 h j (m - 1) (by omega) (by omega) (by omega)
     ·have:j=m - 1:=by omega
      subst this;exact Int.le_refl _
    have:=List.pairwise_iff_getElem.1 h (m - 1) m (by omega) (by omega) (by omega)
    omega
  |false=>
   rw [if_neg (by decide),dS,et];refine ⟨h1,fun x=> ?_⟩;rw [h2,fC,List.mem_singleton];unfold Lib.keeps at hk;have hk:=of_decide_eq_false hk;have hm0:m≠0:=fun h0=>hk (.inl h0);have e1:l.toArray[m - 1]! =l[m - 1]:=by rw [getElem!_pos _ (m - 1) (by simp;omega)];simp
   have heq:l[m] =l[m - 1]:=by
    by_cases q:l[m] =l[m - 1]
    ·exact q
    ·exact absurd (.inr (by rw [e0,e1];exact q)) hk
   constructor
   ·exact .inl
   ·rintro (h | rfl)
    ·exact h
    ·rw [heq];refine bY (i:=m - 1) ?_;rw [gA,if_pos (by omega),bR (by omega)]
theorem ZD (R:Rl) (l:List Item):(sy R l).Pairwise (· < ·):=(PN (RL _) _ (cU _)).1
theorem Mj {R:Rl}{l:List Item}{s:Int}:s∈sy R l↔0≤s∧ ∃x∈l,beh R x=s:=by
 unfold sy Lib.compact;rw [(PN (RL _) _ (cU _)).2,cS (cU _)];unfold Js;rw [(DJ _ _).mem_iff];unfold syr;simp only [List.mem_filter,List.mem_map,decide_eq_true_eq];constructor
 ·rintro ⟨⟨x,h1,h2⟩,h3⟩;exact ⟨h3,x,h1,h2⟩
 ·rintro ⟨h3,x,h1,h2⟩;exact ⟨⟨x,h1,h2⟩,h3⟩
theorem Vn (R:Rl) (l:List Item):(sy R l).length≤l.length:=by
 have h1:=Ns (Js (syr R l));have h2:(Js (syr R l)).length=(syr R l).length:=(DJ _ _).length_eq;have h3:(syr R l).length≤(l.map (beh R)).length:=eH _ _;rw [dR]at h3;unfold sy;omega
abbrev k0:List Item:=[((0:Int),(0:Int))]
noncomputable def clo (p:A9) (K:List Item):List Item:=(BF (qA p DM 0) K).getD []
abbrev VPp (p:A9):Prop:=VP (p.1.length:Int) p.2.2.1
structure OC (R:Rl) (k:List Item):Prop where
 ok:∀x∈k,OkI R x
 up:k.Pairwise Lt
theorem Lt.nodup {l:List Item}(h:l.Pairwise Lt):l.Nodup:=List.nodup_iff_pairwise_ne.2 (h.imp fun {a b} h e=>by subst e;exact Lt.irrefl _ h)
theorem KS {nT:Int}{R:Rl}(V:VP nT R) {l:List Item}(h:∀x∈l,OkI R x) (hn:l.Nodup):l.length≤10100:=by
 have:=List.Nodup.length_le_of_subset (l₂:=(fG 100).flatMap fun a=>(fG 101).map fun b=>(((a:Nat):Int),((b:Nat):Int))) hn (fun x hx=>by
  obtain ⟨h0,h1,r,h2,h3⟩:=h x hx
  have:=V.short r (bY h2)
  have:=(List.getElem?_eq_some_iff.1 h2).1
  have:=V.few
  refine List.mem_flatMap.2 ⟨x.1.toNat,List.mem_range.2 (by omega),List.mem_map.2 ⟨x.2.toNat,List.mem_range.2 (by omega),?_⟩⟩;exact gN (by dsimp only;omega) (by dsimp only;omega))
 refine dI this ?_;rw [List.length_flatMap];simp only [dR,gF];decide
theorem OD {p:A9}(V:VPp p) {K:List Item}(h:OC p.2.2.1 K):BF (qA p DM 0) K=some (clo p K)∧QB p.2.2.1 K (clo p K)∧OC p.2.2.1 (clo p K)∧(clo p K).length≤10100:=by
 have hl:=KS V h.ok (Lt.nodup h.up);obtain ⟨C,h1,h2⟩:=SY V h.ok (Lt.nodup h.up) (by omega);have e:clo p K=C:=by unfold clo;rw [h1];rfl
 rw [e];have hg:OC p.2.2.1 C:=⟨fun x hx=>((h2.mem x).1 hx).ok h.ok,h2.up⟩;exact ⟨h1,h2,hg,KS V hg.ok (Lt.nodup hg.up)⟩
noncomputable def FE (p:A9) (B:List dtK) (k:List Item) (fr wi:Int):Nat×List dtK:=
 match B.findIdx? (fun b=>decide (b.1=k)) with
 |some i=>(i,B)
 |none=>(B.length,B++ [(k,clo p k,fr,wi)])
abbrev BE:Type:=List dtK×List (List Edge)
noncomputable def GA (p:A9) (b:dtK) (i:Nat) (y:BE) (s:Int):BE:=((FE p y.1 (nx p.2.2.1 b.2.1 s) (i:Int) s).2,(F8 y.2 y.1.length (FE p y.1 (nx p.2.2.1 b.2.1 s) (i:Int) s).2.length).set i ((((F8 y.2 y.1.length (FE p y.1 (nx p.2.2.1 b.2.1 s) (i:Int) s).2.length))[i]?).getD [] ++ [(s,(((FE p y.1 (nx p.2.2.1 b.2.1 s) (i:Int) s).1:Nat):Int))]))
noncomputable def NB (p:A9) (b:dtK) (i:Nat) (l:List Int) (y:BE):BE:=l.foldl (GA p b i) y
noncomputable def stM (p:A9):Nat→BE
 | 0=>([(k0,clo p k0, -1, -1)],[[]])
 |n+1=>match (stM p n).1[n]? with
  |some b=>NB p b n (sy p.2.2.1 b.2.1) (stM p n)
  |none=>stM p n
noncomputable def mid (p:A9) (n m:Nat):BE:=match (stM p n).1[n]? with
 |some b=>NB p b n ((sy p.2.2.1 b.2.1).take m) (stM p n)
 |none=>stM p n
theorem NC (p:A9) (B:List dtK) (k:List Item) (fr wi:Int):
 (∃i b,FE p B k fr wi=(i,B)∧B[i]? =some b∧b.1=k)∨(FE p B k fr wi=(B.length,B++ [(k,clo p k,fr,wi)])∧ ∀b∈B,b.1≠k):=by
 unfold FE;cases h:B.findIdx? (fun b=>decide (b.1=k)) with
 |none=>
  right
  refine ⟨rfl,fun b hb e=> ?_⟩
  have:=List.findIdx?_eq_none_iff.1 h b hb
  simp [e]at this
 |some i=>
  left
  obtain ⟨hi,h1,_⟩:=List.findIdx?_eq_some_iff_getElem.1 h;exact ⟨i,B[i],rfl,bR hi,of_decide_eq_true h1⟩
def HW (R:Rl) (B:List dtK) (b:dtK) (syms:List Int) (e:List Edge):Prop:=
 e.map (·.1)=syms∧ ∀x∈e,∃(t:Nat) (bt:dtK),x.2=(t:Int)∧1≤t∧B[t]? =some bt∧bt.1=nx R b.2.1 x.1
structure Inv (p:A9) (n:Nat) (syms:List Int) (y:BE):Prop where
 wf:∀b∈y.1,OC p.2.2.1 b.1∧b.2.1=clo p b.1
 len:y.2.length=y.1.length
 zero:y.1[0]? =some (k0,clo p k0, -1, -1)
 from_:∀(j:Nat) b,1≤j→y.1[j]? =some b→ ∃(f:Nat) (bf:dtK) (e:List Edge),f<j∧b.2.2.1=(f:Int)∧y.1[f]? =some bf∧b.1=nx p.2.2.1 bf.2.1 b.2.2.2∧b.2.2.2∈sy p.2.2.1 bf.2.1∧y.2[f]? =some e∧(b.2.2.2,(j:Int))∈e
 apart:∀(i j:Nat) bi bj,y.1[i]? =some bi→y.1[j]? =some bj→bi.1=bj.1→i=j
 done:∀(j:Nat) b e,j<n→y.1[j]? =some b→y.2[j]? =some e→HW p.2.2.1 y.1 b (sy p.2.2.1 b.2.1) e
 cur:∀b e,y.1[n]? =some b→y.2[n]? =some e→HW p.2.2.1 y.1 b syms e
 fresh:∀(j:Nat) e,n<j→y.2[j]? =some e→e= []
theorem HW.up {R:Rl}{B B':List dtK}{b:dtK}{syms:List Int}{e:List Edge}(H:HW R B b syms e) (hB:∀(j:Nat) x,B[j]? =some x→B'[j]? =some x):HW R B' b syms e:=
 ⟨H.1,fun x hx=>by obtain ⟨t,bt,h1,h2,h3,h4⟩:=H.2 x hx;exact ⟨t,bt,h1,h2,hB t bt h3,h4⟩⟩
theorem EF {α:Type}{l:List α}{x y:α}{j:Nat}(h:l[j]? =some y):(l++ [x])[j]? =some y:=by
 rw [bX (List.getElem?_eq_some_iff.1 h).1];exact h
theorem Bo {α:Type}{l:List α}{y:α}{j:Nat}(h:l[j]? =some y):j<l.length:=(List.getElem?_eq_some_iff.1 h).1
theorem Inv.grow {p:A9}{n:Nat}{syms:List Int}{B:List dtK}{E:List (List Edge)}(H:Inv p n syms (B,E)) (hn:n<B.length) {x:dtK}:(E++ [[]]).length=(B++ [x]).length∧(B++ [x])[0]? =some (k0,clo p k0, -1, -1)∧
 (∀(j:Nat) b e,j<n→(B++ [x])[j]? =some b→(E++ [[]])[j]? =some e→HW p.2.2.1 (B++ [x]) b (sy p.2.2.1 b.2.1) e)∧
 (∀b e,(B++ [x])[n]? =some b→(E++ [[]])[n]? =some e→HW p.2.2.1 (B++ [x]) b syms e)∧(∀(j:Nat) e,n<j→(E++ [[]])[j]? =some e→e= []):=by
 have hl:=H.len;dsimp only at hl;refine ⟨by simp [hl],EF H.zero,fun j b e hj hb he=> ?_,fun b e hb he=> ?_,fun j e hj he=> ?_⟩
 ·rw [bX (by omega)]at hb he;exact (H.done j b e hj hb he).up fun _ _ h=>EF h
 ·rw [bX (by omega)]at hb he;exact (H.cur b e hb he).up fun _ _ h=>EF h
 ·rcases FD he with h | ⟨_,h⟩
  ·exact H.fresh j e hj h
  ·exact h
theorem Inv.edge {p:A9}(V:VPp p) {n:Nat}{syms:List Int}{B:List dtK}{E:List (List Edge)}(H:Inv p n syms (B,E)) {b:dtK}(hb:B[n]? =some b) {s:Int}(hs:s∈sy p.2.2.1 b.2.1):Inv p n (syms++ [s]) (GA p b n (B,E) s):=by
 have hnl:=Bo hb;have hl:=H.len;dsimp only at hl;obtain ⟨e,he⟩:∃e,E[n]? =some e:=⟨_,bR (by omega)⟩;obtain ⟨hg,hc⟩:=H.wf b (bY hb);obtain ⟨_,_,hgc,_⟩:=OD V hg;obtain ⟨s0,xs,hxs,hxe⟩:=Mj.1 hs;have hne:∀y∈nx p.2.2.1 b.2.1 s,1≤y.2:=fun y hy=>(TL V (l:=b.2.1) (by rw [hc];exact hgc.ok) s0 y hy).2;have hnn:∃y,y∈nx p.2.2.1 b.2.1 s:=⟨_,Sb.2 ⟨xs,hxs,hxe,rfl⟩⟩;have hzero:nx p.2.2.1 b.2.1 s≠k0:=fun h=>by
  obtain ⟨y,hy⟩:=hnn
  have:=hne y hy
  rw [h]at hy
  have:=List.mem_singleton.1 hy
  subst this;dsimp only at *;omega
 have hcur:=H.cur b e hb he;unfold GA;rcases NC p B (nx p.2.2.1 b.2.1 s) (n:Int) s with ⟨i,bi,h1,h2,h3⟩|⟨h1,h2⟩
 ·dsimp only;rw [h1];dsimp only;have hgE:F8 E B.length B.length=E:=by unfold F8;rw [if_pos rfl]
  rw [hgE,he,fO];have hi1:1≤i:=by
   rcases eC i with h | h
   ·subst h
    have:=H.zero
    dsimp only at this;rw [h2]at this;cases this;exact absurd h3.symm hzero
   ·exact h
  refine ⟨H.wf,by simp [hl],H.zero,fun j b' hj hb'=> ?_,H.apart,fun j b' e' hj hb' he'=> ?_,fun b' e' hb' he'=> ?_,fun j e' hj he'=> ?_⟩
  ·obtain ⟨f,bf,ef,g1,g2,g3,g4,g5,g6,g7⟩:=H.from_ j b' hj hb';dsimp only at g3 g6 ⊢;by_cases hf:f=n
   ·subst hf;rw [he]at g6;cases g6;exact ⟨f,bf,_,g1,g2,g3,g4,g5,dJ (by omega),dU _ g7⟩
   ·exact ⟨f,bf,ef,g1,g2,g3,g4,g5,by rw [dD (fun h=>hf h.symm)];exact g6,g7⟩
  ·dsimp only at he';rw [dD (by omega)]at he';exact H.done j b' e' hj hb' he'
  ·dsimp only at he' hb';rw [dJ (by omega)]at he';rw [hb]at hb';cases he';cases hb';refine ⟨by rw [eF,hcur.1];rfl,fun x hx=> ?_⟩;rcases List.mem_append.1 hx with h | h
   ·exact hcur.2 x h
   ·obtain rfl:=List.mem_singleton.1 h;exact ⟨i,bi,rfl,hi1,h2,h3⟩
  ·dsimp only at he';rw [dD (by omega)]at he';exact H.fresh j e' hj he'
 ·dsimp only;rw [h1];dsimp only;have hgE:F8 E B.length (B++ [(nx p.2.2.1 b.2.1 s,clo p (nx p.2.2.1 b.2.1 s),(n:Int),s)]).length=E++ [[]]:=by unfold F8;rw [if_neg (by simp)]
  have he1:(E++ [[]])[n]? =some e:=EF he;rw [hgE,he1,fO];obtain ⟨q1,q2,q3,q4,q5⟩:=H.grow hnl (x:=(nx p.2.2.1 b.2.1 s,clo p (nx p.2.2.1 b.2.1 s),(n:Int),s));have hgk:OC p.2.2.1 (nx p.2.2.1 b.2.1 s):=⟨fun y hy=>(TL V (l:=b.2.1) (by rw [hc];exact hgc.ok) s0 y hy).1,X4 (by rw [hc];exact hgc.up) s⟩
  generalize hX:(nx p.2.2.1 b.2.1 s,clo p (nx p.2.2.1 b.2.1 s),(n:Int),s)=X at *
  have X1:X.1=nx p.2.2.1 b.2.1 s:=by rw [←hX]
  have hlast:(B++ [X])[B.length]? =some X:=by rw [cL (cU _),gG];rfl
  refine ⟨fun b' hb'=> ?_,by simp [hl],q2,fun j b' hj hb'=> ?_,fun i j bi bj hi hj hij=> ?_,fun j b' e' hj hb' he'=> ?_,fun b' e' hb' he'=> ?_,fun j e' hj he'=> ?_⟩
  ·rcases List.mem_append.1 hb' with h | h
   ·exact H.wf b' h
   ·obtain rfl:=List.mem_singleton.1 h;rw [←hX];exact ⟨hgk,rfl⟩
  ·dsimp only at hb' ⊢;rcases FD hb' with h | ⟨hj',rfl⟩
   ·obtain ⟨f,bf,ef,g1,g2,g3,g4,g5,g6,g7⟩:=H.from_ j b' hj h;dsimp only at g3 g6 ⊢;by_cases hf:f=n
    ·subst hf;rw [he]at g6;cases g6;exact ⟨f,bf,_,g1,g2,EF g3,g4,g5,dJ (by simp;omega),dU _ g7⟩
    ·exact ⟨f,bf,ef,g1,g2,EF g3,g4,g5,by rw [dD (fun h=>hf h.symm)];exact EF g6,g7⟩
   ·subst hj';refine ⟨n,b,_,hnl,by rw [←hX],EF hb,by rw [←hX],by rw [←hX];exact hs,dJ (by simp;omega),dO _ ?_⟩;rw [←hX];exact List.mem_singleton.2 rfl
  ·dsimp only at hi hj;rcases FD hi with a | ⟨a,a'⟩ <;>rcases FD hj with c | ⟨c,c'⟩
   ·exact H.apart i j bi bj a c hij
   ·rw [c',X1]at hij;exact absurd hij (h2 bi (bY a))
   ·rw [a',X1]at hij;exact absurd hij.symm (h2 bj (bY c))
   ·omega
  ·dsimp only at he' hb';rw [dD (by omega)]at he';exact q3 j b' e' hj hb' he'
  ·dsimp only at he' hb';rw [dJ (by simp;omega)]at he';rw [EF hb]at hb';cases he';cases hb';have hc2:=q4 b e (EF hb) he1;refine ⟨by rw [eF,hc2.1];rfl,fun x hx=> ?_⟩;rcases List.mem_append.1 hx with h | h
   ·exact hc2.2 x h
   ·obtain rfl:=List.mem_singleton.1 h;exact ⟨B.length,X,rfl,by omega,hlast,X1⟩
  ·dsimp only at he';rw [dD (by omega)]at he';exact q5 j e' hj he'
theorem PO {p:A9}{b:dtK}{n:Nat}{s:Int}(y:BE):∃l,(GA p b n y s).1=y.1++l:=by
 unfold GA;rcases NC p y.1 (nx p.2.2.1 b.2.1 s) (n:Int) s with ⟨i,bi,h1,_⟩|⟨h1,_⟩
 ·rw [h1];exact ⟨[],by simp⟩
 ·rw [h1];exact ⟨_,rfl⟩
theorem KT {p:A9}{b:dtK}{n:Nat}:∀(l:List Int) (y:BE),∃m,(NB p b n l y).1=y.1++m:=by
 intro l
 induction l with
 |nil=>intro y;exact ⟨[],by simp [NB]⟩
 |cons s l ih=>
  intro y;obtain ⟨m1,h1⟩:=PO (p:=p) (b:=b) (n:=n) (s:=s) y;obtain ⟨m2,h2⟩:=ih (GA p b n y s);exact ⟨m1++m2,by rw [←cH,←h1];exact h2⟩
theorem Inv.fold {p:A9}(V:VPp p) {n:Nat}{b:dtK}:∀(l:List Int) {syms:List Int}{y:BE},Inv p n syms y→y.1[n]? =some b→(∀s∈l,s∈sy p.2.2.1 b.2.1)→Inv p n (syms++l) (NB p b n l y):=by
 intro l
 induction l with
 |nil=>intro syms y H hb _;rw [dS];exact H
 |cons s l ih=>
  intro syms y H hb hl;obtain ⟨B,E⟩:=y;have h1:=H.edge V hb (hl s (by simp));obtain ⟨m,hm⟩:=PO (p:=p) (b:=b) (n:=n) (s:=s) (B,E);have h2:=ih h1 (by rw [hm,bX (Bo hb)];exact hb) (fun x hx=>hl x (by simp [hx]));rw [cH]at h2;exact h2
theorem Inv.next {p:A9}{n:Nat}{y:BE}{b:dtK}(hb:y.1[n]? =some b) (H:Inv p n (sy p.2.2.1 b.2.1) y):Inv p (n+1) [] y:=by
 refine ⟨H.wf,H.len,H.zero,H.from_,H.apart,fun j b' e hj hb' he=> ?_,fun b' e hb' he=> ?_,fun j e hj he=>H.fresh j e (by omega) he⟩
 ·rcases Nat.lt_succ_iff_lt_or_eq.1 hj with h | rfl
  ·exact H.done j b' e h hb' he
  ·rw [hb]at hb';cases hb';exact H.cur b e hb he
 ·have:=H.fresh (n+1) e (by omega) he
  subst this;exact ⟨rfl,by simp⟩
theorem Inv.skip {p:A9}{n:Nat}{syms:List Int}{y:BE}(hn:y.1.length≤n) (H:Inv p n syms y) (m:Nat) (hm:n≤m):Inv p m [] y:=by
 have hl:=H.len;refine ⟨H.wf,H.len,H.zero,H.from_,H.apart,fun j b e hj hb he=>H.done j b e (by have:=Bo hb;omega) hb he,fun b e hb he=> ?_,fun j e hj he=> ?_⟩
 ·have:=Bo hb;omega
 ·have:=Bo he;omega
theorem QD {p:A9}(V:VPp p) (hp:1≤p.2.2.1.length):∀n,Inv p n [] (stM p n):=by
 intro n
 induction n with
 |zero=>
  have hg:OC p.2.2.1 k0:=⟨fun x hx=>by
   obtain rfl:=List.mem_singleton.1 hx;exact ⟨by decide,by decide,p.2.2.1[0],bR (by omega),by simp⟩,by simp⟩
  have one:∀(j:Nat) b,(stM p 0).1[j]? =some b→j=0:=fun j b h=>by
   have:=Bo h
   simp [stM]at this;exact this
  refine ⟨fun b hb=> ?_,rfl,rfl,fun j b hj hb=> ?_,fun i j bi bj hi hj _=>by rw [one i bi hi,one j bj hj],fun j b e hj=>by omega,fun b e hb he=> ?_,fun j e hj he=> ?_⟩
  ·have:b=(k0,clo p k0, -1, -1):=List.mem_singleton.1 hb
   subst this;exact ⟨hg,rfl⟩
  ·have:=one j b hb;omega
  ·have:e= []:=by simpa [stM]using he.symm
   subst this;exact ⟨rfl,by simp⟩
  ·have:=Bo he
   simp [stM]at this;omega
 |succ n ih=>
  unfold stM;cases h:(stM p n).1[n]? with
  |none=>exact ih.skip (List.getElem?_eq_none_iff.1 h) (n+1) (by omega)
  |some b=>
   have h2:=ih.fold V (sy p.2.2.1 b.2.1) h (fun s hs=>hs);refine Inv.next (b:=b) ?_ h2;obtain ⟨m,hm⟩:=KT (p:=p) (b:=b) (n:=n) (sy p.2.2.1 b.2.1) (stM p n);rw [hm,bX (Bo h)];exact h
theorem XC {p:A9}(V:VPp p) (hp:1≤p.2.2.1.length) {n m:Nat}{b:dtK}(hb:(stM p n).1[n]? =some b):Inv p n ((sy p.2.2.1 b.2.1).take m) (mid p n m)∧(mid p n m).1[n]? =some b:=by
 have H:=(QD V hp n).fold V ((sy p.2.2.1 b.2.1).take m) hb (fun s hs=>eI hs);obtain ⟨l,hl⟩:=KT (p:=p) (b:=b) (n:=n) ((sy p.2.2.1 b.2.1).take m) (stM p n);unfold mid;rw [hb];exact ⟨H,by rw [hl,bX (Bo hb)];exact hb⟩
theorem Vo {p:A9}{n m:Nat}{b:dtK}{s:Int}(hb:(stM p n).1[n]? =some b) (hs:(sy p.2.2.1 b.2.1)[m]? =some s):mid p n (m+1)=GA p b n (mid p n m) s:=by
 unfold mid;rw [hb];dsimp only;rw [dG,hs];unfold NB;rw [fM];rfl
theorem TM {p:A9}{n:Nat}{b:dtK}(hb:(stM p n).1[n]? =some b):mid p n (sy p.2.2.1 b.2.1).length=stM p (n+1):=by
 unfold mid;rw [stM];rw [hb];dsimp only;rw [cS (cU _)]
theorem XD (p:A9) (n:Nat):∃l,(stM p (n+1)).1=(stM p n).1++l:=by
 rw [stM];cases h:(stM p n).1[n]? with
 |none=>exact ⟨[],by simp⟩
 |some b=>exact KT _ _
theorem Vp (p:A9) {n m:Nat}(h:n≤m):∃l,(stM p m).1=(stM p n).1++l:=by
 induction h with
 |refl=>exact ⟨[],by simp⟩
 | @step m _ ih=>
  obtain ⟨l,hl⟩:=ih;obtain ⟨l',hl'⟩:=XD p m;exact ⟨l++l',by rw [hl',hl,cH]⟩
theorem Sd {p:A9}{n:Nat}(h:(stM p n).1.length≤n) {m:Nat}(hm:n≤m):stM p m=stM p n:=by
 induction hm with
 |refl=>rfl
 | @step m hm ih=>
  rw [stM,ih,dC (dI h hm)]
theorem TN {α:Type}{o:Option α}{P:α→Prop}(h:Ok (o.bind some) P):Ok o P:=by
 cases o with
 |none=>exact h
 |some x=>exact h
def tot (B:List dtK):Nat:=(B.map (·.2.1.length)).sum
theorem TO (B C:List dtK):tot (B++C)=tot B+tot C:=by unfold tot;rw [eF,List.sum_append]
def Fit (L M:Int) (B:List dtK):Prop:=(B.length:Int) ≤L∧((tot B:Nat):Int) ≤M
theorem Fit.of_app {L M:Int}{B C:List dtK}(h:Fit L M (B++C)):Fit L M B:=by
 unfold Fit at *;rw [TO,cQ]at h;omega
structure NG (L M:Int) (fd:Fd) (rm cl:Ct) (B:List dtK):Prop where
 map:∀k,I64 k→BY (SZ k) fd=(B.findIdx? (fun b=>decide (b.1=k))).map (fun n:Nat=>(n:Int))
 rlim:rm.1=L
 rused:rm.2.1=(B.length:Int)
 clim:cl.1=M
 cused:cl.2.1=((tot B:Nat):Int)
theorem TP {m:Ct}{n:Int}(h0:0≤n) (h1:n≤1000000) (h2:0≤m.2.1) (h3:m.2.1≤m.1) (h4:m.1≤1099511627776):
 Ok (CU m n) fun t=>(n≤m.1 - m.2.1→t.1=0∧t.2.1=m.1∧t.2.2.1=m.2.1+n)∧(m.1 - m.2.1<n→t.1=5∧t.2=m):=by
 unfold CU DW;refine AU (decide_eq_false (by omega)) (AL rfl ?_);rw [w64 (show -9223372036854775808≤m.1 - m.2.1 by omega) (by omega),w64 (show -9223372036854775808≤m.2.1+n by omega) (by omega)];refine Ac (fun hc=>AD ?_) fun hc=>AD ?_
 ·have:=of_decide_eq_true hc
  exact ⟨fun h=>by omega,fun _=>⟨rfl,rfl⟩⟩
 ·have:=of_decide_eq_false hc
  exact ⟨fun _=>⟨rfl,rfl,rfl⟩,fun h=>by omega⟩
theorem UN {B:List dtK}{x:dtK}{k:List Item}(h:∀b∈B,b.1≠x.1):(B++ [x]).findIdx? (fun b=>decide (b.1=k))=if k=x.1 then some B.length else B.findIdx? (fun b=>decide (b.1=k)):=by
 rw [List.findIdx?_append];by_cases e:k=x.1
 ·rw [if_pos e]
  have:B.findIdx? (fun b=>decide (b.1=k))=none:=List.findIdx?_eq_none_iff.2 fun b hb=>decide_eq_false (by rw [e];exact h b hb)
  rw [this];simp [e]
 ·rw [if_neg e]
  have: [x].findIdx? (fun b=>decide (b.1=k))=none:=List.findIdx?_eq_none_iff.2 fun b hb=>decide_eq_false (by
   obtain rfl:=List.mem_singleton.1 hb;exact fun h=>e h.symm)
  rw [this];simp
theorem add_ok {p:A9}(V:VPp p) {L M:Int}{fd:Fd}{rm cl:Ct}{B:List dtK}{k:List Item}{fr wi:Int}(C:NG L M fd rm cl B) (F:Fit L M B) (hL:L≤1099511627776) (hM:M≤1099511627776) (g:OC p.2.2.1 k) (hB:B.length<1073741824):
 Ok (UJ p fd B rm cl k fr wi) fun r=>r.1=(((FE p B k fr wi).1:Nat):Int)∧r.2.2.2.1=(FE p B k fr wi).2∧(Fit L M (FE p B k fr wi).2→r.2.1=0∧NG L M r.2.2.1 r.2.2.2.2.1 r.2.2.2.2.2 (FE p B k fr wi).2)∧(¬Fit L M (FE p B k fr wi).2→r.2.1=5):=by
 have hi:=OkI.i64 V g.ok;have hkl:=KS V g.ok (Lt.nodup g.up);obtain ⟨c1,c2,c3,c4⟩:=OD V g;have hm:=C.map k hi;unfold UJ;refine AL (Yd hi (by omega)) ?_;unfold FE;cases hf:B.findIdx? (fun b=>decide (b.1=k)) with
 |some i=>
  rw [hf]at hm;rw [hm];exact Bd rfl (AD ⟨rfl,rfl,fun _=>⟨rfl,C⟩,fun h=>absurd F h⟩)
 |none=>
  rw [hf]at hm;have hno:∀b∈B,b.1≠k:=fun b hb=>of_decide_eq_false (List.findIdx?_eq_none_iff.1 hf b hb);rw [hm];have hLB:=F.1;have hMB:=F.2;refine AU rfl (AL c1 ?_);refine AP (TP (m:=rm) (n:=1) (by decide) (by decide) (by rw [C.rused];omega) (by rw [C.rused,C.rlim];exact hLB) (by rw [C.rlim];exact hL)) fun t ht=> ?_;rw [C.rused,C.rlim]at ht;have htot:tot (B++ [(k,clo p k,fr,wi)])=tot B+(clo p k).length:=by rw [TO];unfold tot;simp
  have hlen:(B++ [(k,clo p k,fr,wi)]).length=B.length+1:=by simp
  refine AP (Q:=fun (z:Int×Ct)=>(Fit L M (B++ [(k,clo p k,fr,wi)])→t.1=0∧z.1=0∧z.2.1=M∧z.2.2.1=((tot B+(clo p k).length:Nat):Int))∧(¬Fit L M (B++ [(k,clo p k,fr,wi)])→z.1=5)) (Ac (fun hc=> ?_) fun hc=>AD ?_) fun z hz=> ?_
  ·refine AP (TP (m:=cl) (n:=(((clo p k).length:Nat):Int)) (by omega) (by omega) (by rw [C.cused];omega) (by rw [C.cused,C.clim];exact hMB) (by rw [C.clim];exact hM)) fun u hu=>AD ?_;rw [C.cused,C.clim]at hu;unfold Fit;rw [htot,hlen];refine ⟨fun h=>⟨eq_of_beq hc,(hu.1 (by omega)).1,(hu.1 (by omega)).2.1,by rw [(hu.1 (by omega)).2.2];omega⟩,fun h=> ?_⟩;rcases fF (M - (tot B:Int)) ((clo p k).length:Int) with q | q
   ·exact (hu.2 q).1
   ·exfalso;refine h ⟨?_,by omega⟩;rcases fF (L - (B.length:Int)) 1 with w | w
    ·have:=(ht.2 w).1
     rw [this]at hc;simp at hc
    ·omega
  ·unfold Fit;rw [htot,hlen];have hc:¬t.1=0:=by simpa using hc
   have hw:L - (B.length:Int) <1:=by
    rcases fF (L - (B.length:Int)) 1 with w | w
    ·exact w
    ·exact absurd (ht.1 w).1 hc
   exact ⟨fun h=>by omega,fun _=>(ht.2 hw).1⟩
  ·refine Bk (by simp;omega) (AD ⟨?_,rfl,fun hF=> ?_,fun hF=>hz.2 hF⟩)
   ·dsimp only;rw [hlen,w64 (by omega) (by omega)];omega
   ·obtain ⟨z1,z2,z3,z4⟩:=hz.1 hF;have hF1:1≤L - (B.length:Int):=by unfold Fit at hF;rw [hlen]at hF;omega
    obtain ⟨t1,t2,t3⟩:=ht.1 hF1;refine ⟨z2,fun k' hk'=> ?_,t2,by rw [t3,hlen];omega,z3,by rw [z4,htot]⟩;rw [C7,UN (x:=(k,clo p k,fr,wi)) hno];by_cases e:k'=k
    ·rw [if_pos (by rw [e]),if_pos e];rfl
    ·rw [if_neg (fun h=>e (Vm h)),if_neg e];exact C.map k' hk'
theorem XE {p:A9}(V:VPp p) {L M:Int}{fd:Fd}{rm cl:Ct}{B:List dtK}{E:List (List Edge)}{n:Nat}{syms:List Int}{b:dtK}{s:Int}(H:Inv p n syms (B,E)) (hb:B[n]? =some b) (hs:s∈sy p.2.2.1 b.2.1) (hsl:syms.length≤1000000)
 (C:NG L M fd rm cl B) (F:Fit L M B) (hL:L≤1099511627776) (hM:M≤1099511627776) (hB:B.length<1073741824):
 Ok (TJ p b (n:Int) s (fd,B,E,rm,cl)) fun e=>(Fit L M (GA p b n (B,E) s).1→ ∃fd' rm' cl',e= .next (fd',(GA p b n (B,E) s).1,(GA p b n (B,E) s).2,rm',cl')∧NG L M fd' rm' cl' (GA p b n (B,E) s).1)∧(¬Fit L M (GA p b n (B,E) s).1→e= .done 5):=by
 obtain ⟨hg,hc⟩:=H.wf b (bY hb);obtain ⟨_,_,hgc,hlc⟩:=OD V hg;rw [←hc]at hgc hlc;have s0:=(Mj.1 hs).1;have hgk:OC p.2.2.1 (nx p.2.2.1 b.2.1 s):=⟨fun y hy=>(TL V hgc.ok s0 y hy).1,X4 hgc.up s⟩;have hl:=H.len;dsimp only at hl;have hnl:=Bo hb;obtain ⟨e,he⟩:∃e,E[n]? =some e:=⟨_,bR (by omega)⟩;have hel:e.length=syms.length:=by rw [← (H.cur b e hb he).1,dR]
 unfold TJ;refine AL (XB V hgc.ok (by omega) s)<|AP (add_ok V C F hL hM hgk hB (fr:=(n:Int)) (wi:=s)) fun r hr=> ?_;obtain ⟨r1,r2,r3,r4⟩:=hr;obtain ⟨ri,re,rfd,rB,rrm,rcl⟩:=r;dsimp only at r1 r2 r3 r4 ⊢;subst r1 r2;unfold GA;dsimp only;by_cases hF:Fit L M (FE p B (nx p.2.2.1 b.2.1 s) (n:Int) s).2
 ·obtain ⟨h1,h2⟩:=r3 hF;subst h1;have hgr:(F8 E B.length (FE p B (nx p.2.2.1 b.2.1 s) (n:Int) s).2.length)[n]? =some e:=by
   unfold F8;split
   ·exact he
   ·exact EF he
  refine AU rfl (AW hgr (Bk (by simp;omega) (Ie (by omega) (by have:=Bo hgr;omega) (AD ⟨fun _=>⟨rfd,rrm,rcl,?_,h2⟩,fun h=>absurd hF h⟩))));rw [hgr,cY];rfl
 ·have h1:=r4 hF;subst h1;exact Bd rfl (AD ⟨fun h=>absurd h hF,fun _=>rfl⟩)
def Vq (p:A9) (L:Int):Prop:= ∀n m,(((mid p n m).1.length:Nat):Int) ≤L→(mid p n m).1.length<1073741824
theorem Vr (p:A9) (n m:Nat) {b:dtK}(hb:(stM p n).1[n]? =some b):∃l,(stM p (n+1)).1=(mid p n m).1++l:=by
 rw [←TM hb];unfold mid;rw [hb];dsimp only;rw [cS (cU _)]
 conv=>rhs;intro l;lhs;rw [←eS m (sy p.2.2.1 b.2.1)]
 unfold NB;rw [fM];exact KT _ _
theorem Vs {p:A9}(V:VPp p) (hp:1≤p.2.2.1.length) {L M:Int}{fd:Fd}{rm cl:Ct}{n:Nat}{b:dtK}(hb:(stM p n).1[n]? =some b) (C:NG L M fd rm cl (stM p n).1) (F:Fit L M (stM p n).1) (hL:L≤1099511627776) (hM:M≤1099511627776) (hR:Vq p L):
 Ok (P9 p b (n:Int) (fd,(stM p n).1,(stM p n).2,rm,cl)) fun e=>(Fit L M (stM p (n+1)).1→ ∃fd' rm' cl',e= .next (fd',(stM p (n+1)).1,(stM p (n+1)).2,rm',cl')∧NG L M fd' rm' cl' (stM p (n+1)).1)∧(¬Fit L M (stM p (n+1)).1→e= .done 5):=by
 have H:=QD V hp n;obtain ⟨hg,hc⟩:=H.wf b (bY hb);obtain ⟨_,_,hgc,hlc⟩:=OD V hg;rw [←hc]at hgc hlc;have hsl:=Vn p.2.2.1 b.2.1;unfold P9;refine AL (Sc hgc.ok (by omega)) (TN ?_);have hm0:mid p n 0=stM p n:=by unfold mid;rw [hb];rfl
 refine H9 (fun m (y:BSt)=>y.2.1=(mid p n m).1∧y.2.2.1=(mid p n m).2∧Fit L M (mid p n m).1∧NG L M y.1 y.2.2.2.1 y.2.2.2.2 (mid p n m).1) (fun q=>q=5∧ ¬Fit L M (stM p (n+1)).1) (by omega) ⟨by rw [hm0],by rw [hm0],by rw [hm0];exact F,by rw [hm0];exact C⟩ (fun m y hm hy=> ?_) (fun y hy=>AD ?_) fun q hq=>AD ⟨fun h=>absurd h hq.2,fun _=>by rw [hq.1]⟩
 ·obtain ⟨fd,B,E,rm,cl⟩:=y;obtain ⟨e1,e2,hF,hC⟩:=hy;dsimp only at e1 e2 hC ⊢;obtain ⟨hI,hbm⟩:=XC V hp hb (m:=m);have hs:=bR hm;have hsm:=cD hm;have hsucc:=Vo hb hs;have hroom:=hR n m hF.1;refine AW hs ?_;subst e1 e2;refine (XE (B:=(mid p n m).1) (E:=(mid p n m).2) V hI hbm hsm (by rw [dM];omega) hC hF hL hM hroom).mono fun e he=> ?_;have e3:GA p b n ((mid p n m).1,(mid p n m).2) (sy p.2.2.1 b.2.1)[m] =mid p n (m+1):=hsucc.symm;rw [e3]at he;by_cases hF2:Fit L M (mid p n (m+1)).1
  ·obtain ⟨fd',rm',cl',h1,h2⟩:=he.1 hF2;exact .inl ⟨_,h1,rfl,rfl,hF2,h2⟩
  ·refine .inr ⟨5,he.2 hF2,rfl,fun h=>hF2 ?_⟩;obtain ⟨l,hl⟩:=Vr p n (m+1) hb;rw [hl]at h;exact h.of_app
 ·obtain ⟨fd,B,E,rm,cl⟩:=y;obtain ⟨e1,e2,hF,hC⟩:=hy;dsimp only at e1 e2 hC;rw [TM hb]at e1 e2 hF hC;subst e1 e2;exact ⟨fun _=>⟨fd,rm,cl,rfl,hC⟩,fun h=>absurd hF h⟩
theorem UO {p:A9}(V:VPp p) (hp:1≤p.2.2.1.length) {L M:Int}{fd:Fd}{rm cl:Ct}(C:NG L M fd rm cl (stM p 0).1) (F:Fit L M (stM p 0).1) (hL:L≤1099511627776) (hM:M≤1099511627776) (hR:Vq p L):
 Ok (NN p (fd,(stM p 0).1,(stM p 0).2,rm,cl)) fun e=>(∃n fd' rm' cl',e= .next (fd',(stM p n).1,(stM p n).2,rm',cl')∧(stM p n).1.length≤n∧Fit L M (stM p n).1∧NG L M fd' rm' cl' (stM p n).1)∨(e= .done 5∧ ∃n,¬Fit L M (stM p n).1):=by
 unfold NN;refine TN (ED (fun (z:Int×BSt)=>∃n:Nat,z.1=(n:Int)∧z.2.2.1=(stM p n).1∧z.2.2.2.1=(stM p n).2∧Fit L M (stM p n).1∧NG L M z.2.1 z.2.2.2.2.1 z.2.2.2.2.2 (stM p n).1) (fun z=>(L+1 - z.1).toNat) (fun e=>(∃n fd' rm' cl',e= .next (fd',(stM p n).1,(stM p n).2,rm',cl')∧(stM p n).1.length≤n∧Fit L M (stM p n).1∧NG L M fd' rm' cl' (stM p n).1)∨(e= .done 5∧ ∃n,¬Fit L M (stM p n).1)) ⟨0,rfl,rfl,rfl,F,C⟩ (fun z hz=> ?_) fun e he=>AD he);obtain ⟨i,fd,B,E,rm,cl⟩:=z;obtain ⟨n,e0,e1,e2,hF,hC⟩:=hz;dsimp only at e0 e1 e2 hC ⊢;subst e0 e1 e2;refine Ac (fun hc=> ?_) fun hc=>CE (.inl ⟨n,fd,rm,cl,rfl,?_,hF,hC⟩)
 ·have hc:=of_decide_eq_true hc;have hn:n< (stM p n).1.length:=by omega
  have hb:=bR hn;refine AW hb (AP (Vs V hp hb hC hF hL hM hR) fun e he=> ?_);have hFL:=hF.1;by_cases hF2:Fit L M (stM p (n+1)).1
  ·obtain ⟨fd',rm',cl',h1,h2⟩:=he.1 hF2;subst h1;have hw:bT .i64 ((n:Int)+1)=((n+1:Nat):Int):=by rw [w64 (by omega) (by omega)];omega
   refine Cw ⟨⟨n+1,hw,rfl,rfl,hF2,h2⟩,?_⟩;dsimp only;rw [hw];omega
  ·have:=he.2 hF2
   subst this;exact CE (.inr ⟨rfl,n+1,hF2⟩)
 ·have:=of_decide_eq_false hc
  omega
def held (n:Int):Int:=if n<0 then 0 else if n>1099511627776 then 1099511627776 else n
theorem new_ok (n:Int):Eo n=some (held n,0,0):=by
 refine gR ?_;unfold Eo Gc;refine AL rfl (AD ?_);refine gN ?_ rfl;dsimp only;unfold held
 split<;>split<;>(try split) <;>(try split) <;>omega
theorem TQ (n:Int):0≤held n∧held n≤1099511627776:=by unfold held;split<;>(try split) <;>omega
noncomputable def OE (p:A9) (n:Nat):DQ:=(p.1,p.2.1,p.2.2.1,p.2.2.2.1,p.2.2.2.2.1,p.2.2.2.2.2,Ek (stM p n).1 (stM p n).2,((tot (stM p n).1:Nat):Int))
theorem MD {p:A9}(V:VPp p) (hp:1≤p.2.2.1.length) {st it:Int}(hR:Vq p (held st)):
 Ok (J2 p st it) fun r=>(∃n,(stM p n).1.length≤n∧Fit (held st) (held it) (stM p n).1∧r=(some (OE p n),0))∨(r=(none,5)∧ ∃n,¬Fit (held st) (held it) (stM p n).1):=by
 unfold J2;have hs:=TQ st;have hi:=TQ it;have hg:=(QD V hp 0).wf (k0,clo p k0, -1, -1) (List.mem_singleton.2 rfl);have C0:NG (held st) (held it) [] (held st,0,0) (held it,0,0) []:=⟨fun k _=>rfl,rfl,rfl,rfl,rfl⟩;refine AL (new_ok st) (AL (new_ok it) (AP (add_ok V C0 ⟨hs.1,hi.1⟩ hs.2 hi.2 hg.1 (by simp)) fun r hr=> ?_));obtain ⟨r1,r2,r3,r4⟩:=hr;have e:FE p [] k0 (-1) (-1)=(0,(stM p 0).1):=rfl;rw [e]at r1 r2 r3 r4;obtain ⟨ri,re,rfd,rB,rrm,rcl⟩:=r;dsimp only at r1 r2 r3 r4 ⊢;subst r2;by_cases hF:Fit (held st) (held it) (stM p 0).1
 ·obtain ⟨h1,h2⟩:=r3 hF;subst h1;refine AU rfl (AP (UO V hp h2 hF hs.2 hi.2 hR) fun e he=> ?_);rcases he with ⟨n,fd',rm',cl',rfl,h3,h4,h5⟩|⟨rfl,n,hn⟩
  ·refine AL (x:=((tot (stM p n).1:Nat):Int)) (by unfold DX;exact congrArg some h5.cused) (AD (.inl ⟨n,h3,h4,rfl⟩))
  ·exact AD (.inr ⟨rfl,n,hn⟩)
 ·have:=r4 hF
  subst this;exact Bd rfl (AD (.inr ⟨rfl,0,hF⟩))
theorem PP {p:A9}(V:VPp p) (hp:1≤p.2.2.1.length) {n:Nat}(hn:(stM p n).1.length≤n) {st it:Int}(hR:Vq p (held st)):
 (Fit (held st) (held it) (stM p n).1→J2 p st it=some (some (OE p n),0))∧(¬Fit (held st) (held it) (stM p n).1→J2 p st it=some (none,5)):=by
 obtain ⟨r,h1,h2⟩:=MD V hp (it:=it) hR;rw [h1];rcases h2 with ⟨m,g1,g2,g3⟩|⟨g3,m,g2⟩
 ·have e:stM p m=stM p n:=by
   rcases Nat.le_total n m with q | q
   ·exact Sd hn q
   ·exact (Sd g1 q).symm
  have e2:OE p m=OE p n:=by unfold OE;rw [e]
  rw [e]at g2;exact ⟨fun _=>by rw [g3,e2],fun h=>absurd g2 h⟩
 ·refine ⟨fun h=>absurd ?_ g2,fun _=>by rw [g3]⟩;rcases Nat.le_total n m with q | q
  ·rw [Sd hn q];exact h
  ·obtain ⟨l,hl⟩:=Vp p q;rw [hl]at h;exact h.of_app
theorem Pl.vp {nt nl:Nat}{p:A9}(H:Pl nt nl p):VPp p:=by
 have hT:=H.terms.len;obtain ⟨st,s1,s2,s3⟩:=H.first;have each:∀r∈p.2.2.1,((nt+1:Nat):Int) ≤r.1∧r.2.1.length≤8∧ ∀s∈r.2.1,0≤s:=fun r hr=>by
  obtain ⟨k,hk⟩:=cC hr;rcases eC k with rfl | h
  ·rw [s3]at hk;cases hk;refine ⟨by dsimp only;omega,by simp,fun s hs=> ?_⟩
   have:s=st:=by simpa using hs
   omega
  ·have:=H.rules k r h hk
   exact ⟨this.left.1,this.few,fun s hs=>by have:=this.right s hs;omega⟩
 have:=H.room
 exact ⟨by omega,fun r hr=>by rw [hT];exact (each r hr).1,fun r hr=>(each r hr).2.2,by omega,fun r hr=>by have:=(each r hr).2.1;omega⟩
theorem Pl.pos {nt nl:Nat}{p:A9}(H:Pl nt nl p):1≤p.2.2.1.length:=H.room.1
structure Fin (p:A9) (B:List dtK) (E:List (List Edge)):Prop where
 wf:∀b∈B,OC p.2.2.1 b.1∧b.2.1=clo p b.1
 len:E.length=B.length
 zero:B[0]? =some (k0,clo p k0, -1, -1)
 from_:∀(j:Nat) b,1≤j→B[j]? =some b→ ∃(f:Nat) (bf:dtK) (e:List Edge),f<j∧b.2.2.1=(f:Int)∧B[f]? =some bf∧b.1=nx p.2.2.1 bf.2.1 b.2.2.2∧b.2.2.2∈sy p.2.2.1 bf.2.1∧E[f]? =some e∧(b.2.2.2,(j:Int))∈e
 apart:∀(i j:Nat) bi bj,B[i]? =some bi→B[j]? =some bj→bi.1=bj.1→i=j
 done:∀(j:Nat) b e,B[j]? =some b→E[j]? =some e→HW p.2.2.1 B b (sy p.2.2.1 b.2.1) e
theorem Vt {p:A9}(V:VPp p) (hp:1≤p.2.2.1.length) {n:Nat}(h:(stM p n).1.length≤n):Fin p (stM p n).1 (stM p n).2:=by
 have H:=QD V hp n;exact ⟨H.wf,H.len,H.zero,H.from_,H.apart,fun j b e hb he=>H.done j b e (by have:=Bo hb;omega) hb he⟩
abbrev Au (p:A9) (B:List dtK) (E:List (List Edge)) (t:Int):DQ:=(p.1,p.2.1,p.2.2.1,p.2.2.2.1,p.2.2.2.2.1,p.2.2.2.2.2,Ek B E,t)
section
variable {p:A9}{B:List dtK}{E:List (List Edge)}{t:Int}
theorem LR (H:Fin p B E):Bn (Au p B E t)=some (B.length:Int):=by
 unfold Bn;rw [EX H.len]
theorem Ye {j:Nat}{b:dtK}{e:List Edge}(hb:B[j]? =some b) (he:E[j]? =some e):(Ek B E)[j]? =some (MC b e):=by
 unfold Ek;rw [List.getElem?_zipWith,hb,he]
theorem Vu (H:Fin p B E) {j:Nat}{b:dtK}{e:List Edge}(hb:B[j]? =some b) (he:E[j]? =some e):CW (Au p B E t) (j:Int)=some (MC b e):=by
 refine gR ?_
 have:=Bo hb
 unfold CW;refine AP (Q:=fun c=>c=false) (AU (decide_eq_false (by omega)) (AD (decide_eq_false (by rw [EX H.len];omega)))) fun c hc=> ?_;subst hc;exact AU rfl (AW (Ye hb he) (AD rfl))
theorem Fin.edge (H:Fin p B E) {j:Nat}{b:dtK}(hb:B[j]? =some b):∃e,E[j]? =some e:=⟨_,bR (by have:=Bo hb;have:=H.len;omega)⟩
theorem Fin.good (V:VPp p) (H:Fin p B E) {j:Nat}{b:dtK}(hb:B[j]? =some b):OC p.2.2.1 b.1∧OC p.2.2.1 b.2.1∧QB p.2.2.1 b.1 b.2.1∧b.1.length≤10100∧b.2.1.length≤10100:=by
 obtain ⟨h1,h2⟩:=H.wf b (bY hb);obtain ⟨_,c1,c2,c3⟩:=OD V h1;rw [←h2]at c1 c2 c3;exact ⟨h1,c2,c1,KS V h1.ok (Lt.nodup h1.up),c3⟩
theorem RM (V:VPp p) (H:Fin p B E) {j:Nat}{b:dtK}(hb:B[j]? =some b):CJ (Au p B E t) (j:Int)=some b.2.1:=by
 obtain ⟨e,he⟩:=H.edge hb
 have:=(H.good V hb).2.2.2.2
 refine gR ?_;unfold CJ;exact AL (Vu H hb he) (AL (x:=b.2.1) (by unfold cloneD;rw [if_pos (by dsimp only;omega)]) (AD rfl))
theorem Fin.edges_len (V:VPp p) (H:Fin p B E) {j:Nat}{b:dtK}{e:List Edge}(hb:B[j]? =some b) (he:E[j]? =some e):e.length≤10100:=by
 have h1:=(H.done j b e hb he).1;have h2:=Vn p.2.2.1 b.2.1;have h3:=(H.good V hb).2.2.2.2;rw [←h1,dR]at h2;omega
theorem RN (V:VPp p) (H:Fin p B E) {j:Nat}{b:dtK}{e:List Edge}(hb:B[j]? =some b) (he:E[j]? =some e):CK (Au p B E t) (j:Int)=some e:=by
 have:=H.edges_len V hb he
 refine gR ?_;unfold CK;exact AL (Vu H hb he) (AL (x:=e) (by unfold cloneD;rw [if_pos (by dsimp only;omega)]) (AD rfl))
def JH (R:Rl) (B:List dtK) (b:dtK) (e:List Edge) (s t:Int):Prop:=
 (s∈sy R b.2.1∧ ∃(q:Nat) (bt:dtK),t=(q:Int)∧1≤q∧B[q]? =some bt∧bt.1=nx R b.2.1 s∧(s,t)∈e)∨(s∉sy R b.2.1∧t= -1)
theorem Vv (V:VPp p) (H:Fin p B E) {j:Nat}{b:dtK}{e:List Edge}(hb:B[j]? =some b) (he:E[j]? =some e) (s:Int):Ok (BM (Au p B E t) (j:Int) s) (JH p.2.2.1 B b e s):=by
 have hl:=H.edges_len V hb he;have hd:=H.done j b e hb he;unfold BM;refine AL (Vu H hb he)<|KM e (fun _ x=>x.1==s) (fun _ x=>x.2) (by omega) (fun k x hx=> ?_) (fun hn=>AD (.inr ⟨fun hs=> ?_,rfl⟩)) fun k x hx hq _=>AD (.inl ?_)
 ·rw [DE,hx,bU];cases x.1==s<;>rfl
 ·rw [←hd.1]at hs;obtain ⟨x,hx,hxs⟩:=List.mem_map.1 hs;obtain ⟨k,hk⟩:=cC hx
  have:=hn k x hk
  rw [hxs]at this;simp at this
 ·have hxs:x.1=s:=eq_of_beq hq;have hm:=bY hx;obtain ⟨q,bt,h1,h2,h3,h4⟩:=hd.2 x hm;rw [hxs]at h4;refine ⟨by rw [←hd.1,←hxs];exact List.mem_map.2 ⟨x,hm,rfl⟩,q,bt,h1,h2,h3,h4,?_⟩;rw [←hxs];exact hm
theorem JH.unique (H:Fin p B E) {b:dtK}{e:List Edge}{s t1 t2:Int}(h1:JH p.2.2.1 B b e s t1) (h2:JH p.2.2.1 B b e s t2):t1=t2:=by
 rcases h1 with ⟨a1,q1,b1,c1,d1,e1,f1,_⟩|⟨a1,c1⟩ <;>rcases h2 with ⟨a2,q2,b2,c2,d2,e2,f2,_⟩|⟨a2,c2⟩
 ·rw [c1,c2,H.apart q1 q2 b1 b2 e1 e2 (by rw [f1,f2])]
 ·exact absurd a1 a2
 ·exact absurd a2 a1
 ·rw [c1,c2]
inductive Walk (R:Rl) (B:List dtK) (E:List (List Edge)):Int→List Int→Int→Prop
 |nil (j:Int):Walk R B E j [] j
 |stop {j:Nat} {b:dtK} {e:List Edge} {s:Int} {l:List Int} :B[j]? =some b→E[j]? =some e→JH R B b e s (-1)→Walk R B E j (s::l) (-1)
 |step {j q:Nat} {b:dtK} {e:List Edge} {s:Int} {l:List Int} {t:Int} :B[j]? =some b→E[j]? =some e→JH R B b e s (q:Int)→q<B.length→Walk R B E (q:Int) l t→Walk R B E j (s::l) t
theorem Walk.unique (H:Fin p B E):∀ {l:List Int}{j t1 t2:Int},Walk p.2.2.1 B E j l t1→Walk p.2.2.1 B E j l t2→t1=t2:=by
 intro l
 induction l with
 |nil=>intro j t1 t2 h1 h2;cases h1;cases h2;rfl
 |cons s l ih=>
  intro j t1 t2 h1 h2;cases h1 with
  | @stop j b e _ _ a1 a2 a3=>
   generalize hj:(j:Int)=j' at h2
   cases h2 with
   |stop=>rfl
   | @step j2 q b2 e2 _ _ _ c1 c2 c3 c4 c5=>
    have:j2=j:=by omega
    subst this;rw [a1]at c1;rw [a2]at c2;cases c1;cases c2
    have:=JH.unique H a3 c3
    omega
  | @step j q b e _ _ _ a1 a2 a3 a4 a5=>
   generalize hj:(j:Int)=j' at h2
   cases h2 with
   | @stop j2 b2 e2 _ _ c1 c2 c3=>
    have:j2=j:=by omega
    subst this;rw [a1]at c1;rw [a2]at c2;cases c1;cases c2
    have:=JH.unique H a3 c3
    omega
   | @step j2 q2 b2 e2 _ _ _ c1 c2 c3 c4 c5=>
    have:j2=j:=by omega
    subst this;rw [a1]at c1;rw [a2]at c2;cases c1;cases c2
    have:=JH.unique H a3 c3
    have:q2=q:=by omega
    subst this;exact ih a5 c5
theorem Walk.snoc {l:List Int}:∀ {j:Int}{q r:Nat}{b:dtK}{e:List Edge}{s:Int},Walk p.2.2.1 B E j l (q:Int)→B[q]? =some b→E[q]? =some e→JH p.2.2.1 B b e s (r:Int)→r<B.length→Walk p.2.2.1 B E j (l++ [s]) (r:Int):=by
 induction l with
 |nil=>
  intro j q r b e s h hb he hg hr
  generalize hq:(q:Int)=q' at h
  cases h;subst hq;exact .step hb he hg hr (.nil _)
 |cons x l ih=>
  intro j q r b e s h hb he hg hr
  generalize hq:(q:Int)=q' at h
  cases h with
  |stop=>omega
  |step a1 a2 a3 a4 a5=>
   subst hq;exact .step a1 a2 a3 a4 (ih a5 hb he hg hr)
theorem Walk.stops {l:List Int}:∀ {j:Int}{q:Nat}{b:dtK}{e:List Edge}{s:Int},Walk p.2.2.1 B E j l (q:Int)→B[q]? =some b→E[q]? =some e→JH p.2.2.1 B b e s (-1)→ ∀m,Walk p.2.2.1 B E j (l++s::m) (-1):=by
 induction l with
 |nil=>
  intro j q b e s h hb he hg m
  generalize hq:(q:Int)=q' at h
  cases h;subst hq;exact .stop hb he hg
 |cons x l ih=>
  intro j q b e s h hb he hg m
  generalize hq:(q:Int)=q' at h
  cases h with
  |stop=>omega
  |step a1 a2 a3 a4 a5=>
   subst hq;exact .step a1 a2 a3 a4 (ih a5 hb he hg m)
theorem XF (V:VPp p) (H:Fin p B E) {j:Nat}(hj:j<B.length) {l:List Int}(hl:l.length≤1000000):Ok (B8 (Au p B E t) (j:Int) l) fun r=>Walk p.2.2.1 B E (j:Int) l r∧(r= -1∨ ∃q:Nat,r=(q:Int)∧q<B.length):=by
 unfold B8;refine AP (Q:=fun c=>c=false) (AU (decide_eq_false (by omega)) (AD (decide_eq_false (by rw [EX H.len];omega)))) fun c hc=> ?_;subst hc;refine AU rfl ?_;have key:Ok ((C5 (σ:=Int) (β:=Int) (0:Int) (l.length:Int) (j:Int) fun i_z5 z5=>
  (idx l i_z5).bind fun e59=>
  (BM (Au p B E t) z5 e59).bind fun t8=>
  cond (decide (t8< (0:Int)))
  (some (gH t8))
  (some (fQ t8))).bind some) (fun r=>Walk p.2.2.1 B E (j:Int) l (gS r)∧(gS r= -1∨ ∃q:Nat,gS r=(q:Int)∧q<B.length)):=by
  refine H9 (fun k (z:Int)=>∃q:Nat,z=(q:Int)∧q<B.length∧Walk p.2.2.1 B E (j:Int) (l.take k) (q:Int)) (fun r=>r= -1∧Walk p.2.2.1 B E (j:Int) l (-1)) (by omega) ⟨j,rfl,hj,.nil _⟩ (fun k z hk hz=> ?_) (fun z hz=>AD ?_) fun r hr=>AD ⟨by show Walk p.2.2.1 B E (j:Int) l r;rw [hr.1];exact hr.2,.inl hr.1⟩
  ·obtain ⟨q,rfl,hq,hw⟩:=hz;have hx:=bR hk;have hb:=bR hq;obtain ⟨e,he⟩:=H.edge hb;refine AW hx (AP (Vv V H hb he l[k]) fun t ht=> ?_);have htt:=ht;rcases ht with ⟨_,r,bt,h1,h2,h3,_⟩|⟨_,h1⟩
   ·subst h1;have hr:=Bo h3;refine AU (decide_eq_false (by omega)) (Cw ⟨r,rfl,hr,?_⟩);rw [dG,hx];exact hw.snoc hb he htt hr
   ·subst h1;refine Bd rfl (CE ⟨rfl,?_⟩)
    have:=hw.stops hb he htt (l.drop (k+1))
    rw [show l[k]::l.drop (k+1)=l.drop k from (fL hk).symm,eS]at this;exact this
  ·obtain ⟨q,rfl,hq,hw⟩:=hz;rw [cS (cU _)]at hw;exact ⟨hw,.inr ⟨q,rfl,hq⟩⟩
 obtain ⟨r,h1,h2⟩:=key;rw [show ∀o:Option (AY Int Int),o.bind some=o from fun o=>by cases o<;>rfl]at h1
 refine AP (Q:=fun r=>Walk p.2.2.1 B E (j:Int) l r∧(r= -1∨ ∃q:Nat,r=(q:Int)∧q<B.length)) ⟨gS r,?_,h2⟩ fun x hx=>AD hx;rw [h1];rfl
end
inductive Nul (R:Rl):Int→Prop
 |rule {r:BP} :r∈R→(∀s∈r.2.1,Nul R s)→Nul R r.1
inductive Pro (nT:Int) (R:Rl):Int→Prop
 |term {s:Int} :0≤s→s<nT→Pro nT R s
 |rule {r:BP} :r∈R→(∀s∈r.2.1,Pro nT R s)→Pro nT R r.1
structure Gr (nT:Int) (R:Rl):Prop where
 pos:0<nT
 zero:∃r st,R[0]? =some r∧r.2.1= [st] ∧nT≤st∧(∀r'∈R,r.1∉r'.2.1)∧ ∀k r',R[k]? =some r'→r'.1=r.1→k=0
 left:∀r∈R,nT≤r.1
 right:∀r∈R,∀s∈r.2.1,0<s
 pro:∀r∈R,∀s∈r.2.1,Pro nT R s
def Pth (Tr:Nat→Int→Nat→Prop):Nat→List Int→Nat→Prop
 |n,[],m=>n=m
 |n,s::l,m=>∃q,Tr n s q∧Pth Tr q l m
theorem Pth.app {Tr:Nat→Int→Nat→Prop}:∀ {l l':List Int}{n m:Nat},Pth Tr n (l++l') m↔∃q,Pth Tr n l q∧Pth Tr q l' m:=by
 intro l
 induction l with
 |nil=>intro l' n m;exact ⟨fun h=>⟨n,rfl,h⟩,fun ⟨q,h1,h2⟩=>by cases h1;exact h2⟩
 |cons s l ih=>
  intro l' n m;constructor
  ·rintro ⟨q,h1,h2⟩;obtain ⟨p,h3,h4⟩:=ih.1 h2;exact ⟨p,⟨q,h1,h3⟩,h4⟩
  ·rintro ⟨p,⟨q,h1,h3⟩,h4⟩;exact ⟨q,h1,ih.2 ⟨p,h3,h4⟩⟩
structure Aut (R:Rl) (S:Nat→Prop) (K:Nat→List Item) (Tr:Nat→Int→Nat→Prop):Prop where
 ok:∀ {n x},S n→x∈K n→OkI R x
 kern:∀ {n x},S n→x∈K n→(x=(0,0)∧n=0)∨1≤x.2
 zero:∀x,x∈K 0↔x=(0,0)
 s0:S 0
 st:∀ {n s m},Tr n s m→S n∧S m∧1≤m∧0≤s
 go:∀ {n x},S n→Cl R (K n) x→0≤beh R x→ ∃m,Tr n (beh R x) m
 into:∀ {n s m x},Tr n s m→(x∈K m↔∃y,Cl R (K n) y∧beh R y=s∧x=(y.1,y.2+1))
 some_:∀ {n s m},Tr n s m→ ∃y,Cl R (K n) y∧beh R y=s
 fn:∀ {n s m m'},Tr n s m→Tr n s m'→m=m'
 reach:∀ {n},S n→ ∃l,Pth Tr 0 l n
def It (R:Rl) (K:Nat→List Item) (n k d:Nat):Prop:=Cl R (K n) ((k:Int),(d:Int))
theorem QE (R:Rl) (k d:Nat) {r:BP}(h:R[k]? =some r):beh R ((k:Int),(d:Int))=(r.2.1[d]?).getD (-1):=by
 unfold beh;dsimp only;rw [cY,cY,h]
theorem Vw {nT:Int}{R:Rl}(G:Gr nT R) {k d:Nat}{s:Int}(h:beh R ((k:Int),(d:Int))=s) (hs:0≤s):∃r,R[k]? =some r∧r.2.1[d]? =some s:=by
 cases hr:R[k]? with
 |none=>unfold beh at h;dsimp only at h;rw [cY,hr]at h;dsimp only at h;omega
 |some r=>
  rw [QE R k d hr]at h;refine ⟨r,rfl,?_⟩;cases hd:r.2.1[d]? with
  |none=>rw [hd]at h;simp at h;omega
  |some x=>rw [hd]at h;simp at h;rw [h]
section
variable {nT:Int}{R:Rl}{S:Nat→Prop}{K:Nat→List Item}{Tr:Nat→Int→Nat→Prop}
theorem Aut.form (A:Aut R S K Tr) {n:Nat}(hn:S n) {x:Item}(h:Cl R (K n) x):∃k d:Nat,x=((k:Int),(d:Int))∧It R K n k d∧ ∃r,R[k]? =some r∧d≤r.2.1.length:=by
 obtain ⟨h0,h1,r,h2,h3⟩:=Cl.ok (fun x hx=>A.ok hn hx) h;have e:x=((x.1.toNat:Int),(x.2.toNat:Int)):=gN (by simp only;omega) (by simp only;omega);exact ⟨x.1.toNat,x.2.toNat,e,by unfold It;rw [←e];exact h,r,h2,h3⟩
theorem Aut.step (G:Gr nT R) (A:Aut R S K Tr) {n k d:Nat}{r:BP}{s:Int}(hn:S n) (h:It R K n k d) (hr:R[k]? =some r) (hs:r.2.1[d]? =some s):∃m,Tr n s m∧It R K m k (d+1):=by
 have hb:beh R ((k:Int),(d:Int))=s:=by rw [QE R k d hr,hs];rfl
 have h0:0<s:=G.right r (bY hr) s (bY hs);obtain ⟨m,hm⟩:=A.go hn h (by rw [hb];omega);rw [hb]at hm;exact ⟨m,hm,.base ((A.into hm).2 ⟨_,h,hb,rfl⟩)⟩
theorem Aut.clos {n k d j:Nat}{r r':BP}{s:Int}(h:It R K n k d) (hr:R[k]? =some r) (hs:r.2.1[d]? =some s) (hj:R[j]? =some r') (hl:r'.1=s):It R K n j 0:=
 .step h hj (by rw [QE R k d hr,hs,hl];rfl)
theorem Aut.at0 (A:Aut R S K Tr) {l:List Int}{n m:Nat}(hn:S n) (h:Pth Tr n l m):S m:=by
 induction l generalizing n with
 |nil=>cases h;exact hn
 |cons s l ih=>obtain ⟨q,h1,h2⟩:=h;exact ih (A.st h1).2.1 h2
theorem Pth.fn (A:Aut R S K Tr) {l:List Int}{n m m':Nat}(h:Pth Tr n l m) (h':Pth Tr n l m'):m=m':=by
 induction l generalizing n with
 |nil=>cases h;cases h';rfl
 |cons s l ih=>obtain ⟨q,h1,h2⟩:=h;obtain ⟨q',h1',h2'⟩:=h';cases A.fn h1 h1';exact ih h2 h2'
theorem Aut.along (G:Gr nT R) (A:Aut R S K Tr) {k:Nat}{r:BP}(hr:R[k]? =some r):∀ {l:List Int}{n d:Nat},S n→It R K n k d→r.2.1.drop d=l→ ∃m,Pth Tr n l m∧It R K m k (d+l.length):=by
 intro l
 induction l with
 |nil=>intro n d _ h _;exact ⟨n,rfl,h⟩
 |cons s l ih=>
  intro n d hn h hd;have hs:r.2.1[d]? =some s:=by
   have:=congrArg (fun l=>l[0]?) hd
   simpa using this
  obtain ⟨q,h1,h2⟩:=A.step G hn h hr hs;obtain ⟨m,h3,h4⟩:=ih (d:=d+1) (A.st h1).2.1 h2 (by
   have:=congrArg (List.drop 1) hd
   simpa using this)
  exact ⟨m,⟨q,h1,h3⟩,by rw [dL,show d+(l.length+1)=d+1+l.length by omega];exact h4⟩
theorem Aut.part (G:Gr nT R) (A:Aut R S K Tr) {n m k:Nat}{r:BP}(hn:S n) (hr:R[k]? =some r) (h:It R K n k 0) {l l':List Int}(hl:r.2.1=l++l') (hp:Pth Tr n l m):It R K m k l.length:=by
 obtain ⟨q,h1,h2⟩:=A.along G hr hn h (l:=r.2.1) rfl;rw [hl]at h1;obtain ⟨m',h3,_⟩:=Pth.app.1 h1;have key:∀(l:List Int) (n d m:Nat),S n→It R K n k d→(∃l',r.2.1.drop d=l++l')→Pth Tr n l m→It R K m k (d+l.length):=by
  intro l
  induction l with
  |nil=>intro n d m _ h _ hp;cases hp;exact h
  |cons s l ih=>
   intro n d m hn h ⟨l',hd⟩ ⟨q,h1,h2⟩;have hs:r.2.1[d]? =some s:=by
    have:=congrArg (fun l=>l[0]?) hd
    simpa using this
   obtain ⟨q',h3,h4⟩:=A.step G hn h hr hs;cases A.fn h1 h3
   have:=ih q (d+1) m (A.st h1).2.1 h4 ⟨l',by
    have:=congrArg (List.drop 1) hd
    simpa using this⟩ h2
   rw [dL,show d+(l.length+1)=d+1+l.length by omega];exact this
 have:=key l n 0 m hn h ⟨l',hl⟩ hp
 rwa [eL]at this
inductive Rdd (nT:Int) (R:Rl) (K:Nat→List Item) (Tr:Nat→Int→Nat→Prop):Nat→Int→Prop
 |term {m q:Nat} {t:Int} :Tr m t q→t<nT→Rdd nT R K Tr m t
 |fin {m:Nat} :It R K m 0 1→Rdd nT R K Tr m 0
 |next {m q:Nat} {c t:Int} :Tr m c q→nT≤c→Nul R c→Rdd nT R K Tr q t→Rdd nT R K Tr m t
inductive Fol (nT:Int) (R:Rl) (K:Nat→List Item) (Tr:Nat→Int→Nat→Prop):Nat→Int→Int→Prop
 |read {n m:Nat} {a t:Int} :Tr n a m→Rdd nT R K Tr m t→Fol nT R K Tr n a t
 |incl {n m q k:Nat} {a t:Int} {r:BP} {b g:List Int} :Tr n a m→R[k]? =some r→r.2.1=b++a::g→(∀s∈g,Nul R s)→It R K q k 0→Pth Tr q b n→Fol nT R K Tr q r.1 t→Fol nT R K Tr n a t
def Lk (nT:Int) (R:Rl) (K:Nat→List Item) (Tr:Nat→Int→Nat→Prop) (s k:Nat) (t:Int):Prop:=
 (k=0∧t=0∧It R K s 0 1)∨(0<k∧ ∃(n m:Nat) (r:BP),R[k]? =some r∧Tr n r.1 m∧Pth Tr n r.2.1 s∧Fol nT R K Tr n r.1 t)
theorem Nul.var (G:Gr nT R) {s:Int}(h:Nul R s):nT≤s:=by
 cases h with
 |rule h _=>exact G.left _ h
theorem Vx (G:Gr nT R) {k d:Nat}{r r0:BP}(h0:R[0]? =some r0) (hr:R[k]? =some r):r.2.1[d]?≠some r0.1:=by
 obtain ⟨z,st,e1,e2,e3,e4,e5⟩:=G.zero;rw [e1]at h0;cases h0;exact fun h=>e4 r (bY hr) (bY h)
theorem Aut.starts (G:Gr nT R) (A:Aut R S K Tr) {n m k:Nat}{r:BP}(hr:R[k]? =some r) (h:Tr n r.1 m):0<k∧It R K n k 0:=by
 obtain ⟨y,h1,h2⟩:=A.some_ h;obtain ⟨j,d,rfl,h3,_⟩:=A.form (A.st h).1 h1;obtain ⟨r',h4,h5⟩:=Vw G h2 (A.st h).2.2.2;refine ⟨Nat.pos_of_ne_zero fun e=> ?_,Aut.clos h3 h4 h5 hr rfl⟩;subst e;exact Vx G hr h4 h5
theorem IF {l:List Int}{d:Nat}{s:Int}(h:l[d]? =some s):l=l.take d++s::l.drop (d+1):=by
 have hlt:=(List.getElem?_eq_some_iff.1 h).1;have e:=(List.getElem?_eq_some_iff.1 h).2
 conv=>lhs;rw [←eS d l,fL hlt,e]
theorem Fol.tr {n:Nat}{a t:Int}(h:Fol nT R K Tr n a t):∃m,Tr n a m:=by
 cases h with
 |read h _=>exact ⟨_,h⟩
 |incl h _ _ _ _ _ _=>exact ⟨_,h⟩
inductive Fs (nT:Int) (R:Rl):List Int→Int→Prop
 |term {s:Int} {l:List Int} :s<nT→Fs nT R (s::l) s
 |var {s t:Int} {l:List Int} {r:BP} :r∈R→r.1=s→Fs nT R r.2.1 t→Fs nT R (s::l) t
 |skip {s t:Int} {l:List Int} :Nul R s→Fs nT R l t→Fs nT R (s::l) t
inductive Fw (nT:Int) (R:Rl):Int→Int→Prop
 |zero {r:BP} :R[0]? =some r→Fw nT R r.1 0
 |first {r:BP} {b g:List Int} {a t:Int} :r∈R→r.2.1=b++a::g→Fs nT R g t→Fw nT R a t
 |left {r:BP} {b g:List Int} {a t:Int} :r∈R→r.2.1=b++a::g→(∀s∈g,Nul R s)→Fw nT R r.1 t→Fw nT R a t
theorem XG {s:Nat}{t:Int}(h:Lk nT R K Tr s 0 t):t=0:=by
 rcases h with ⟨_,h,_⟩|⟨h,_⟩
 ·exact h
 ·omega
end
def KB (B:List dtK) (n:Nat):List Item:=match B[n]? with
 |some b=>b.1
 |none=>[]
def SB (B:List dtK) (n:Nat):Prop:=n<B.length
def TrB (p:A9) (B:List dtK) (E:List (List Edge)) (n:Nat) (s:Int) (m:Nat):Prop:= ∃b e,B[n]? =some b∧E[n]? =some e∧JH p.2.2.1 B b e s (m:Int)
section
variable {p:A9}{B:List dtK}{E:List (List Edge)}
theorem RO {n:Nat}{b:dtK}(h:B[n]? =some b):KB B n=b.1:=by unfold KB;rw [h]
theorem JH.to {b:dtK}{e:List Edge}{s:Int}{m:Nat}(h:JH p.2.2.1 B b e s (m:Int)):s∈sy p.2.2.1 b.2.1∧1≤m∧ ∃bt,B[m]? =some bt∧bt.1=nx p.2.2.1 b.2.1 s∧(s,(m:Int))∈e:=by
 rcases h with ⟨h1,q,bt,h2,h3,h4,h5,h6⟩|⟨_,h⟩
 ·have e:m=q:=by omega
  subst e;exact ⟨h1,h3,bt,h4,h5,h6⟩
 ·omega
theorem Fg (V:VPp p) (H:Fin p B E) {n:Nat}{b:dtK}(hb:B[n]? =some b) (x:Item):x∈b.2.1↔Cl p.2.2.1 (KB B n) x:=by
 rw [RO hb];exact (H.good V hb).2.2.1.mem x
theorem ME (V:VPp p) (H:Fin p B E):Aut p.2.2.1 (SB B) (KB B) (TrB p B E) where
 ok {n x} hn hx:=by
  have hb:=bR (l:=B) hn;rw [RO hb]at hx;exact (H.good V hb).1.ok x hx
 kern {n x} hn hx:=by
  have hb:=bR (l:=B) hn;rw [RO hb]at hx;rcases eC n with rfl | h
  ·have:=H.zero
   rw [hb]at this;rw [Option.some.inj this]at hx;exact .inl ⟨by simpa [k0]using hx,rfl⟩
  ·obtain ⟨f,bf,e,h1,h2,h3,h4,h5,h6,h7⟩:=H.from_ n _ h hb;rw [h4]at hx;exact .inr (TL V (H.good V h3).2.1.ok (Mj.1 h5).1 x hx).2
 zero x:=by rw [RO H.zero];simp [k0]
 s0:=Bo H.zero
 st {n s m} h:=by
  obtain ⟨b,e,hb,he,hg⟩:=h;obtain ⟨h1,h2,bt,h3,_⟩:=hg.to;exact ⟨Bo hb,Bo h3,h2,(Mj.1 h1).1⟩
 go {n x} hn hx h0:=by
  have hb:=bR (l:=B) hn;obtain ⟨e,he⟩:=H.edge hb;have hs:beh p.2.2.1 x∈sy p.2.2.1 B[n].2.1:=Mj.2 ⟨h0,x,(Fg V H hb x).2 hx,rfl⟩;have hd:=H.done n _ e hb he;rw [←hd.1]at hs;obtain ⟨y,hy,hy'⟩:=List.mem_map.1 hs;obtain ⟨t,bt,h1,h2,h3,h4⟩:=hd.2 y hy;refine ⟨t,_,e,hb,he,.inl ⟨?_,t,bt,rfl,h2,h3,?_,?_⟩⟩
  ·rw [←hd.1];exact hs
  ·rw [←hy'];exact h4
  ·rw [←hy',←h1];exact hy
 into {n s m x} h:=by
  obtain ⟨b,e,hb,he,hg⟩:=h;obtain ⟨h1,h2,bt,h3,h4,_⟩:=hg.to;rw [RO h3,h4,Sb];constructor
  ·rintro ⟨y,g1,g2,g3⟩;exact ⟨y,(Fg V H hb y).1 g1,g2,g3⟩
  ·rintro ⟨y,g1,g2,g3⟩;exact ⟨y,(Fg V H hb y).2 g1,g2,g3⟩
 some_ {n s m} h:=by
  obtain ⟨b,e,hb,he,hg⟩:=h;obtain ⟨y,g1,g2⟩:=(Mj.1 hg.to.1).2;exact ⟨y,(Fg V H hb y).1 g1,g2⟩
 fn {n s m m'} h h':=by
  obtain ⟨b,e,hb,he,hg⟩:=h;obtain ⟨b',e',hb',he',hg'⟩:=h';rw [hb]at hb';rw [he]at he';cases hb';cases he'
  have:=JH.unique H hg hg'
  omega
 reach {n} hn:=by
  induction n using fB with
  |_ n ih=>
   rcases eC n with rfl | h
   ·exact ⟨[],rfl⟩
   ·have hb:=bR (l:=B) hn;obtain ⟨f,bf,e,h1,h2,h3,h4,h5,h6,h7⟩:=H.from_ n _ h hb;obtain ⟨l,hl⟩:=ih f h1 (Bo h3);exact ⟨l++ [B[n].2.2.2],Pth.app.2 ⟨f,hl,n,⟨bf,e,h3,h6,.inl ⟨h5,n,_,rfl,h,hb,h4,h7⟩⟩,rfl⟩⟩
theorem Vy (H:Fin p B E):∀ {l:List Int}{n m:Nat},n<B.length→(Walk p.2.2.1 B E (n:Int) l (m:Int)↔Pth (TrB p B E) n l m):=by
 intro l
 induction l with
 |nil=>
  intro n m hn;constructor
  ·intro h
   generalize hq:(n:Int)=n' at h
   generalize hr:(m:Int)=m' at h
   cases h
   have:n=m:=by omega
   exact this
  ·rintro rfl;exact .nil _
 |cons s l ih=>
  intro n m hn;constructor
  ·intro h
   generalize hq:(n:Int)=n' at h
   generalize hr:(m:Int)=m' at h
   cases h with
   |stop _ _ _=>omega
   | @step j q b e _ _ _ hb he hg hql hw=>
    have e:n=j:=by omega
    subst e;subst hr;exact ⟨q,⟨b,_,hb,he,hg⟩,(ih hql).1 hw⟩
  ·rintro ⟨q,⟨b,e,hb,he,hg⟩,hp⟩;obtain ⟨_,_,bt,h3,_⟩:=hg.to;exact .step hb he hg (Bo h3) ((ih (Bo h3)).2 hp)
theorem ZE {nt nl:Nat}(G:Pl nt nl p) (hp:∀v:Nat,v<p.2.1.length→Pro (p.1.length:Int) p.2.2.1 ((p.1.length+v:Nat):Int)):Gr (p.1.length:Int) p.2.2.1:=by
 have hT:=G.terms.len;obtain ⟨st,s1,s2,s3⟩:=G.first;have each:∀(k:Nat) r,p.2.2.1[k]? =some r→(k=0∧r=(((nt+1+p.2.1.length:Nat):Int),[st],0))∨(1≤k∧Pr nt p.2.1.length nl r):=fun k r hk=>by
  rcases eC k with rfl | h
  ·rw [s3]at hk;exact .inl ⟨rfl,(Option.some.inj hk).symm⟩
  ·exact .inr ⟨h,G.rules k r h hk⟩
 have syms:∀r∈p.2.2.1,∀s∈r.2.1,0<s∧s< ((nt+1+p.2.1.length:Nat):Int):=fun r hr s hs=>by
  obtain ⟨k,hk⟩:=cC hr;rcases each k r hk with ⟨_,rfl⟩|⟨_,h⟩
  ·simp at hs;subst hs;omega
  ·exact h.right s hs
 refine ⟨by omega,⟨_,st,s3,rfl,by omega,fun r' hr' hm=> ?_,fun k r' hk he=> ?_⟩,fun r hr=> ?_,fun r hr s hs=>(syms r hr s hs).1,fun r hr s hs=> ?_⟩
 ·have:=syms r' hr' _ hm
  dsimp only at this;omega
 ·rcases each k r' hk with ⟨h,_⟩|⟨_,h⟩
  ·exact h
  ·have:=h.left
   dsimp only at he;omega
 ·obtain ⟨k,hk⟩:=cC hr;rcases each k r hk with ⟨_,rfl⟩|⟨_,h⟩
  ·dsimp only;omega
  ·have:=h.left;omega
 ·have:=syms r hr s hs
  by_cases h:s< (p.1.length:Int)
  ·exact .term (by omega) h
  ·have e:s=((p.1.length+(s.toNat - p.1.length):Nat):Int):=by omega
   rw [e];exact hp _ (by omega)
end
end Go.Proofs.YteolcjbobmpdiaaGreatDoor
namespace Go.Proofs.YteolcjbobmpdiaaGreatDoor
open Go Go.Eng Dg
set_option linter.unusedVariables false
abbrev dtP:Type:=A9
abbrev dtA:Type:=DQ
noncomputable def UP (ss:List AX) (x y:Int):Option (Bool×List AX):=(idx ss x).bind fun s=>(idx ss y).bind fun o=>need (OkS s∧OkS o)<|some (FC s o,ss.set x.toNat (BS s o))
noncomputable def XH (ss:List AX) (x:Int) (o:AX):Option (Bool×List AX):=(idx ss x).bind fun s=>need (OkS s∧OkS o)<|some (FC s o,ss.set x.toNat (BS s o))
def nT (p:dtP):Int:=(p.1.length:Int)
noncomputable def KU (p:dtP) (m:Int) (null:List Bool) (x:Int) (ss:List AX) (seq:List Int):Option (Bool×Bool×List AX):=
 (C5 (σ:=Bool×List AX) (β:=Bool×Bool×List AX) 0 (seq.length:Int) (false,ss) fun i z=>
  (idx seq i).bind fun sym=>(BT p sym).bind fun t=>
  cond t
   ((Cu (nT p) [sym]).bind fun o=>(XH z.2 x o).bind fun u=>some (.done (u.1 || z.1,false,u.2)))
   (need (bT .i64 (sym - nT p) <m)<|(UP z.2 x (bT .i64 (sym - nT p))).bind fun u=>(idx null (bT .i64 (sym - nT p))).bind fun b=>
    cond b (some (.next (u.1 || z.1,u.2))) (some (.done (u.1 || z.1,false,u.2))))).bind fun e=>match e with
 |.next z=>some (z.1,true,z.2)
 |.done r=>some r
noncomputable def OF (p:dtP) (m:Int) (null:List Bool) (ss:List AX):Option (Bool×List Bool×List AX):=forS (σ:=Bool×List Bool×List AX) 0 (p.2.2.1.length:Int) (false,null,ss) fun i z=>(idx p.2.2.1 i).bind fun r=>need (0≤bT .i64 (r.1 - nT p)∧bT .i64 (r.1 - nT p) <m)<|(KU p m z.2.1 (bT .i64 (r.1 - nT p)) z.2.2 r.2.1).bind fun g=>(idx z.2.1 (bT .i64 (r.1 - nT p))).bind fun b=>(EM z.2.1 (bT .i64 (r.1 - nT p)) (b || g.2.1)).bind fun null'=>some (z.1 || g.1 || (g.2.1 && !b),null',g.2.2)
noncomputable def MF (p:dtP) (m:Int) (null:List Bool) (ss:List AX):Option (Bool×List AX):=forS (σ:=Bool×List AX) 0 (p.2.2.1.length:Int) (false,ss) fun i z=>(idx p.2.2.1 i).bind fun r=>forS (σ:=Bool×List AX) 0 (r.2.1.length:Int) z fun j z=>(idx r.2.1 j).bind fun sym=>(BT p sym).bind fun t=>cond t (some z) (need (0≤bT .i64 (sym - nT p)∧bT .i64 (sym - nT p) <m)<|(KU p m null (m+bT .i64 (sym - nT p)) z.2 (r.2.1.drop (j+1).toNat)).bind fun g=>(cond g.2.1 (need (0≤bT .i64 (r.1 - nT p)∧bT .i64 (r.1 - nT p) <m)<|(UP g.2.2 (m+bT .i64 (sym - nT p)) (m+bT .i64 (r.1 - nT p))).bind fun u=>some (u.1 || g.1,u.2)) (some (g.1,g.2.2))).bind fun h=>some (z.1 || h.1,h.2))
noncomputable def Mk (p:dtP):Option (List AX):=forS (σ:=List AX) 0 (bT .i64 ((p.2.1.length:Int)+1)) [] fun _ acc=>(B5 (nT p)).bind fun s=>app acc [s]
noncomputable def J3 (ss:List AX):Option (List (List Int)):=forS (σ:=List (List Int)) 0 (ss.length:Int) [] fun i acc=>(idx ss i).bind fun s=>(I1 s).bind fun l=>app acc [l]
abbrev dtF:Type:=Xw
noncomputable def OG (p:dtP):Option dtF:=(Fp (bT .i64 ((p.2.1.length:Int)+1)) false).bind fun null=>(Mk p).bind fun f=>(Mk p).bind fun g=>(loop (σ:=Int×List Bool×List AX) (β:=Int×List Bool×List AX) (1,null,f++g) fun z=>(OF p (f.length:Int) z.2.1 z.2.2).bind fun r=>cond r.1 (some (.next (bT .i64 (z.1+1),r.2))) (some (.done (z.1,r.2)))).bind fun z=>(idx (z.2.2.drop f.length) (p.2.1.length:Int)).bind fun s=>(Aq s 0).bind fun a=>(loop (σ:=List AX) (β:=List AX) (z.2.2.set (f.length+p.2.1.length) a.2) fun ss=>(MF p (f.length:Int) z.2.1 ss).bind fun r=>cond r.1 (some (.next r.2)) (some (.done r.2))).bind fun ss=>(J3 (ss.take f.length)).bind fun a=>(J3 (ss.drop f.length)).bind fun b=>some (z.2.1,a,b,z.1)
end Go.Proofs.YteolcjbobmpdiaaGreatDoor
namespace Go.Proofs.YteolcjbobmpdiaaGreatDoor.Dg
open Go Go.Eng
set_option linter.unusedVariables false
abbrev EG:Int:=9223372036854775807
def lv (low:List Int) (v:Int):Int:=(idx low v).getD 0
theorem Ml {low:List Int}{v:Int}(h0:0≤v) (h1:v< (low.length:Int)):idx low v=some (lv low v):=by
 have:idx low v=some low[v.toNat]:=KL h0 (by omega)
 unfold lv;rw [this];rfl
theorem Vz {low:List Int}{v:Int}(h:v<0∨(low.length:Int) ≤v):lv low v=0:=by
 unfold lv idx;split
 ·rw [dC (by omega)];rfl
 ·rfl
theorem QF {low:List Int}{x e:Int}(h0:0≤x) (h1:x< (low.length:Int)) (v:Int):lv (low.set x.toNat e) v=if v=x then e else lv low v:=by
 by_cases hv:v=x
 ·subst hv;rw [if_pos rfl];unfold lv idx;rw [if_pos h0,dV,if_pos rfl,if_pos (by omega)];rfl
 ·rw [if_neg hv];unfold lv idx;split
  ·rw [dV,if_neg (by omega)]
  ·rfl
inductive Reach (ll:List (List Int)) (n:Int):Int→Int→Prop where
 |refl (x:Int):Reach ll n x x
 |step {x y z:Int} :y∈C4 ll x n→Reach ll n y z→Reach ll n x z
theorem Reach.trans {ll:List (List Int)}{n x y z:Int}(h:Reach ll n x y) (k:Reach ll n y z):Reach ll n x z:=by
 induction h with
 |refl=>exact k
 |step e _ ih=>exact .step e (ih k)
theorem Reach.one {ll:List (List Int)}{n x y:Int}(h:y∈C4 ll x n):Reach ll n x y:=.step h (.refl _)
theorem Ik {ll:List (List Int)}{n x y:Int}(h:y∈C4 ll x n):0≤y∧y<n:=by
 unfold C4 at h;split at h
 ·cases h
 ·have:=(List.mem_filter.1 h).2
  unfold Jt at this;simp at this;omega
theorem Reach.closed {ll:List (List Int)}{n:Int}{D:Int→Prop}(hD:∀v w,D v→w∈C4 ll v n→D w) {x y:Int}(h:Reach ll n x y):D x→D y:=by
 induction h with
 |refl=>exact id
 |step e _ ih=>exact fun hx=>ih (hD _ _ hx e)
structure Yf (ll:List (List Int)) (n:Int) {A:Type}(ledA:A→Int→Int→Option A) (partA:A→List Int→Option A) where
 I:(Int→Prop)→A→Prop
 Q:A→Int→Int→Prop
 led:∀ {D:Int→Prop} {a:A} {x to:Int},I D a→0≤x→x<n→to∈C4 ll x n→D to∨Reach ll n to x→ ¬D x→ ∃a',ledA a x to=some a'∧I D a'∧Q a' x to∧ ∀y z,Q a y z→Q a' y z
 part:∀ {D:Int→Prop} {a:A} {l:List Int},I D a→l≠[] →l.Nodup→(∀v∈l,0≤v∧v<n∧ ¬D v)→(∀v∈l,∀w∈C4 ll v n,Q a v w∧(D w∨w∈l))→(∀v∈l,∀z,z∈l↔Reach ll n v z∧Reach ll n z v)→
  ∃a',partA a l=some a'∧I (fun v=>D v∨v∈l) a'∧ ∀y z,Q a y z→Q a' y z
section
variable (ll:List (List Int)) (n:Int)
structure Inv (low stk:List Int):Prop where
 len:(low.length:Int)=n
 on:∀(i:Nat) (v:Int),stk[i]? =some v→0≤v∧v<n∧1≤lv low v∧lv low v≤(i:Int)+1
 off:∀v:Int,0≤v→v<n→v∉stk→lv low v=0∨lv low v=EG
 nodup:stk.Nodup
 back:∀(i:Nat) (v:Int),stk[i]? =some v→ ∃(j:Nat) (u:Int),lv low v=(j:Int)+1∧stk[j]? =some u∧Reach ll n v u
 clo:∀v w:Int,lv low v=EG→w∈C4 ll v n→lv low w=EG
variable {ll:List (List Int)}{n:Int}
theorem Inv.size {low stk:List Int}(H:Inv ll n low stk):stk.length≤low.length:=by
 have h:=List.Nodup.length_le_of_subset (l₂:=(fG low.length).map fun k:Nat=>(k:Int)) H.nodup (fun v hv=>by
  obtain ⟨i,hi⟩:=cC hv
  have:=H.on i v hi
  have hl:=H.len;exact List.mem_map.2 ⟨v.toNat,List.mem_range.2 (by omega),by omega⟩)
 simpa using h
theorem Inv.mem {low stk:List Int}(H:Inv ll n low stk) (hn:n≤100000) {v:Int}(h0:0≤v) (h1:v<n) (hv:lv low v≠0) (hm:lv low v≠EG):∃i:Nat,stk[i]? =some v:=by
 by_cases h:v∈stk
 ·exact cC h
 ·rcases H.off v h0 h1 h with h | h
  ·exact absurd h hv
  ·exact absurd h hm
theorem Inv.notMax {low stk:List Int}(H:Inv ll n low stk) (hn:n≤100000) {i:Nat}{v:Int}(h:stk[i]? =some v):lv low v≠EG:=by
 have h1:=(H.on i v h).2.2.2;have h2:=H.size;have h3:=H.len;have h4:i<stk.length:=by
  rcases fE i stk.length with g | g
  ·exact g
  ·rw [dC g]at h;cases h
 intro h5;rw [h5]at h1;simp only [EG]at h1;omega
theorem LS {α:Type}{l:List α}{i:Nat}{v:α}(h:l[i]? =some v):i<l.length:=by
 rcases fE i l.length with g | g
 ·exact g
 ·rw [dC g]at h;cases h
theorem RP {low low':List Int}(hl:low'.length=low.length) (h:∀v,lv low v≠0→lv low' v≠0):low'.count 0≤low.count 0:=by
 have key:∀(l l':List Int),l'.length=l.length→(∀i:Nat,(l[i]?).getD 0≠0→(l'[i]?).getD 0≠0)→l'.count 0≤l.count 0:=by
  intro l
  induction l with
  |nil=>intro l' hl _;rw [fA hl];exact cU _
  |cons x l ih=>
   intro l' hl h;cases l' with
   |nil=>simp
   |cons y l'=>
    have h1:=ih l' (by simpa using hl) fun i hi=>by simpa using h (i+1) (by simpa using hi)
    have h0:=h 0;simp only [eR,fO]at h0;rw [eG,eG];by_cases hx:x=0
    ·subst hx;simp only [beq_self_eq_true,if_true]
     split<;>omega
    ·have:=h0 hx
     rw [if_neg (by simpa using this),if_neg (by simpa using hx)];omega
 refine key low low' hl fun i hi=> ?_
 have:=h (i:Int)
 unfold lv at this;rw [DE,DE]at this;exact this hi
theorem IG {low:List Int}{x e:Int}(h0:0≤x) (h1:x< (low.length:Int)) (hx:lv low x=0) (he:e≠0):(low.set x.toNat e).count 0+1≤low.count 0:=by
 have key:∀(l:List Int) (i:Nat),l[i]? =some 0→(l.set i e).count 0+1≤l.count 0:=by
  intro l
  induction l with
  |nil=>intro i h;simp at h
  |cons y l ih=>
   intro i h;cases i with
   |zero=>
    simp only [eR,Option.some.injEq]at h;subst h;rw [gB,eG,eG];simp [he]
   |succ i=>
    have:=ih i (by simpa using h)
    rw [eP,eG,eG];omega
 refine key low x.toNat ?_
 have:=Ml (low:=low) h0 h1
 unfold idx at this;rw [if_pos h0,hx]at this;exact this
end
section
variable {ll:List (List Int)}{n:Int}{A:Type}{ledA:A→Int→Int→Option A}{partA:A→List Int→Option A}(S:Yf ll n ledA partA)
abbrev Dn (low:List Int) (v:Int):Prop:=lv low v=EG
structure XI (low stk:List Int) (x:Int) (a:A) (low' ext:List Int) (a':A):Prop where
 inv:Inv ll n low' (stk++ext)
 keep:∀v:Int,lv low v≠0→lv low' v=lv low v
 seen:lv low' x≠0
 fresh:∀v∈ext,lv low v=0
 reach:∀v∈ext,Reach ll n x v
 strict:∀(i:Nat) (v:Int),ext[i]? =some v→lv low' x≤lv low' v∧lv low' v< (stk.length:Int)+i+1
 edges:∀v∈ext,∀w∈C4 ll v n,lv low' w≠0∧S.Q a' v w∧ ∀i:Nat,stk[i]? =some w→lv low' v≤(i:Int)+1
 ok:S.I (Dn low') a'
 mono:∀y z:Int,S.Q a y z→S.Q a' y z
structure D8 (low0 stk:List Int) (x:Int) (a0:A) (es:List Int) (q:Int) (low ext:List Int) (a:A):Prop where
 inv:Inv ll n low (stk++x::ext)
 keep:∀v:Int,lv low0 v≠0→lv low v=lv low0 v
 fresh:∀v∈ext,lv low0 v=0
 reach:∀v∈ext,Reach ll n x v
 strict:∀(i:Nat) (v:Int),ext[i]? =some v→(lv low x≤lv low v∨q≤lv low v)∧lv low v< (stk.length:Int)+i+2
 edges:∀v∈ext,∀w∈C4 ll v n,lv low w≠0∧S.Q a v w∧ ∀i:Nat,stk[i]? =some w→lv low v≤(i:Int)+1
 own:∀w∈es,lv low w≠0∧S.Q a x w∧ ∀i:Nat,stk[i]? =some w→lv low x≤(i:Int)+1
 ok:S.I (Dn low) a
 mono:∀y z:Int,S.Q a0 y z→S.Q a y z
theorem Yg (stk:List Int) (x:Int) (ext:List Int):(stk++x::ext)[stk.length]? =some x:=by
 rw [cL (cU _),gG];rfl
theorem Mm {stk:List Int}{i:Nat}{v:Int}(h:stk[i]? =some v) (r:List Int):(stk++r)[i]? =some v:=by
 rw [bX (LS h)];exact h
theorem Yh {stk:List Int}{x:Int}{ext:List Int}{i:Nat}{v:Int}(h:ext[i]? =some v):(stk++x::ext)[stk.length+1+i]? =some v:=by
 rw [cL (by omega),show stk.length+1+i - stk.length=i+1 by omega];exact h
theorem IF {stk:List Int}{x:Int}{ext:List Int}{i:Nat}{v:Int}(h:(stk++x::ext)[i]? =some v):(stk[i]? =some v)∨(i=stk.length∧v=x)∨ ∃k,i=stk.length+1+k∧ext[k]? =some v:=by
 rcases gI i stk.length with g | g | g
 ·left;rw [bX g]at h;exact h
 ·right;left
  subst g;rw [Yg]at h;exact ⟨rfl,(Option.some.inj h).symm⟩
 ·right;right
  refine ⟨i - stk.length - 1,by omega,?_⟩;rw [cL (by omega),show i - stk.length=(i - stk.length - 1)+1 by omega]at h;exact h
theorem D8.all {low0 stk:List Int}{x q:Int}{a0:A}{es low ext:List Int}{a:A}(R:D8 S low0 stk x a0 es q low ext a) (hx:∀u∈stk,Reach ll n u x):∀(i:Nat) (v:Int),(stk++x::ext)[i]? =some v→Reach ll n v x:=by
 intro i
 induction i using fB with
 |ind i ih=>
  intro v hv;rcases IF hv with h | ⟨_,rfl⟩|⟨k,rfl,hk⟩
  ·exact hx v (bY h)
  ·exact .refl _
  ·obtain ⟨j,u,e1,e2,e3⟩:=R.inv.back _ v hv
   have:=(R.strict k v hk).2
   exact e3.trans (ih j (by omega) u e2)
variable {low0 stk:List Int}{x q:Int}{a0:A}{es low ext:List Int}{a:A}
theorem D8.not_stk (R:D8 S low0 stk x a0 es q low ext a) {v:Int}(hv:v∈x::ext):v∉stk:=fun h=>by
 have:=(List.nodup_append.1 R.inv.nodup).2.2
 exact this v h v hv rfl
theorem D8.not_x (R:D8 S low0 stk x a0 es q low ext a) {v:Int}(hv:v∈ext):v≠x:=fun h=>by
 have:=(List.nodup_append.1 R.inv.nodup).2.1
 rw [List.nodup_cons]at this;subst h;exact this.1 hv
theorem D8.x_on (R:D8 S low0 stk x a0 es q low ext a):0≤x∧x<n∧1≤lv low x∧lv low x≤(stk.length:Int)+1:=R.inv.on _ _ (Yg stk x ext)
theorem D8.begin (hn:n≤100000) (H:Inv ll n low0 stk) (h0:0≤x) (h1:x<n) (hx:lv low0 x=0) (hI:S.I (Dn low0) a0):D8 S low0 stk x a0 [] (lv (low0.set x.toNat ((stk.length:Int)+1)) x) (low0.set x.toNat ((stk.length:Int)+1)) [] a0:=by
 have hlen:=H.len;have hsz:=H.size;have hs:=fun v=>QF (low:=low0) (x:=x) (e:=(stk.length:Int)+1) h0 (by omega) v;have hxs:x∉stk:=fun h=>by
  obtain ⟨i,hi⟩:=cC h
  have:=(H.on i x hi).2.2.1
  omega
 have hD:Dn (low0.set x.toNat ((stk.length:Int)+1))=Dn low0:=by
  funext v;apply propext;show lv _ v=EG↔lv low0 v=EG;rw [hs];split
  ·rename_i e;subst e;rw [hx];simp only [EG];omega
  ·exact Iff.rfl
 have hne:∀ {v:Int},lv low0 v≠0→v≠x:=fun h e=>by subst e;exact h hx
 refine ⟨⟨?_,?_,?_,?_,?_,?_⟩,?_,?_,?_,?_,?_,?_,?_,?_⟩
 ·rw [eM];exact hlen
 ·intro i v hv;rcases IF hv with h | ⟨rfl,rfl⟩|⟨k,_,hk⟩
  ·have h2:=H.on i v h;rw [hs,if_neg (hne (by omega))];exact h2
  ·rw [hs,if_pos rfl];exact ⟨h0,h1,by omega,by omega⟩
  ·simp at hk
 ·intro v g0 g1 hv;have hvx:v≠x:=fun e=>hv (by rw [e];simp);rw [hs,if_neg hvx];exact H.off v g0 g1 fun h=>hv (dU _ h)
 ·rw [List.nodup_append];exact ⟨H.nodup,by simp,fun a ha b hb e=>by simp at hb;subst hb;subst e;exact hxs ha⟩
 ·intro i v hv;rcases IF hv with h | ⟨rfl,rfl⟩|⟨k,_,hk⟩
  ·obtain ⟨j,u,e1,e2,e3⟩:=H.back i v h;have h2:=H.on i v h;exact ⟨j,u,by rw [hs,if_neg (hne (by omega))];exact e1,Mm e2 _,e3⟩
  ·exact ⟨stk.length,v,by rw [hs,if_pos rfl],Yg _ _ _,.refl _⟩
  ·simp at hk
 ·intro v w hv hw;have hv':Dn low0 v:=by rw [←hD];exact hv
  have:=H.clo v w hv' hw
  show Dn _ w;rw [hD];exact this
 ·intro v hv;rw [hs,if_neg (hne hv)]
 ·intro v hv;cases hv
 ·intro v hv;cases hv
 ·intro i v hv;simp at hv
 ·intro v hv;cases hv
 ·intro w hw;cases hw
 ·rw [hD];exact hI
 ·exact fun y z h=>h
theorem D8.child (R:D8 S low0 stk x a0 es (lv low x) low ext a) {to:Int}{low' ext':List Int}{a':A}(hto:to∈C4 ll x n) (hz:lv low to=0) (Po:XI S low (stk++x::ext) to a low' ext' a'):D8 S low0 stk x a0 es (lv low' to) low' (ext++ext') a':=by
 have hx:=R.x_on;have hkx:lv low' x=lv low x:=Po.keep x (by omega);have hon:∀v∈ext,lv low v≠0:=fun v hv=>by
  obtain ⟨i,hi⟩:=cC hv
  have:=(R.inv.on _ _ (Yh (stk:=stk) (x:=x) hi)).2.2.1
  omega
 have hf0:∀v,lv low v=0→lv low0 v=0:=fun v hv=>by
  by_cases h:lv low0 v=0
  ·exact h
  ·have:=R.keep v h
   omega
 refine ⟨?_,?_,?_,?_,?_,?_,?_,Po.ok,fun y z h=>Po.mono y z (R.mono y z h)⟩
 ·have:=Po.inv
  rwa [cH,gK]at this
 ·intro v hv;have h1:=R.keep v hv;rw [Po.keep v (by rw [h1];exact hv),h1]
 ·intro v hv;rcases List.mem_append.1 hv with h | h
  ·exact R.fresh v h
  ·exact hf0 v (Po.fresh v h)
 ·intro v hv;rcases List.mem_append.1 hv with h | h
  ·exact R.reach v h
  ·exact .step hto (Po.reach v h)
 ·intro i v hv;rcases fE i ext.length with g | g
  ·rw [bX g]at hv;have h1:=R.strict i v hv;rw [Po.keep v (hon v (bY hv)),hkx];exact ⟨.inl (h1.1.elim id id),h1.2⟩
  ·rw [cL g]at hv;have h1:=Po.strict _ v hv;refine ⟨.inr h1.1,?_⟩;have h2:=h1.2;rw [cQ,dL]at h2;omega
 ·intro v hv w hw;rcases List.mem_append.1 hv with h | h
  ·obtain ⟨e1,e2,e3⟩:=R.edges v h w hw;rw [Po.keep v (hon v h),Po.keep w e1];exact ⟨e1,Po.mono _ _ e2,e3⟩
  ·obtain ⟨e1,e2,e3⟩:=Po.edges v h w hw;exact ⟨e1,e2,fun i hi=>e3 i (Mm hi _)⟩
 ·intro w hw;obtain ⟨e1,e2,e3⟩:=R.own w hw;rw [Po.keep w e1,hkx];exact ⟨e1,Po.mono _ _ e2,e3⟩
theorem D8.upd (hn:n≤100000) {to:Int}(hx:∀u∈stk,Reach ll n u x) (hz:lv low0 x=0) (R:D8 S low0 stk x a0 es (lv low to) low ext a) (hto:to∈C4 ll x n) (hne:lv low to≠0):
 ∃a',ledA a x to=some a'∧D8 S low0 stk x a0 (es++ [to]) (lv (low.set x.toNat (if lv low to<lv low x then lv low to else lv low x)) x) (low.set x.toNat (if lv low to<lv low x then lv low to else lv low x)) ext a':=by
 have hxo:=R.x_on;have hsz:=R.inv.size;have hlen:=R.inv.len;rw [cQ,dL]at hsz;obtain ⟨t0,t1⟩:=Ik hto;have hD0:¬Dn low x:=fun h=>by have h:lv low x=EG:=h;simp only [EG]at h;omega
 have hto':Dn low to∨ ∃i:Nat,(stk++x::ext)[i]? =some to:=by
  by_cases h:lv low to=EG
  ·exact .inl h
  ·exact .inr (R.inv.mem hn t0 t1 hne h)
 obtain ⟨a',h1,h2,h3,h4⟩:=S.led R.ok hxo.1 hxo.2.1 hto (hto'.imp id fun ⟨i,hi⟩=>R.all S hx i to hi) hD0;refine ⟨a',h1,?_⟩;obtain ⟨m,hm⟩:∃m,(if lv low to<lv low x then lv low to else lv low x)=m:=⟨_,rfl⟩;rw [hm];have hq1:1≤lv low to:=by
  rcases hto' with h | ⟨i,hi⟩
  ·have h:lv low to=EG:=h;rw [h];decide
  ·exact (R.inv.on i to hi).2.2.1
 have hmp:m≤lv low x:=by rw [←hm];split<;>omega
 have hmq:m≤lv low to:=by rw [←hm];split<;>omega
 have hm1:1≤m:=by rw [←hm];split<;>omega
 have hs:=fun v=>QF (low:=low) (x:=x) (e:=m) hxo.1 (by omega) v;have hD:Dn (low.set x.toNat m)=Dn low:=by
  funext v;apply propext;show lv _ v=EG↔lv low v=EG;rw [hs];split
  ·rename_i e;subst e;simp only [EG];omega
  ·exact Iff.rfl
 refine ⟨⟨?_,?_,?_,R.inv.nodup,?_,?_⟩,?_,R.fresh,R.reach,?_,?_,?_,?_,fun y z h=>h4 y z (R.mono y z h)⟩
 ·rw [eM];exact hlen
 ·intro i v hv;obtain ⟨g1,g2,g3,g4⟩:=R.inv.on i v hv;rw [hs];split
  ·rename_i e;subst e;exact ⟨g1,g2,hm1,by omega⟩
  ·exact ⟨g1,g2,g3,g4⟩
 ·intro v g0 g1 hv;have hvx:v≠x:=fun e=>hv (by rw [e];simp);rw [hs,if_neg hvx];exact R.inv.off v g0 g1 hv
 ·intro i v hv;rw [hs];split
  ·rename_i e
   subst e;by_cases hlt:lv low to<lv low v
   ·rw [if_pos hlt]at hm;subst hm;rcases hto' with h | ⟨k,hk⟩
    ·have h:lv low to=EG:=h;rw [h]at hlt;simp only [EG]at hlt;omega
    ·obtain ⟨j,u,e1,e2,e3⟩:=R.inv.back k to hk;exact ⟨j,u,e1,e2,.step hto e3⟩
   ·rw [if_neg hlt]at hm;subst hm;exact R.inv.back i v hv
  ·exact R.inv.back i v hv
 ·intro v w hv hw;have hv':Dn low v:=by rw [←hD];exact hv
  show Dn _ w;rw [hD];exact R.inv.clo v w hv' hw
 ·intro v hv;have hvx:v≠x:=fun e=>hv (by rw [e];exact hz);rw [hs,if_neg hvx];exact R.keep v hv
 ·intro i v hv;have hvx:=R.not_x S (bY hv);obtain ⟨g1,g2⟩:=R.strict i v hv;rw [hs x,if_pos rfl,hs v,if_neg hvx];refine ⟨.inl ?_,g2⟩;rcases g1 with g | g<;>omega
 ·intro v hv w hw;obtain ⟨e1,e2,e3⟩:=R.edges v hv w hw;rw [hs v,if_neg (R.not_x S hv)];refine ⟨?_,h4 _ _ e2,e3⟩;rw [hs]
  split<;>omega
 ·intro w hw;rw [hs x,if_pos rfl];refine ⟨?_,?_,?_⟩
  ·rw [hs];split
   ·omega
   ·rcases List.mem_append.1 hw with h | h
    ·exact (R.own w h).1
    ·simp at h;subst h;exact hne
  ·rcases List.mem_append.1 hw with h | h
   ·exact h4 _ _ (R.own w h).2.1
   ·simp at h;subst h;exact h3
  ·intro i hi;rcases List.mem_append.1 hw with h | h
   ·have:=(R.own w h).2.2 i hi;omega
   ·simp at h;subst h
    have:=(R.inv.on i w (Mm hi _)).2.2.2
    omega
 ·rw [hD];exact h2
theorem D8.stay (hz:lv low0 x=0) (R:D8 S low0 stk x a0 (C4 ll x n) (lv low x) low ext a) (hne:lv low x≠(stk.length:Int)+1):XI S low0 stk x a0 low (x::ext) a:=by
 have hx:=R.x_on;refine ⟨R.inv,R.keep,by omega,?_,?_,?_,?_,R.ok,R.mono⟩
 ·intro v hv;rcases List.mem_cons.1 hv with h | h
  ·rw [h];exact hz
  ·exact R.fresh v h
 ·intro v hv;rcases List.mem_cons.1 hv with h | h
  ·rw [h];exact .refl _
  ·exact R.reach v h
 ·intro i v hv;cases i with
  |zero=>
   simp only [eR,Option.some.injEq]at hv;subst hv;exact ⟨Int.le_refl _,by omega⟩
  |succ i=>
   have:=R.strict i v (by simpa using hv)
   exact ⟨this.1.elim id id,by omega⟩
 ·intro v hv w hw;rcases List.mem_cons.1 hv with h | h
  ·subst h;exact R.own w hw
  ·exact R.edges v h w hw
theorem XJ {low:List Int}:∀(l:List Int),(∀v∈l,0≤v∧v< (low.length:Int))→l.length≤9223372036854775807→ ∃low':List Int,(forS 0 (l.length:Int) low fun i low=>(idx l i).bind fun y=>EM low y 9223372036854775807)=some low'∧low'.length=low.length∧ ∀v,lv low' v=if v∈l then EG else lv low v:=by
 intro l hl hb;obtain ⟨low',h1,h2,h3⟩:=CR (f:=fun i (low:List Int)=>(idx l i).bind fun y=>EM low y 9223372036854775807) (n:=l.length) (fun k low'=>low'.length=low.length∧ ∀v,lv low' v=if v∈l.take k then EG else lv low v) hb (s:=low) ⟨rfl,fun v=>by simp⟩ (fun k s hk ⟨g1,g2⟩=>by
  have hr:=hl _ (cD hk);refine ⟨s.set (l[k]).toNat EG,by rw [Fe hk];exact HS hr.1 (by omega),by rw [eM];exact g1,fun v=> ?_⟩;rw [QF hr.1 (by omega),g2,cI hk];by_cases e:v=l[k]
  ·rw [if_pos e,if_pos (dO _ (by rw [e];exact List.mem_singleton.2 rfl))]
  ·rw [if_neg e];by_cases h:v∈l.take k
   ·rw [if_pos h,if_pos (dU _ h)]
   ·rw [if_neg h,if_neg fun g=>(List.mem_append.1 g).elim h fun g=>e (List.mem_singleton.1 g)])
 refine ⟨low',h1,h2,fun v=> ?_⟩;rw [h3,dN]
theorem D8.pop (hn:n≤100000) (hx:∀u∈stk,Reach ll n u x) (hz:lv low0 x=0) (R:D8 S low0 stk x a0 (C4 ll x n) (lv low x) low ext a) (he:lv low x=(stk.length:Int)+1) {low':List Int}(hlen':low'.length=low.length) (hlow:∀v,lv low' v=if v∈x::ext then EG else lv low v):
 ∃a',partA a (x::ext)=some a'∧XI S low0 stk x a0 low' [] a':=by
 have hxo:=R.x_on;have hsz:=R.inv.size;have hlen:=R.inv.len;rw [cQ,dL]at hsz;have hge:∀v∈x::ext,(stk.length:Int)+1≤lv low v:=fun v hv=>by
  rcases List.mem_cons.1 hv with h | h
  ·subst h;omega
  ·obtain ⟨i,hi⟩:=cC h
   have:=(R.strict i v hi).1.elim id id
   omega
 have hed:∀v∈x::ext,∀w∈C4 ll v n,lv low w≠0∧S.Q a v w∧ ∀i:Nat,stk[i]? =some w→lv low v≤(i:Int)+1:=fun v hv w hw=>by
  rcases List.mem_cons.1 hv with h | h
  ·subst h;exact R.own w hw
  ·exact R.edges v h w hw
 have hmem:∀v∈x::ext,∃i:Nat,(stk++x::ext)[i]? =some v:=fun v hv=>cC (dO _ hv);have hcl:∀v∈x::ext,∀w∈C4 ll v n,lv low w=EG∨w∈x::ext:=fun v hv w hw=>by
  obtain ⟨e1,e2,e3⟩:=hed v hv w hw;obtain ⟨w0,w1⟩:=Ik hw;by_cases hM:lv low w=EG
  ·exact .inl hM
  ·obtain ⟨i,hi⟩:=R.inv.mem hn w0 w1 e1 hM;rcases IF hi with h | ⟨_,rfl⟩|⟨k,_,hk⟩
   ·have h1:=e3 i h;have h2:=hge v hv;have h3:=LS h;omega
   ·exact .inr (by simp)
   ·exact .inr (cJ _ (bY hk))
 have hnd:∀v∈x::ext,¬lv low v=EG:=fun v hv=>by
  obtain ⟨i,hi⟩:=hmem v hv;exact R.inv.notMax hn hi
 have hto:∀v∈x::ext,Reach ll n x v∧Reach ll n v x:=fun v hv=>by
  obtain ⟨i,hi⟩:=hmem v hv;refine ⟨?_,R.all S hx i v hi⟩;rcases List.mem_cons.1 hv with h | h
  ·rw [h];exact .refl _
  ·exact R.reach v h
 have hD:Dn low'=fun v=>Dn low v∨v∈x::ext:=by
  funext v;apply propext;show lv low' v=EG↔_;rw [hlow];split
  ·exact ⟨fun _=>.inr (by assumption),fun _=>rfl⟩
  ·exact ⟨fun h=>.inl h,fun h=>h.elim id fun g=>absurd g (by assumption)⟩
 have hndp:=(List.nodup_append.1 R.inv.nodup).2.1;obtain ⟨a',h1,h2,h3⟩:=S.part (l:=x::ext) R.ok (by simp) hndp (fun v hv=>by
  obtain ⟨i,hi⟩:=hmem v hv
  have:=R.inv.on i v hi
  exact ⟨this.1,this.2.1,hnd v hv⟩) (fun v hv w hw=>⟨(hed v hv w hw).2.1,hcl v hv w hw⟩) (fun v hv z=>by
  constructor
  ·intro hzl;exact ⟨(hto v hv).2.trans (hto z hzl).1,(hto z hzl).2.trans (hto v hv).1⟩
  ·rintro ⟨g1,g2⟩;rcases g1.closed (D:=fun v=>lv low v=EG∨v∈x::ext) (fun v w hv hw=>by
    rcases hv with h | h
    ·exact .inl (R.inv.clo v w h hw)
    ·exact hcl v h w hw) (.inr hv) with h | h
   ·exact absurd (g2.closed (D:=fun v=>lv low v=EG) (fun v w hv hw=>R.inv.clo v w hv hw) h) (hnd v hv)
   ·exact h)
 refine ⟨a',h1,⟨⟨?_,?_,?_,?_,?_,?_⟩,?_,?_,?_,?_,?_,?_,?_,fun y z h=>h3 y z (R.mono y z h)⟩⟩
 ·rw [hlen'];exact hlen
 ·intro i v hv;rw [dS]at hv;have hns:v∉x::ext:=fun h=>R.not_stk S h (bY hv);rw [hlow,if_neg hns];exact R.inv.on i v (Mm hv _)
 ·intro v g0 g1 hv;rw [dS]at hv;rw [hlow];split
  ·exact .inr rfl
  ·rename_i h
   exact R.inv.off v g0 g1 fun g=>(List.mem_append.1 g).elim hv h
 ·rw [dS];exact (List.nodup_append.1 R.inv.nodup).1
 ·intro i v hv;rw [dS]at hv ⊢;have hns:v∉x::ext:=fun h=>R.not_stk S h (bY hv);obtain ⟨j,u,e1,e2,e3⟩:=R.inv.back i v (Mm hv _);have h4:=(R.inv.on i v (Mm hv _)).2.2.2;have h5:=LS hv;refine ⟨j,u,by rw [hlow,if_neg hns];exact e1,?_,e3⟩;rw [bX (by omega)]at e2;exact e2
 ·intro v w hv hw;have hv':Dn low v∨v∈x::ext:=by
   have:Dn low' v:=hv
   rwa [hD]at this
  show Dn low' w;rw [hD];rcases hv' with h | h
  ·exact .inl (R.inv.clo v w h hw)
  ·exact hcl v h w hw
 ·intro v hv;have hns:v∉x::ext:=fun h=>by
   rcases List.mem_cons.1 h with h | h
   ·rw [h]at hv;exact hv hz
   ·exact hv (R.fresh v h)
  rw [hlow,if_neg hns];exact R.keep v hv
 ·rw [hlow,if_pos (by simp)];decide
 ·intro v hv;cases hv
 ·intro v hv;cases hv
 ·intro i v hv;simp at hv
 ·intro v hv;cases hv
 ·rw [hD];exact h2
theorem Se (hn:n≤100000) (hll:∀l∈ll,l.length≤1073741824):∀(fuel:Nat) (low stk:List Int) (a:A) (x:Int),Inv ll n low stk→0≤x→x<n→lv low x=0→(∀u∈stk,Reach ll n u x)→S.I (Dn low) a→low.count 0≤fuel→
 ∃low' ext a',Ju ll n ledA partA fuel (low,stk,a) x=some (low',stk++ext,a')∧XI S low stk x a low' ext a':=by
 intro fuel
 induction fuel with
 |zero=>
  intro low stk a x H h0 h1 hx _ _ hc;have hlen:=H.len
  have:=IG (e:=1) h0 (by omega) hx (by decide)
  omega
 |succ f ih=>
  intro low stk a x H h0 h1 hx hr hI hc;have hlen:=H.len;have hsz:=H.size;have hfl:(C4 ll x n).length≤1073741824:=by
   unfold C4;split
   ·simp
   ·refine dI (eH _ _) ?_;cases hg:ll[x.toNat]? with
    |none=>simp
    |some l=>exact hll l (bY hg)
  show ∃low' ext a',Nu ll n ledA partA (Ju ll n ledA partA f) (low,stk,a) x=some (low',stk++ext,a')∧_;unfold Nu;dsimp only;rw [SF (by simp;omega),bU,HS h0 (by omega),bU,FA hll];have hst:(((stk++ [x]).length:Nat):Int)=(stk.length:Int)+1:=by simp
  rw [hst];have hc1:=IG (e:=(stk.length:Int)+1) h0 (by omega) hx (by omega);obtain ⟨st,e1,low1,ext1,a1,rfl,R,hc2⟩:=CR (f:=fun i st=>(idx (C4 ll x n) i).bind fun to=>toD ledA (Ju ll n ledA partA f) x to st) (n:=(C4 ll x n).length)
   (fun k st=>∃low1 ext1 a1,st=((low1,stk++x::ext1,a1):Df A)∧D8 S low stk x a ((C4 ll x n).take k) (lv low1 x) low1 ext1 a1∧low1.count 0≤f) (by omega) (s:=((low.set x.toNat ((stk.length:Int)+1),stk++ [x],a):Df A))
   ⟨_,[],a,rfl,by rw [List.take_zero];exact D8.begin S hn H h0 h1 hx hI,by omega⟩ (fun k st hk ⟨low1,ext1,a1,e,R,hc2⟩=>by
    subst e;have hto:=cD hk;obtain ⟨t0,t1⟩:=Ik hto;have hl1:=R.inv.len;rw [Fe hk,bU,cI hk]
    generalize (C4 ll x n)[k] =to at *
    unfold toD;dsimp only;rw [Ml t0 (by omega),bU];have mid:∃low2 ext2 a2,(cond (lv low1 to==0) (Ju ll n ledA partA f (low1,stk++x::ext1,a1) to) (some (low1,stk++x::ext1,a1)))=some (low2,stk++x::ext2,a2)∧D8 S low stk x a ((C4 ll x n).take k) (lv low2 to) low2 ext2 a2∧lv low2 to≠0∧low2.count 0≤f:=by
     by_cases hz:lv low1 to=0
     ·rw [show (lv low1 to==0)=true by simp [hz],cond_true];obtain ⟨low2,ext2,a2,g1,g2⟩:=ih low1 (stk++x::ext1) a1 to R.inv t0 t1 hz (fun u hu=>by
       obtain ⟨i,hi⟩:=cC hu;exact (R.all S hr i u hi).trans (.one hto)) R.ok hc2
      refine ⟨low2,ext1++ext2,a2,by rw [g1,cH,gK],R.child S hto hz g2,g2.seen,?_⟩;have hl2:=g2.inv.len;exact dI (RP (by omega) fun v hv=>by rw [g2.keep v hv];exact hv) hc2
     ·rw [show (lv low1 to==0)=false by simp [hz],cond_false];exact ⟨low1,ext1,a1,rfl,⟨R.inv,R.keep,R.fresh,R.reach,fun i v hv=>⟨.inl ((R.strict i v hv).1.elim id id),(R.strict i v hv).2⟩,R.edges,R.own,R.ok,R.mono⟩,hz,hc2⟩
    obtain ⟨low2,ext2,a2,g1,R2,hne,hc3⟩:=mid;have hl2:=R2.inv.len;have hx2:=R2.x_on;rw [g1];simp only [bU];rw [Ml h0 (by omega),bU,Ml t0 (by omega),bU,HS h0 (by omega),bU];obtain ⟨a3,g3,R3⟩:=R2.upd S hn hr hx hto hne;refine ⟨_,by rw [g3];rfl,_,ext2,a3,rfl,R3,?_⟩;refine dI (RP (by simp) fun v hv=> ?_) hc3;rw [QF h0 (by omega)];split
    ·have:1≤lv low2 to:=by
      by_cases hM:lv low2 to=EG
      ·rw [hM];decide
      ·obtain ⟨i,hi⟩:=R2.inv.mem hn t0 t1 hne hM;exact (R2.inv.on i to hi).2.2.1
     split<;>omega
    ·exact hv)
  rw [dN]at R;have hl1:=R.inv.len;have hs1:=R.inv.size;have hxo:=R.x_on;rw [e1,bU];unfold U6;dsimp only;rw [Ml h0 (by omega),bU,hst];by_cases hd:lv low1 x=(stk.length:Int)+1
  ·rw [show (lv low1 x !=(stk.length:Int)+1)=false by simp [hd],cond_false];have hsn:(stk++ [x]).length=stk.length+1:=by simp
   rw [hsn,FA ⟨by omega,by simp,by omega⟩];have hdr:(stk++x::ext1).drop (stk.length+1 - 1)=x::ext1:=by simp
   have htk:(stk++x::ext1).take (stk.length+1 - 1)=stk:=by simp
   rw [hdr,htk];obtain ⟨low2,g1,g2,g3⟩:=XJ (low:=low1) (x::ext1) (fun v hv=>by
    obtain ⟨i,hi⟩:=cC (dO stk hv)
    have:=R.inv.on i v hi
    exact ⟨this.1,by omega⟩) (by rw [cQ]at hs1;omega)
   obtain ⟨a2,g4,g5⟩:=R.pop S hn hr hx hd g2 g3;exact ⟨low2,[],a2,by rw [g1,bU,g4,dS];rfl,g5⟩
  ·rw [show (lv low1 x !=(stk.length:Int)+1)=true by simp [hd],cond_true];exact ⟨low1,x::ext1,a1,rfl,R.stay S hx hd⟩
end
section
variable {ll:List (List Int)}{n:Int}{A:Type}{ledA:A→Int→Int→Option A}{partA:A→List Int→Option A}(S:Yf ll n ledA partA)
theorem UQ (h0:0≤n) (hn:n≤100000) (hll:∀l∈ll,l.length≤1073741824) {a:A}(hI:S.I (fun _=>False) a) {fuel:Nat}(hf:n.toNat≤fuel):∃st',PE ll n ledA partA fuel a=some st'∧S.I (fun v=>0≤v∧v<n) st'.2.2:=by
 unfold PE;rw [FA ⟨h0,by omega⟩];have hrep:∀v,lv (dE n.toNat (0:Int)) v=0:=fun v=>by
  unfold lv idx;split
  ·rw [fP]
   split<;>rfl
  ·rfl
 have hn':n=(n.toNat:Int):=by omega
 have hloop:=CR (f:=fun i (st:Df A)=>(idx st.1 i).bind fun e=>cond (e==0) (Ju ll n ledA partA fuel st i) (some st)) (n:=n.toNat)
  (fun k st=>∃low a',st=(low,[],a')∧Inv ll n low [] ∧(∀v:Int,0≤v→v<k→lv low v≠0)∧S.I (Dn low) a') (by omega) (s:=(dE n.toNat (0:Int),[],a))
  ⟨_,_,rfl,⟨by simp;omega,fun i v hv=>by simp at hv,fun v _ _ _=>.inl (hrep v),.nil,fun i v hv=>by simp at hv,fun v w hv=>by rw [hrep]at hv;simp [EG]at hv⟩,fun v g0 g1=>by omega,by
   have:Dn (dE n.toNat (0:Int))=fun _=>False:=by
    funext v;apply propext;show lv _ v=EG↔False;rw [hrep];exact ⟨fun h=>(by simp [EG]at h),fun h=>h.elim⟩
   rw [this];exact hI⟩ (fun k st hk ⟨low,a1,e,H,hseen,hok⟩=>by
    subst e;have hlen:=H.len;dsimp only;rw [Ml (by omega) (by omega),bU];by_cases hz:lv low (k:Int)=0
    ·rw [show (lv low (k:Int)==0)=true by simp [hz],cond_true];have hcl:low.count 0≤low.length:=List.count_le_length;obtain ⟨low',ext,a2,g1,Po⟩:=Se S hn hll fuel low [] a1 k H (by omega) (by omega) hz (fun u hu=>by cases hu) hok (by omega);have hext:ext= []:=by
      cases ext with
      |nil=>rfl
      |cons v r=>
       have h1:=(Po.strict 0 v rfl).2;have h2:=(Po.inv.on 0 v rfl).2.2.1;simp at h1;omega
     subst hext;refine ⟨_,g1,low',a2,rfl,Po.inv,fun v g0 g2=> ?_,Po.ok⟩;by_cases hv:v=(k:Int)
     ·subst hv;exact Po.seen
     ·have:=hseen v g0 (by omega)
      rw [Po.keep v this];exact this
    ·rw [show (lv low (k:Int)==0)=false by simp [hz],cond_false];refine ⟨_,rfl,low,a1,rfl,H,fun v g0 g2=> ?_,hok⟩;by_cases hv:v=(k:Int)
     ·subst hv;exact hz
     ·exact hseen v g0 (by omega))
 rw [←hn']at hloop;obtain ⟨st',e1,low,a',rfl,H,hseen,hok⟩:=hloop;refine ⟨_,e1,?_⟩;have hlen:=H.len
 have:Dn low=fun v=>0≤v∧v<n:=by
  funext v;apply propext;show lv low v=EG↔_;constructor
  ·intro h;rcases fF v 0 with g | g
   ·rw [Vz (.inl g)]at h;cases h
   ·refine ⟨g,?_⟩;rcases fF v n with g' | g'
    ·exact g'
    ·rw [Vz (.inr (by omega))]at h;cases h
  ·rintro ⟨g0,g1⟩;rcases H.off v g0 g1 (by simp) with h | h
   ·exact absurd h (hseen v g0 (by omega))
   ·exact h
 rw [←this];exact hok
end
def gv (a:List AX) (v:Int):AX:=(idx a v).getD (0,[])
theorem QG {a:List AX}{v:Int}(h0:0≤v) (h1:v< (a.length:Int)):idx a v=some (gv a v):=by
 have:idx a v=some a[v.toNat]:=KL h0 (by omega)
 unfold gv;rw [this];rfl
theorem V0 {a:List AX}{x:Int}{s:AX}(h0:0≤x) (h1:x< (a.length:Int)) (v:Int):gv (a.set x.toNat s) v=if v=x then s else gv a v:=by
 by_cases hv:v=x
 ·subst hv;rw [if_pos rfl];unfold gv idx;rw [if_pos h0,dV,if_pos rfl,if_pos (by omega)];rfl
 ·rw [if_neg hv];unfold gv idx;split
  ·rw [dV,if_neg (by omega)]
  ·rfl
section
variable (ll:List (List Int)) (n wide:Int) (B:List AX)
def LC (v j:Int):Prop:= ∃z,Reach ll n v z∧mem (gv B z) j=true
structure J4 (a:List AX):Prop where
 len:(a.length:Int)=n
 ok:∀v,0≤v→v<n→OkS (gv a v)∧(gv a v).1=wide
 base:∀v j,0≤v→v<n→mem (gv B v) j=true→mem (gv a v) j=true
 sound:∀v j,0≤v→v<n→mem (gv a v) j=true→LC ll n B v j
variable {ll n wide B}
theorem LC.back {v w j:Int}(h:Reach ll n v w) (k:LC ll n B w j):LC ll n B v j:=by
 obtain ⟨z,h1,h2⟩:=k;exact ⟨z,h.trans h1,h2⟩
theorem XK {a:List AX}(H:J4 ll n wide B a) {v j:Int}(h0:0≤v) (h1:v<n) (h:mem (gv a v) j=true):j<wide:=by
 obtain ⟨k1,k2⟩:=H.ok v h0 h1
 have:=(Mc k1 h).2
 omega
theorem J4.led {a:List AX}(H:J4 ll n wide B a) {x to:Int}(h0:0≤x) (h1:x<n) (t0:0≤to) (t1:to<n) (hr:Reach ll n x to):∃a',N1 a x to=some a'∧J4 ll n wide B a'∧(∀v,v≠x→gv a' v=gv a v)∧(∀j,mem (gv a' x) j=(mem (gv a x) j || mem (gv a to) j)):=by
 have hlen:=H.len;obtain ⟨kx,wx⟩:=H.ok x h0 h1;obtain ⟨kt,wt⟩:=H.ok to t0 t1;obtain ⟨u1,u2,u3⟩:=L3 kx kt;have hs:=fun v=>V0 (a:=a) (x:=x) (s:=BS (gv a x) (gv a to)) h0 (by omega) v;have hm:∀j,mem (BS (gv a x) (gv a to)) j=(mem (gv a x) j || mem (gv a to) j):=fun j=>by
  rw [u3];by_cases h:mem (gv a to) j=true
  ·have:=XK H t0 t1 h
   rw [decide_eq_true (by omega),Bool.and_true]
  ·rw [gL]at h;rw [h];rfl
 refine ⟨a.set x.toNat (BS (gv a x) (gv a to)),?_,⟨by rw [eM];exact hlen,?_,?_,?_⟩,fun v hv=>by rw [hs,if_neg hv],fun j=>by rw [hs,if_pos rfl,hm]⟩
 ·unfold N1;rw [QG h0 (by omega),bU,QG t0 (by omega),bU,FA ⟨kx,kt⟩,HS h0 (by omega)]
 ·intro v g0 g1;rw [hs];split
  ·exact ⟨u1,by rw [u2,wx]⟩
  ·exact H.ok v g0 g1
 ·intro v j g0 g1 h;rw [hs];split
  ·rename_i e
   subst e;rw [hm,H.base v j g0 g1 h];rfl
  ·exact H.base v j g0 g1 h
 ·intro v j g0 g1 h;rw [hs]at h;split at h
  ·rename_i e
   subst e;rw [hm,dH]at h;rcases h with h | h
   ·exact H.sound v j g0 g1 h
   ·exact (H.sound to j t0 t1 h).back hr
  ·exact H.sound v j g0 g1 h
theorem XL {s:AX}(H:OkS s):Cg s=some s:=by
 unfold Cg cloneD;have h1:=H.len;have h2:=H.hi;rw [if_pos (by omega)];rfl
theorem J4.part {a:List AX}(H:J4 ll n wide B a) {l0:Int}{l:List Int}(hin:∀v∈l0::l,0≤v∧v<n) (hnd:(l0::l).Nodup) (hb:l.length≤100000) (hr:∀v∈l0::l,∀w∈l0::l,Reach ll n v w):
 ∃a',M9 a (l0::l)=some a'∧J4 ll n wide B a'∧(∀v,v∉l0::l→gv a' v=gv a v)∧ ∀v∈l0::l,∀w∈l0::l,∀j,mem (gv a w) j=true→mem (gv a' v) j=true:=by
 have i0:=hin l0 (by simp);have hnl:l0∉l:=(List.nodup_cons.1 hnd).1;obtain ⟨a1,e1,H1,o1,m1,n1⟩:=CR (f:=fun i (a:List AX)=>(idx l i).bind fun y=>N1 a l0 y) (n:=l.length)
  (fun k b=>J4 ll n wide B b∧(∀v,v≠l0→gv b v=gv a v)∧(∀j,mem (gv a l0) j=true→mem (gv b l0) j=true)∧ ∀w∈l.take k,∀j,mem (gv a w) j=true→mem (gv b l0) j=true) (by omega) (s:=a)
  ⟨H,fun _ _=>rfl,fun _ h=>h,fun w hw=>by simp at hw⟩ (fun k b hk ⟨Hb,ob,mb,nb⟩=>by
   have hy:l[k]∈l:=cD hk;obtain ⟨y0,y1⟩:=hin _ (cJ _ hy);obtain ⟨b',g1,g2,g3,g4⟩:=Hb.led i0.1 i0.2 y0 y1 (hr _ (by simp) _ (cJ _ hy));refine ⟨b',by rw [Fe hk];exact g1,g2,fun v hv=>(g3 v hv).trans (ob v hv),fun j h=>by rw [g4,mb j h];rfl,fun w hw j h=> ?_⟩;rw [cI hk]at hw;rw [g4];rcases List.mem_append.1 hw with hw | hw
   ·rw [nb w hw j h];rfl
   ·have hw:=List.mem_singleton.1 hw;rw [hw]at h;have h2:=ob l[k] (fun e=>hnl (by rw [←e];exact hy));rw [h2,h,Bool.or_true])
 rw [dN]at n1;have hl1:=H1.len;have k1:=H1.ok l0 i0.1 i0.2;obtain ⟨a2,e2,H2,o2,m2⟩:=CR (f:=fun i (a:List AX)=>(idx l i).bind fun y=>(idx a l0).bind fun s=>(Cg s).bind fun s=>EM a y s) (n:=l.length)
  (fun k b=>J4 ll n wide B b∧(∀v,v∉l.take k→gv b v=gv a1 v)∧ ∀v∈l.take k,gv b v=gv a1 l0) (by omega) (s:=a1)
  ⟨H1,fun _ _=>rfl,fun w hw=>by simp at hw⟩ (fun k b hk ⟨Hb,ob,mb⟩=>by
   have hy:l[k]∈l:=cD hk;have hlb:=Hb.len;obtain ⟨y0,y1⟩:=hin _ (cJ _ hy);have hb0:gv b l0=gv a1 l0:=ob l0 fun h=>hnl (eI h);have hs:=fun v=>V0 (a:=b) (x:=l[k]) (s:=gv a1 l0) y0 (by omega) v;refine ⟨b.set (l[k]).toNat (gv a1 l0),?_,⟨by rw [eM];exact hlb,?_,?_,?_⟩,?_,?_⟩
   ·rw [Fe hk,bU,QG i0.1 (by omega),bU,hb0,XL k1.1,bU,HS y0 (by omega)]
   ·intro v g0 g1;rw [hs];split
    ·exact k1
    ·exact Hb.ok v g0 g1
   ·intro v j g0 g1 h;rw [hs];split
    ·rename_i e
     subst e;exact n1 _ hy j (H.base _ j g0 g1 h)
    ·exact Hb.base v j g0 g1 h
   ·intro v j g0 g1 h;rw [hs]at h;split at h
    ·rename_i e
     subst e;exact (H1.sound l0 j i0.1 i0.2 h).back (hr _ (cJ _ hy) _ (by simp))
    ·exact Hb.sound v j g0 g1 h
   ·intro v hv;rw [cI hk]at hv;have h1:v∉l.take k:=fun h=>hv (dU _ h);have h2:v≠l[k]:=fun h=>hv (dO _ (List.mem_singleton.2 h));rw [hs,if_neg h2];exact ob v h1
   ·intro v hv;rw [cI hk]at hv;rw [hs];split
    ·rfl
    ·rename_i h2
     rcases List.mem_append.1 hv with h | h
     ·exact mb v h
     ·exact absurd (List.mem_singleton.1 h) h2)
 rw [dN]at o2 m2;refine ⟨a2,?_,H2,fun v hv=> ?_,fun v hv w hw j h=> ?_⟩
 ·unfold M9;rw [show idx (l0::l) 0=some l0 from rfl,bU,show (l0::l).drop 1=l from rfl,e1,bU,e2]
 ·rw [List.mem_cons,not_or]at hv;rw [o2 v hv.2,o1 v hv.1]
 ·have hv':gv a2 v=gv a1 l0:=by
   rcases List.mem_cons.1 hv with e | e
   ·rw [e];exact o2 l0 hnl
   ·exact m2 v e
  rw [hv'];rcases List.mem_cons.1 hw with e | e
  ·subst e;exact m1 j h
  ·exact n1 w e j h
def UR (hn:n≤100000):Yf ll n N1 M9 where
 I D a:=J4 ll n wide B a∧ ∀v,D v→0≤v→v<n→ ∀j,LC ll n B v j→mem (gv a v) j=true
 Q a y z:= ¬Reach ll n z y→ ∀j,LC ll n B z j→mem (gv a y) j=true
 led:=by
  rintro D a x to ⟨H,hD⟩ h0 h1 hto hr hx;obtain ⟨t0,t1⟩:=Ik hto;obtain ⟨a',e,H',o,m⟩:=H.led h0 h1 t0 t1 (.one hto);have grow:∀v j,mem (gv a v) j=true→mem (gv a' v) j=true:=fun v j h=>by
   by_cases hv:v=x
   ·subst hv;rw [m,h];rfl
   ·rw [o v hv];exact h
  refine ⟨a',e,⟨H',fun v hv g0 g1 j hj=>grow v j (hD v hv g0 g1 j hj)⟩,fun hnr j hj=> ?_,fun y z h hnr j hj=>grow y j (h hnr j hj)⟩;rcases hr with g | g
  ·rw [m,hD to g t0 t1 j hj,Bool.or_true]
  ·exact absurd g hnr
 part:=by
  rintro D a l ⟨H,hD⟩ hne hnd hin hq hscc;obtain ⟨l0,l',rfl⟩:∃l0 l',l=l0::l':=by
   cases l with
   |nil=>exact absurd rfl hne
   |cons a l=>exact ⟨a,l,rfl⟩
  have hlen:(l0::l').length≤100000:=by
   have h:=List.Nodup.length_le_of_subset (l₂:=(fG n.toNat).map fun k:Nat=>(k:Int)) hnd (fun v hv=>by
    have:=hin v hv
    exact List.mem_map.2 ⟨v.toNat,List.mem_range.2 (by omega),by omega⟩)
   simp at h ⊢;omega
  obtain ⟨a',e,H',o,m⟩:=H.part (fun v hv=>⟨(hin v hv).1,(hin v hv).2.1⟩) hnd (by simp at hlen;omega) (fun v hv w hw=>((hscc v hv w).1 hw).1);have grow:∀v j,mem (gv a v) j=true→mem (gv a' v) j=true:=fun v j h=>by
   by_cases hv:v∈l0::l'
   ·exact m v hv v hv j h
   ·rw [o v hv];exact h
  have key:∀ {y z:Int},Reach ll n y z→ ∀j,mem (gv B z) j=true→y∈l0::l'→ ∃w∈l0::l',mem (gv a w) j=true:=fun {y z} hr j hj=>by
   induction hr with
   |refl y=>
    intro hy;exact ⟨y,hy,H.base y j (hin y hy).1 (hin y hy).2.1 hj⟩
   | @step y w z he hr ih=>
    intro hy;by_cases hw:w∈l0::l'
    ·exact ih hj hw
    ·refine ⟨y,hy,(hq y hy w he).1 (fun hwy=>hw ((hscc y hy w).2 ⟨.one he,hwy⟩)) j ⟨z,hr,hj⟩⟩
  refine ⟨a',e,⟨H',fun v hv g0 g1 j hj=> ?_⟩,fun y z h hnr j hj=>grow y j (h hnr j hj)⟩;rcases hv with hv | hv
  ·exact grow v j (hD v hv g0 g1 j hj)
  ·obtain ⟨z,hz1,hz2⟩:=hj;obtain ⟨w,hw,hm⟩:=key hz1 j hz2 hv;exact m v hv w hw j hm
end
theorem KV {α:Type}{f:Int→List α→Option (List α)}{n:Nat}(hn:n≤9223372036854775807) (P:Nat→α→Prop) (hs:∀(k:Nat) (acc:List α),k<n→acc.length=k→ ∃x,f (k:Int) acc=some (acc++ [x])∧P k x):
 ∃r,forS 0 (n:Int) ([]:List α) f=some r∧r.length=n∧ ∀(k:Nat) (x:α),r[k]? =some x→P k x:=by
 obtain ⟨r,h1,h2,h3⟩:=CR (f:=f) (n:=n) (fun k acc=>acc.length=k∧ ∀(j:Nat) (x:α),acc[j]? =some x→P j x) hn (s:=[]) ⟨rfl,fun j x h=>by simp at h⟩ (fun k acc hk ⟨g1,g2⟩=>by
  obtain ⟨x,e1,e2⟩:=hs k acc hk g1;refine ⟨_,e1,by simp [g1],fun j y hj=> ?_⟩;rcases gI j acc.length with g | g | g
  ·rw [bX g]at hj;exact g2 j y hj
  ·subst g;rw [cL (cU _),gG]at hj;cases hj;rw [g1];exact e2
  ·rw [dC (by simp;omega)]at hj;cases hj)
 exact ⟨r,h1,h2,h3⟩
theorem XM {α:Type}{l:List α}(h:l.length<1073741824) (x:α):app l [x] =some (l++ [x]):=SF (by simp;omega)
theorem X5 {l:List Int}(h:l.length≤9223372036854775807) (x:Int):Ao l x=some (decide (x∈l)):=by
 unfold Ao;rcases Lr (f:=fun i_z2 (z2:Unit)=>(idx l i_z2).bind fun e23=>cond (e23==x) (some (gH true)) (some (fQ ()))) (fun k _=>x∉l.take k) (fun b=>b=true∧x∈l) h (s:=()) (by simp) (fun k s hk hI=>by
  rw [Fe hk,bU];by_cases e:l[k] =x
  ·rw [show (l[k] ==x)=true by simp [e]];exact .inr ⟨true,rfl,rfl,by rw [←e];exact cD hk⟩
  ·rw [show (l[k] ==x)=false by simp [e]];refine .inl ⟨(),rfl,?_⟩;rw [cI hk];intro hm;rcases List.mem_append.1 hm with g | g
   ·exact hI g
   ·exact e (List.mem_singleton.1 g).symm) with ⟨s,e,hI⟩|⟨b,e,rfl,hx⟩
 ·rw [dN]at hI;rw [e,decide_eq_false hI];rfl
 ·rw [e,decide_eq_true hx];rfl
theorem contains_ok {l:List Int}(h:l.length≤9223372036854775807) (x:Int):Bu l x=some (decide (x∈l)):=by
 unfold Bu Cp;rcases Lr (f:=fun i_z2 (z2:Unit)=>(idx l i_z2).bind fun e23=>cond (x==e23) (some (gH i_z2)) (some (fQ ()))) (fun k _=>x∉l.take k) (fun (b:Int)=>0≤b∧x∈l) h (s:=()) (by simp) (fun k s hk hI=>by
  rw [Fe hk,bU];by_cases e:x=l[k]
  ·rw [show (x==l[k])=true by simp [e]];exact .inr ⟨(k:Int),rfl,by omega,by rw [e];exact cD hk⟩
  ·rw [show (x==l[k])=false by simp [e]];refine .inl ⟨(),rfl,?_⟩;rw [cI hk];intro hm;rcases List.mem_append.1 hm with g | g
   ·exact hI g
   ·exact e (List.mem_singleton.1 g)) with ⟨s,e,hI⟩|⟨b,e,hb,hx⟩
 ·rw [dN]at hI;rw [e,decide_eq_false hI];rfl
 ·rw [e,decide_eq_true hx];show some (decide (b≥0))=_;rw [decide_eq_true (show b≥0 from hb)]
structure Few (ll base:List (List Int)):Prop where
 e:ll.length≤25
 b:base.length≤25
 el:∀l∈ll,l.length≤10
 bl:∀l∈base,l.length≤10
theorem Mn (s:AX):(Dp s).length≤64 *s.2.length:=PF _ _
theorem ND {s:AX}(H:OkS s):(Dp s).length≤1073741824:=by
 have h1:=Mn s;have h2:=H.len;have h3:=H.hi;omega
theorem QH {n:Int}(h0:0≤n) (h1:n≤1000):Kk n=n:=by unfold Kk;rw [if_neg (by omega),if_neg (by omega)]
def bz (base:List (List Int)) (z:Int):List Int:=(idx base z).getD []
theorem TR {a:List AX}{k:Nat}{s:AX}(h:a[k]? =some s):gv a (k:Int)=s:=by
 unfold gv;rw [DE,h];rfl
theorem RQ {ll:List (List Int)}{B:List AX}{wide:Int}(h0:0≤wide) (h1:wide≤1000) (hb:B.length≤100000) (hll:∀l∈ll,l.length≤1073741824) (hB:∀(k:Nat) (s:AX),B[k]? =some s→OkS s∧s.1=wide):
 ∃r,Ho ll B=some r∧r.length=B.length∧ ∀(k:Nat) (s:AX),r[k]? =some s→OkS s∧s.1=wide∧ ∀j,mem s j=true↔LC ll (B.length:Int) B k j:=by
 unfold Ho;have hget:∀k (hk:k<B.length),OkS B[k] ∧B[k].1=wide:=fun k hk=>hB k _ (bR hk);have hgv:∀v:Int,0≤v→v< (B.length:Int)→OkS (gv B v)∧(gv B v).1=wide:=fun v g0 g1=>by
  have:=hget v.toNat (by omega)
  rw [←TR (bR (show v.toNat<B.length by omega)),cV g0]at this;exact this
 obtain ⟨w,ew,hw⟩:=CR (f:=fun i (w:Int)=>(idx B i).bind fun s=>some (if s.1>w then s.1 else w)) (n:=B.length) (fun k (w:Int)=>0≤w∧w≤wide∧(0<k→w=wide)) (by omega) (s:=0) ⟨by omega,by omega,by omega⟩ (fun k w hk ⟨g0,g1,g2⟩=>by
  rw [Fe hk,bU,(hget k hk).2];refine ⟨_,rfl,?_⟩;split
  ·exact ⟨by omega,by omega,fun _=>rfl⟩
  ·exact ⟨by omega,by omega,by omega⟩)
 rw [ew,bU];obtain ⟨all,ea,la,pa⟩:=KV (f:=fun i (acc:List AX)=>(idx B i).bind fun s=>(I1 s).bind fun l=>(Cu w l).bind fun s'=>app acc [s']) (n:=B.length) (by omega) (fun k s=>OkS s∧s.1=wide∧ ∀j,mem s j=mem (gv B k) j) (fun k acc hk ha=>by
  have hk':=hget k hk;have hwe:w=wide:=hw.2.2 (by omega);rw [Fe hk,bU,Jv hk'.1,bU];obtain ⟨s,e,g1,g2,g3⟩:=of_ok w (Dp B[k]) (by have:=ND hk'.1;omega);rw [hwe,QH h0 h1]at g2 g3;refine ⟨s,by rw [e,bU,XM (by omega)],g1,g2,fun j=> ?_⟩;rw [g3,TR (bR hk)];by_cases hm:mem B[k] j=true
  ·have h2:=Mc hk'.1 hm;rw [hk'.2]at h2;rw [decide_eq_true h2,hm,Bool.true_and];exact List.contains_iff_mem.2 ((Er hk'.1 j).2 hm)
  ·have hn:(Dp B[k]).contains j=false:=by
    rw [Bool.eq_false_iff];intro hc;exact hm ((Er hk'.1 j).1 (List.contains_iff_mem.1 hc))
   rw [hn,Bool.and_false];rw [gL]at hm;exact hm.symm)
 rw [ea,bU];have hall:∀v:Int,0≤v→v< (B.length:Int)→OkS (gv all v)∧(gv all v).1=wide∧ ∀j,mem (gv all v) j=mem (gv B v) j:=fun v g0 g1=>by
  have hlt:v.toNat<all.length:=by omega
  have:=pa v.toNat _ (bR hlt)
  rw [←TR (bR hlt),cV g0]at this;exact this
 have hS:J4 ll (B.length:Int) wide B all:=⟨by omega,fun v g0 g1=>⟨(hall v g0 g1).1,(hall v g0 g1).2.1⟩,fun v j g0 g1 h=>by rw [(hall v g0 g1).2.2];exact h,fun v j g0 g1 h=>⟨v,.refl _,by rw [← (hall v g0 g1).2.2];exact h⟩⟩;obtain ⟨⟨low,stk,fin⟩,est,hI,hD⟩:=UQ (UR (ll:=ll) (n:=(B.length:Int)) (wide:=wide) (B:=B) (by omega)) (by omega) (by omega) hll (a:=all) ⟨hS,fun v hv=>hv.elim⟩ (fuel:=B.length) (by omega);dsimp only at hI hD;have hfin:∀v:Int,0≤v→v< (B.length:Int)→ ∀j,mem (gv fin v) j=true↔LC ll (B.length:Int) B v j:=fun v g0 g1 j=>⟨hI.sound v j g0 g1,hD v ⟨g0,g1⟩ g0 g1 j⟩;rw [est,bU];have lf:=hI.len;refine KV (by omega) (fun k s=>OkS s∧s.1=wide∧ ∀j,mem s j=true↔LC ll (B.length:Int) B k j) fun k acc hk ha=> ?_;have hk':=hget k hk;obtain ⟨f1,f2⟩:=hI.ok (k:Int) (by omega) (by omega);dsimp only;rw [Fe hk,bU,QG (by omega) (by omega),bU,Jv f1,bU,hk'.2];obtain ⟨s,e,g1,g2,g3⟩:=of_ok wide (Dp (gv fin (k:Int))) (by have:=ND f1;omega);rw [QH h0 h1]at g2 g3;refine ⟨s,by rw [e,bU,XM (by omega)],g1,g2,fun j=> ?_⟩;rw [g3,←hfin (k:Int) (by omega) (by omega)];constructor
 ·intro h;rw [eK]at h;exact (Er f1 j).1 (List.contains_iff_mem.1 h.2)
 ·intro h;have h2:=Mc f1 h;rw [f2]at h2;rw [decide_eq_true h2,Bool.true_and];exact List.contains_iff_mem.2 ((Er f1 j).2 h)
def Oy (ll base:List (List Int)) (wide i j:Int):Prop:=0≤j∧j<wide∧ ∃z,Reach ll (base.length:Int) i z∧j∈bz base z
end Go.Proofs.YteolcjbobmpdiaaGreatDoor.Dg
namespace Go.Proofs.YteolcjbobmpdiaaGreatDoor
open Go Go.Eng Dg
set_option linter.unusedVariables false
set_option maxRecDepth 100000
structure Sy (p:dtP):Prop where
 t1:1≤p.1.length∧p.1.length≤1000
 v1:p.2.1.length≤1000
 few:p.2.2.1.length≤1000
 left:∀r∈p.2.2.1,nT p≤r.1∧r.1≤nT p+(p.2.1.length:Int)
 right:∀r∈p.2.2.1,∀s∈r.2.1,0≤s∧s<nT p+(p.2.1.length:Int)
 short:∀r∈p.2.2.1,r.2.1.length≤1000
theorem PQ {α:Type}{p q:α→Bool}:∀ {l:List α},(∀x∈l,p x=true→q x=true)→l.countP p≤l.countP q:=by
 intro l
 induction l with
 |nil=>intro _;simp
 |cons a l ih=>
  intro h;have h1:=ih fun x hx=>h x (cJ _ hx);have h2:=h a gC;rw [eA,eA];cases hp:p a with
  |false=>simp;omega
  |true=>rw [h2 hp];simp;omega
theorem US {α:Type}{p q:α→Bool}:∀ {l:List α},(∀x∈l,p x=true→q x=true)→(∃x∈l,q x=true∧p x=false)→l.countP p<l.countP q:=by
 intro l
 induction l with
 |nil=>rintro _ ⟨x,hx,_⟩;cases hx
 |cons a l ih=>
  rintro h ⟨x,hx,h1,h2⟩;have h3:=PQ (l:=l) fun x hx=>h x (cJ _ hx);have h4:=h a gC;rw [eA,eA];rcases List.mem_cons.1 hx with rfl | hx
  ·rw [h1,h2];simp;omega
  ·have h5:=ih (fun x hx=>h x (cJ _ hx)) ⟨x,hx,h1,h2⟩;cases hp:p a with
   |false=>simp;omega
   |true=>rw [h4 hp];simp;omega
def card (s:AX):Nat:=(fG 1000).countP fun k:Nat=>mem s (k:Int)
theorem XN (s:AX):card s≤1000:=by
 unfold card
 have:=List.countP_le_length (p:=fun k:Nat=>mem s (k:Int)) (l:=fG 1000)
 rwa [gF]at this
theorem XO:∀(l:List Int) {s:AX}{g:Bool},OkS s→(∀i∈l,0≤i)→(l.foldl Dg.stepG (s,false,g)).2.2=true→g=true∨ ∃i∈l,i<s.1∧mem s i=false:=by
 intro l
 induction l with
 |nil=>intro s g _ _ h;exact .inl h
 |cons i l ih=>
  intro s g H h0 h;rw [fT]at h;by_cases hi:s.1≤i
  ·have e:Dg.stepG (s,false,g) i=(s,true,g):=by unfold Dg.stepG;rw [if_neg (by simp),if_pos hi]
   rw [e,VN l rfl]at h;exact .inl h
  ·obtain ⟨s',hd,h1,h2,h3⟩:=Dg.add_ok H i;have e:Dg.stepG (s,false,g) i=(s',false,(decide (0≤i∧i<s.1) && !mem s i) || g):=by unfold Dg.stepG;rw [if_neg (by simp),if_neg hi,hd];rfl
   rw [e]at h;have hi0:=h0 i (by simp);rcases ih h1 (fun i hi=>h0 i (cJ _ hi)) h with g1 | ⟨j,j1,j2,j3⟩
   ·rw [dH,eK]at g1;rcases g1 with ⟨_,g1⟩|g1
    ·exact .inr ⟨i,by simp,by omega,by simpa using g1⟩
    ·exact .inl g1
   ·refine .inr ⟨j,cJ _ j1,by rw [←h2];exact j2,?_⟩;rw [h3,fW]at j3;exact j3.1
theorem RR {s o:AX}(H:OkS s) (K:OkS o):OkS (BS s o)∧(BS s o).1=s.1∧card s≤card (BS s o)∧(FC s o=true→card s<card (BS s o)):=by
 obtain ⟨h1,h2,h3⟩:=L3 H K;refine ⟨h1,h2,PQ fun k _ hk=>by rw [h3,hk];rfl,fun hg=> ?_⟩;rcases XO (Dp o) H (fun i hi=>(Jw K hi).1) hg with h | ⟨i,i1,i2,i3⟩
 ·cases h
 ·obtain ⟨i4,i5⟩:=Jw K i1;have hw:=H.hi;refine US (fun k _ hk=>by rw [h3,hk];rfl) ⟨i.toNat,List.mem_range.2 (by omega),?_,?_⟩
  ·rw [cV i4,h3,i3,(Er K i).1 i1,decide_eq_true i2];rfl
  ·rw [cV i4];exact i3
def Ss (w:Int) (ss:List AX):Prop:= ∀s∈ss,OkS s∧s.1=w
def room (ss:List AX):Nat:=(ss.map fun s=>1000 - card s).sum
theorem TS:∀ {ss:List AX}{k:Nat}{s s':AX},ss[k]? =some s→card s≤card s'→room (ss.set k s') ≤room ss∧(card s<card s'→room (ss.set k s') <room ss):=by
 intro ss
 induction ss with
 |nil=>intro k s s' h;simp at h
 |cons a ss ih=>
  intro k s s' h hc;have hle:=XN s';cases k with
  |zero=>
   obtain rfl:a=s:=by simpa using h
   simp only [gB,room,eY,List.sum_cons];exact ⟨by omega,fun h=>by omega⟩
  |succ k=>
   obtain ⟨h1,h2⟩:=ih (k:=k) (s:=s) (s':=s') (by simpa using h) hc;simp only [room]at h1 h2;simp only [eP,room,eY,List.sum_cons];exact ⟨by omega,fun h=>by have:=h2 h;omega⟩
theorem Ss.set {w:Int}{ss:List AX}(H:Ss w ss) {k:Nat}{s:AX}(hs:OkS s∧s.1=w):Ss w (ss.set k s):=fun x hx=>by
 rcases List.mem_or_eq_of_mem_set hx with h | rfl
 ·exact H x h
 ·exact hs
theorem XP {w:Int}{ss:List AX}{x:Int}{o:AX}(H:Ss w ss) (h0:0≤x) (h1:x< (ss.length:Int)) (ho:OkS o):
 Ok (XH ss x o) fun r=>Ss w r.2∧r.2.length=ss.length∧room r.2≤room ss∧(r.1=true→room r.2<room ss):=by
 have hlt:x.toNat<ss.length:=by omega
 have hx:=bR hlt;obtain ⟨k1,k2⟩:=H _ (cD hlt);obtain ⟨u1,u2,u3,u4⟩:=RR k1 ho;obtain ⟨s1,s2⟩:=TS hx u3;unfold XH;exact EN h0 hx (Bt ⟨k1,ho⟩ (AD ⟨H.set ⟨u1,u2.trans k2⟩,by simp,s1,fun g=>s2 (u4 g)⟩))
theorem TU {w:Int}{ss:List AX}{x y:Int}(H:Ss w ss) (h0:0≤x) (h1:x< (ss.length:Int)) (g0:0≤y) (g1:y< (ss.length:Int)):
 Ok (UP ss x y) fun r=>Ss w r.2∧r.2.length=ss.length∧room r.2≤room ss∧(r.1=true→room r.2<room ss):=by
 have hlt:x.toNat<ss.length:=by omega
 have hlt2:y.toNat<ss.length:=by omega
 have hx:=bR hlt;have hy:=bR hlt2;obtain ⟨k1,k2⟩:=H _ (cD hlt);have ho:=(H _ (cD hlt2)).1;obtain ⟨u1,u2,u3,u4⟩:=RR k1 ho;obtain ⟨s1,s2⟩:=TS hx u3;unfold UP;exact EN h0 hx (EN g0 hy (Bt ⟨k1,ho⟩ (AD ⟨H.set ⟨u1,u2.trans k2⟩,by simp,s1,fun g=>s2 (u4 g)⟩)))
def Nl (p:dtP) (null:List Bool) (s:Int):Prop:=nT p≤s∧null[(s - nT p).toNat]? =some true
def mu (null:List Bool) (ss:List AX):Nat:=room ss+null.countP (fun b=> !b)
theorem IG:∀ {l:List Bool}{k:Nat},l[k]? =some false→(l.set k true).countP (fun b=> !b)+1=l.countP (fun b=> !b):=by
 intro l
 induction l with
 |nil=>intro k h;simp at h
 |cons a l ih=>
  intro k h;cases k with
  |zero=>
   obtain rfl:a=false:=by simpa using h
   simp
  |succ k=>
   have:=ih (k:=k) (by simpa using h)
   rw [eP,eA,eA];omega
theorem V1 {α:Type}{l:List α}{k:Nat}{x:α}(h:l[k]? =some x):l.set k x=l:=by
 refine List.ext_getElem? fun i=> ?_;rw [dV];split
 ·rename_i e
  subst e;rw [h,if_pos (List.getElem?_eq_some_iff.1 h).1]
 ·rfl
theorem Yi (p:dtP) {s:Int}(h:s<nT p) (null:List Bool):¬Nl p null s:=fun g=>by have:=g.1;omega
section
variable {p:dtP}{w:Int}
theorem PS (S:Sy p) {null:List Bool}{ss:List AX}{x:Nat}{seq:List Int}{m:Nat}(hm:m=p.2.1.length+1) (hn:null.length=m) (H:Ss w ss) (hl:ss.length=m+m) (hx:x<m+m) (hs:∀s∈seq,0≤s∧s<nT p+(p.2.1.length:Int)) (hq:seq.length≤1000):
 Ok (KU p (m:Int) null (x:Int) ss seq) fun r=>Ss w r.2.2∧r.2.2.length=ss.length∧room r.2.2≤room ss∧(r.1=true→room r.2.2<room ss)∧(r.2.1=true↔∀s∈seq,Nl p null s):=by
 have hT:=S.t1;have hV:=S.v1;have hnT:nT p=(p.1.length:Int):=rfl;unfold KU;refine H9 (fun k (z:Bool×List AX)=>Ss w z.2∧z.2.length=ss.length∧room z.2≤room ss∧(z.1=true→room z.2<room ss)∧ ∀s∈seq.take k,Nl p null s)
  (fun b=>Ss w b.2.2∧b.2.2.length=ss.length∧room b.2.2≤room ss∧(b.1=true→room b.2.2<room ss)∧b.2.1=false∧ ¬ ∀s∈seq,Nl p null s) (by omega) ⟨H,rfl,cU _,(fun h=>by cases h),by simp⟩ (fun k z hk hz=> ?_) (fun z hz=>AD ?_) fun b hb=>AD ?_
 ·obtain ⟨g,s1⟩:=z;obtain ⟨z1,z2,z3,z4,z5⟩:=hz;dsimp only at z1 z2 z3 z4 z5 ⊢;have hsk:=bR hk;have hmem:=cD hk;obtain ⟨b0,b1⟩:=hs _ hmem;refine AW hsk (AL (HV p seq[k]) ?_);refine Ac (fun hc=> ?_) fun hc=> ?_
  ·rw [eK,decide_eq_true_eq,decide_eq_true_eq]at hc;obtain ⟨o,e,o1,o2,_⟩:=Dg.of_ok (nT p) [seq[k]] (by simp);refine AL e (AP (XP z1 (x:=(x:Int)) (by omega) (by omega) o1) fun u hu=> ?_);obtain ⟨u1,u2,u3,u4⟩:=hu;refine CE ⟨u1,u2.trans z2,dI u3 z3,fun h=> ?_,rfl,fun hall=>Yi p (by omega) null (hall _ hmem)⟩;dsimp only at h ⊢;rw [dH]at h;rcases h with h | h
   ·have:=u4 h;omega
   ·have:=z4 h;omega
  ·rw [fV,decide_eq_false_iff_not,decide_eq_false_iff_not]at hc;have e:bT .i64 (seq[k] - nT p)=(((seq[k] - nT p).toNat:Nat):Int):=by rw [w64 (by omega) (by omega)];omega
   have hlt:(seq[k] - nT p).toNat<m:=by omega
   rw [e];refine Bt (by omega) (AP (TU z1 (x:=(x:Int)) (by omega) (by omega) (by omega) (by omega)) fun u hu=> ?_);obtain ⟨u1,u2,u3,u4⟩:=hu;have hb:=bR (l:=null) (i:=(seq[k] - nT p).toNat) (by omega);refine AW hb ?_;have hor:(u.1 || g)=true→room u.2<room ss:=fun h=>by
    rw [dH]at h;rcases h with h | h
    ·have:=u4 h;omega
    ·have:=z4 h;omega
   refine Ac (fun hc2=>Cw ⟨u1,u2.trans z2,dI u3 z3,hor,fun s hs'=> ?_⟩) fun hc2=>CE ⟨u1,u2.trans z2,dI u3 z3,hor,rfl,fun hall=> ?_⟩
   ·rw [dG,hsk]at hs';rcases List.mem_append.1 hs' with h | h
    ·exact z5 s h
    ·have:s=seq[k]:=by simpa using h
     subst this;exact ⟨by omega,by rw [hb,hc2]⟩
   ·have:=(hall _ hmem).2
    rw [hb,hc2]at this;cases this
 ·obtain ⟨z1,z2,z3,z4,z5⟩:=hz;rw [cS (cU _)]at z5;exact ⟨z1,z2,z3,z4,fun _=>z5,fun _=>rfl⟩
 ·obtain ⟨z1,z2,z3,z4,z5,z6⟩:=hb;exact ⟨z1,z2,z3,z4,fun h=>(by rw [z5]at h;cases h),fun h=>absurd h z6⟩
structure V2 (p:dtP) (w:Int) (null:List Bool) (ss:List AX) (k:Nat) (z:Bool×List Bool×List AX):Prop where
 len:z.2.1.length=null.length
 sets:Ss w z.2.2
 lens:z.2.2.length=ss.length
 le:mu z.2.1 z.2.2≤mu null ss
 lt:z.1=true→mu z.2.1 z.2.2<mu null ss
 stay:z.1=false→z.2.1=null∧ ∀(j:Nat) r,j<k→p.2.2.1[j]? =some r→(∀s∈r.2.1,Nl p null s)→Nl p null r.1
 sound:(∀s,Nl p null s→Nul p.2.2.1 s)→ ∀s,Nl p z.2.1 s→Nul p.2.2.1 s
theorem V3 (S:Sy p) {null:List Bool}{ss:List AX}{m:Nat}(hm:m=p.2.1.length+1) (hn:null.length=m) (H:Ss w ss) (hl:ss.length=m+m):
 Ok (OF p (m:Int) null ss) (V2 p w null ss p.2.2.1.length):=by
 have hT:=S.t1;have hV:=S.v1;have hF:=S.few;have hnT:nT p=(p.1.length:Int):=rfl;refine CR (n:=p.2.2.1.length) (fun k=>V2 p w null ss k) (by omega) (s:=(false,null,ss)) ⟨rfl,H,rfl,cU _,(fun h=>by cases h),fun _=>⟨rfl,fun j r hj=>by omega⟩,fun h=>h⟩ fun k z hk hz=> ?_;obtain ⟨c,nu,s1⟩:=z;have hr:=bR hk;have hmem:=cD hk;obtain ⟨r,hre⟩:∃r,p.2.2.1[k] =r:=⟨_,rfl⟩;rw [hre]at hr hmem;obtain ⟨l0,l1⟩:=S.left r hmem;have e:bT .i64 (r.1 - nT p)=(((r.1 - nT p).toNat:Nat):Int):=by rw [w64 (by omega) (by omega)];omega
 have hlt:(r.1 - nT p).toNat<m:=by omega
 have hlen:=hz.len;have hls:=hz.lens;dsimp only at hlen hls ⊢;refine AW hr ?_;rw [e];refine Bt (by omega) ?_;have nR:=S.right r hmem;refine AP (PS S (null:=nu) (ss:=s1) (x:=(r.1 - nT p).toNat) hm (by omega) hz.sets (by omega) (by omega) nR (S.short r hmem)) fun g hg=> ?_;obtain ⟨g1,g2,g3,g4,g5⟩:=hg;have hb:=bR (l:=nu) (i:=(r.1 - nT p).toNat) (by omega);refine AW hb (Ie (by omega) (by omega) (AD ?_));rw [cY];obtain ⟨b,hbe⟩:∃b,nu[(r.1 - nT p).toNat] =b:=⟨_,rfl⟩;rw [hbe]at hb ⊢;by_cases hflip:b=false∧g.2.1=true
 ·obtain ⟨rfl,hg21⟩:=hflip;have hc:=IG hb;have hle:=hz.le;rw [hg21];refine ⟨by simp [hlen],g1,g2.trans hls,?_,fun _=> ?_,fun h=> ?_,fun hs s h=> ?_⟩
  ·show mu (nu.set _ true) g.2.2≤mu null ss;unfold mu at hle ⊢;dsimp only at hle;omega
  ·show mu (nu.set _ true) g.2.2<mu null ss;unfold mu at hle ⊢;dsimp only at hle;omega
  ·exfalso;dsimp only at h;simp at h
  ·obtain ⟨h0,h1⟩:=h;change (nu.set _ true)[_]? =some true at h1;rw [dV]at h1;split at h1
   ·rename_i he
    have:s=r.1:=by omega
    subst this;exact .rule hmem fun s hs'=>hz.sound hs s (g5.1 hg21 s hs')
   ·exact hz.sound hs s ⟨h0,h1⟩
 ·have hbb:(b || g.2.1)=b:=by
   cases b with
   |true=>rfl
   |false=>cases hgg:g.2.1 with
    |false=>rfl
    |true=>exact absurd ⟨rfl,hgg⟩ hflip
  have hff:(g.2.1 && !b)=false:=by
   cases b with
   |true=>simp
   |false=>cases hgg:g.2.1 with
    |false=>rfl
    |true=>exact absurd ⟨rfl,hgg⟩ hflip
  rw [hbb,hff,V1 hb,Bool.or_false];have hle:=hz.le;have hlt':=hz.lt;unfold mu at hle hlt';dsimp only at hle hlt';refine ⟨hlen,g1,g2.trans hls,?_,fun h=> ?_,fun h=> ?_,hz.sound⟩
  ·unfold mu;dsimp only;omega
  ·unfold mu;dsimp only at h ⊢;rw [dH]at h;rcases h with h | h
   ·have:=hlt' h;omega
   ·have:=g4 h;omega
  ·dsimp only at h ⊢;rw [fW]at h;obtain ⟨h1,h2⟩:=hz.stay h.1;dsimp only at h1;subst h1;refine ⟨rfl,fun j r' hj hr' ha=> ?_⟩;rcases Nat.lt_succ_iff_lt_or_eq.1 hj with hj | rfl
   ·exact h2 j r' hj hr' ha
   ·rw [hr]at hr';cases hr';refine ⟨l0,?_⟩;rw [hb];rw [g5.2 ha]at hff;simpa using hff
end
section
variable {p:dtP}{w:Int}
theorem Sf (S:Sy p) {null:List Bool}{ss:List AX}{m:Nat}(hm:m=p.2.1.length+1) (hn:null.length=m) (H:Ss w ss) (hl:ss.length=m+m):
 Ok (MF p (m:Int) null ss) fun r=>Ss w r.2∧r.2.length=ss.length∧room r.2≤room ss∧(r.1=true→room r.2<room ss):=by
 have hT:=S.t1;have hV:=S.v1;have hF:=S.few;have hnT:nT p=(p.1.length:Int):=rfl;refine CR (n:=p.2.2.1.length) (fun _ (z:Bool×List AX)=>Ss w z.2∧z.2.length=ss.length∧room z.2≤room ss∧(z.1=true→room z.2<room ss)) (by omega) (s:=(false,ss)) ⟨H,rfl,cU _,(fun h=>by cases h)⟩ fun k z hk hz=> ?_;have hr:=bR hk;have hmem:=cD hk;obtain ⟨r,hre⟩:∃r,p.2.2.1[k] =r:=⟨_,rfl⟩;rw [hre]at hr hmem;obtain ⟨l0,l1⟩:=S.left r hmem;have nR:=S.right r hmem;have nS:=S.short r hmem;refine AW hr (CR (fun _ (z:Bool×List AX)=>Ss w z.2∧z.2.length=ss.length∧room z.2≤room ss∧(z.1=true→room z.2<room ss)) (by omega) hz fun j z hj hz=> ?_);obtain ⟨g,s1⟩:=z;obtain ⟨z1,z2,z3,z4⟩:=hz;dsimp only at z1 z2 z3 z4 ⊢;obtain ⟨b0,b1⟩:=nR _ (cD hj);refine AW (bR hj) (AL (HV p _) ?_);refine Ac (fun hc=>AD ⟨z1,z2,z3,z4⟩) fun hc=> ?_;rw [fV,decide_eq_false_iff_not,decide_eq_false_iff_not]at hc;have e:bT .i64 (r.2.1[j] - nT p)=(((r.2.1[j] - nT p).toNat:Nat):Int):=by rw [w64 (by omega) (by omega)];omega
 have e2:(m:Int)+(((r.2.1[j] - nT p).toNat:Nat):Int)=((m+(r.2.1[j] - nT p).toNat:Nat):Int):=by omega
 have hlt:(r.2.1[j] - nT p).toNat<m:=by omega
 rw [e,e2];refine Bt (by omega) (AP (PS S (null:=null) (ss:=s1) (x:=m+(r.2.1[j] - nT p).toNat) (seq:=r.2.1.drop ((j:Int)+1).toNat) hm hn z1 (by omega) (by omega) (fun s hs=>nR s (fX hs)) (by simp;omega)) fun q hq=> ?_);obtain ⟨q1,q2,q3,q4,_⟩:=hq;refine AP (Q:=fun (u:Bool×List AX)=>Ss w u.2∧u.2.length=ss.length∧room u.2≤room s1∧(u.1=true→room u.2<room s1)) ?_ fun u hu=> ?_
 ·refine Ac (fun hg=> ?_) fun hg=>AD ⟨q1,q2.trans z2,q3,q4⟩;have e3:bT .i64 (r.1 - nT p)=(((r.1 - nT p).toNat:Nat):Int):=by rw [w64 (by omega) (by omega)];omega
  rw [e3];refine Bt (by omega) (AP (TU q1 (by omega) (by omega) (by omega) (by omega)) fun u hu=>AD ?_);obtain ⟨u1,u2,u3,u4⟩:=hu;refine ⟨u1,u2.trans (q2.trans z2),dI u3 q3,fun h=> ?_⟩;dsimp only at h ⊢;rw [dH]at h;rcases h with h | h
  ·have:=u4 h;omega
  ·have:=q4 h;omega
 ·obtain ⟨u1,u2,u3,u4⟩:=hu;refine AD ⟨u1,u2,dI u3 z3,fun h=> ?_⟩;dsimp only at h ⊢;rw [dH]at h;rcases h with h | h
  ·have:=z4 h;omega
  ·have:=u4 h;omega
theorem MG (S:Sy p):Kk (nT p)=nT p:=by
 have hT:=S.t1;have hnT:nT p=(p.1.length:Int):=rfl;exact QH (by omega) (by omega)
theorem RS (S:Sy p):Ok (Mk p) fun f=>f.length=p.2.1.length+1∧Ss (nT p) f:=by
 have hV:=S.v1;unfold Mk;have e:bT .i64 ((p.2.1.length:Int)+1)=((p.2.1.length+1:Nat):Int):=by rw [w64 (by omega) (by omega)];omega
 rw [e];obtain ⟨l,h1,h2,h3⟩:=KV (f:=fun _ acc=>(B5 (nT p)).bind fun s=>app acc [s]) (n:=p.2.1.length+1) (by omega) (fun _ (s:AX)=>OkS s∧s.1=nT p) fun k acc hk ha=>by
  obtain ⟨s,e,g1,g2,_⟩:=Dg.new_ok (nT p);rw [e,bU,XM (by omega)];exact ⟨s,rfl,g1,g2.trans (MG S)⟩
 refine ⟨l,h1,h2,fun s hs=> ?_⟩;obtain ⟨k,hk⟩:=cC hs;exact h3 k s hk
theorem RT {ss:List AX}(H:Ss w ss) (hl:ss.length≤100000):Ok (J3 ss) fun l=>l.length=ss.length∧ ∀x∈l,x.length≤64000:=by
 unfold J3;obtain ⟨l,h1,h2,h3⟩:=KV (f:=fun i (acc:List (List Int))=>(idx ss i).bind fun s=>(I1 s).bind fun l=>app acc [l]) (n:=ss.length) (by omega) (fun _ (x:List Int)=>x.length≤64000) fun k acc hk ha=>by
  have hs:=(H _ (cD hk)).1;rw [Fe hk,bU,Jv hs,bU,XM (by omega)];refine ⟨_,rfl,?_⟩;have h1:=Mn ss[k];have h2:=hs.len;have h3:=hs.hi;omega
 refine ⟨l,h1,h2,fun x hx=> ?_⟩;obtain ⟨k,hk⟩:=cC hx;exact h3 k x hk
structure V4 (p:dtP) (fa:dtF):Prop where
 len:fa.1.length=p.2.1.length+1
 nul:∀s,nT p≤s→(fa.1[(s - nT p).toNat]? =some true↔Nul p.2.2.1 s)
 flen:fa.2.1.length=p.2.1.length+1
 few:∀l∈fa.2.1,l.length≤64000
theorem XQ (S:Sy p) {null:List Bool}(hn:null.length=p.2.1.length+1) (hc:∀(j:Nat) r,p.2.2.1[j]? =some r→(∀s∈r.2.1,Nl p null s)→Nl p null r.1) {s:Int}(h:Nul p.2.2.1 s):Nl p null s:=by
 induction h with
 |rule hr _ ih=>
  obtain ⟨j,hj⟩:=cC hr;exact hc j _ hj ih
theorem V5 (S:Sy p):Ok (OG p) (V4 p):=by
 have hT:=S.t1;have hV:=S.v1;have hF:=S.few;have hnT:nT p=(p.1.length:Int):=rfl;unfold OG;have e:bT .i64 ((p.2.1.length:Int)+1)=((p.2.1.length+1:Nat):Int):=by rw [w64 (by omega) (by omega)];omega
 rw [e];refine AL (x:=dE (p.2.1.length+1) false) (by unfold Fp;rw [if_pos ⟨by omega,by omega⟩,cY])<|AP (RS S) fun f hf=>AP (RS S) fun g hg=> ?_;obtain ⟨f1,f2⟩:=hf;obtain ⟨g1,g2⟩:=hg;have hfg:Ss (nT p) (f++g):=fun s hs=>(List.mem_append.1 hs).elim (f2 s) (g2 s);refine ED (fun (z:Int×List Bool×List AX)=>z.2.1.length=p.2.1.length+1∧Ss (nT p) z.2.2∧z.2.2.length=f.length+f.length∧ ∀s,Nl p z.2.1 s→Nul p.2.2.1 s) (fun z=>mu z.2.1 z.2.2)
  (fun z=>z.2.1.length=p.2.1.length+1∧Ss (nT p) z.2.2∧z.2.2.length=f.length+f.length∧(∀s,Nl p z.2.1 s→Nul p.2.2.1 s)∧ ∀(j:Nat) r,p.2.2.1[j]? =some r→(∀s∈r.2.1,Nl p z.2.1 s)→Nl p z.2.1 r.1) ⟨by simp,hfg,by simp [f1,g1],fun s h=> ?_⟩ (fun z hz=> ?_) fun z hz=> ?_
 ·have:=h.2
  dsimp only at this;rw [fP]at this;split at this<;>simp at this
 ·obtain ⟨c,nu,s1⟩:=z;obtain ⟨z1,z2,z3,z4⟩:=hz;dsimp only at z1 z2 z3 z4 ⊢;refine AP (V3 S (null:=nu) (ss:=s1) (m:=f.length) f1 (by omega) z2 (by omega)) fun r hr=>Ac (fun hc=>Cw ⟨⟨hr.len.trans z1,hr.sets,hr.lens.trans z3,hr.sound z4⟩,hr.lt hc⟩) fun hc=>CE ⟨hr.len.trans z1,hr.sets,hr.lens.trans z3,hr.sound z4,?_⟩;obtain ⟨h1,h2⟩:=hr.stay hc;dsimp only;rw [h1];exact fun j r' hj=>h2 j r' (Bo hj) hj
 ·obtain ⟨c,nu,s1⟩:=z;obtain ⟨z1,z2,z3,z4,z5⟩:=hz;dsimp only at z1 z2 z3 z4 z5 ⊢;have hlt:f.length+p.2.1.length<s1.length:=by omega
  have hget:=bR hlt;obtain ⟨k1,k2⟩:=z2 _ (cD hlt);refine AW (x:=s1[f.length+p.2.1.length]) (by rw [fH];exact hget) ?_;obtain ⟨s',a1,a2,a3,_⟩:=Dg.add_ok k1 0;refine AL a1<|ED (fun (ss:List AX)=>Ss (nT p) ss∧ss.length=f.length+f.length) room (fun (ss:List AX)=>Ss (nT p) ss∧ss.length=f.length+f.length) ⟨z2.set ⟨a2,a3.trans k2⟩,by simp [z3]⟩ (fun ss hss=> ?_) fun ss hss=> ?_
  ·refine AP (Sf S (null:=nu) (ss:=ss) (m:=f.length) f1 (by omega) hss.1 hss.2) fun r hr=>Ac (fun hc=>Cw ⟨⟨hr.1,hr.2.1.trans hss.2⟩,hr.2.2.2 hc⟩) fun hc=>CE ⟨hr.1,hr.2.1.trans hss.2⟩
  ·refine AP (RT (w:=nT p) (fun s hs=>hss.1 s (eI hs)) (by simp;omega)) fun a ha=>AP (RT (w:=nT p) (fun s hs=>hss.1 s (fX hs)) (by simp;omega)) fun b hb=>AD ?_;refine ⟨z1,fun s hs=>⟨fun h=>z4 s ⟨hs,h⟩,fun h=>(XQ S z1 z5 h).2⟩,?_,ha.2⟩;dsimp only;rw [ha.1,dM];omega
end
end Go.Proofs.YteolcjbobmpdiaaGreatDoor
namespace Go.Proofs.YteolcjbobmpdiaaGreatDoor
open Go Go.Eng
set_option linter.unusedVariables false
set_option maxRecDepth 100000
noncomputable def Mo (r1 r2 r25:Nat):T:=cZ 0 [aI] (dQ [aI] [(.int .i64 1)] fun (z27:Int×Unit)=>bV 133 [(.pointer (some ⟨r25,0,none⟩))] (.one aB) fun (t28:Bool)=>cond t28 (cF [(.int .i64 (wN z27.1))]) (eB 0 [(.int .i64 z27.1)])) fun (z26:Int×Unit)=>aA r25 8 fun t29=>aA r1 1 fun t30=>deref t29.1 fun a31=>chk (0≤(t30.2.1:Int)∧(t30.2.1:Int) < (t29.2.1:Nat))<|bJ a31 (t30.2.1:Int) 1 fun t32=>bV 134 [(.pointer t32),(.int .i64 0)] (.one aB) fun (t33:Bool)=>cZ 2 [] (dQ [] [] fun (z35:Unit)=>bV 135 [(.pointer (some ⟨r25,0,none⟩))] (.one aB) fun (t36:Bool)=>cond t36 (cF []) (eB 2 [])) fun (z34:Unit)=>aA r25 6 fun t37=>aA r25 7 fun t38=>aA r25 8 fun t39=>bV 136 [(sv t38)] (.one aS) fun (t40:Slc)=>aY r25 8 t39<|aY r25 6 t37<|bV 136 [(sv t39)] (.one aS) fun (t41:Slc)=>aY r25 6 t37<|aF r2 0 t37<|aF r2 1 t40<|aF r2 2 t41<|aT r2 3 z26.1<|aA r2 0 fun res42=>aA r2 1 fun res43=>aA r2 2 fun res44=>aR r2 3 fun res45=>dK (.agg #[(sv res42),(sv res43),(sv res44),(.int .i64 res45)])
noncomputable def OH (p_0:Pl6):T:=aD #[(sv p_0.1),(sv p_0.2.1),(sv p_0.2.2.1),(sv p_0.2.2.2.1),(sv p_0.2.2.2.2.1),(sv p_0.2.2.2.2.2.1)] 32 fun r1=>aD #[(.slice none 0 0),(.slice none 0 0),(.slice none 0 0),(.int .i64 0)] 133 fun r2=>L6 r1 fun t3 t4 t5 t6 t7 t8=>aA r1 1 fun t9=>L6 r1 fun t10 t11 t12 t13 t14 t15=>L6 r1 fun t16 t17 t18 t19 t20 t21=>fR (dP (fD 60 (.int .i64 (bT .i64 ((t9.2.1:Int)+(1:Int)))) (.int .i64 (bT .i64 ((t9.2.1:Int)+(1:Int))))) (.one aS) fun (t22:Slc)=>S6 r1 t16 t17 t18 t19 t20 t21<|S6 r1 t10 t11 t12 t13 t14 t15<|S6 r1 t3 t4 t5 t6 t7 t8<|bV 132 [(aH t10 t11 t12 t13 t14 t15)] (.one aS) fun (t23:Slc)=>S6 r1 t16 t17 t18 t19 t20 t21<|S6 r1 t3 t4 t5 t6 t7 t8<|bV 132 [(aH t16 t17 t18 t19 t20 t21)] (.one aS) fun (t24:Slc)=>S6 r1 t3 t4 t5 t6 t7 t8<|aD #[(sv t3),(sv t4),(sv t5),(sv t6),(sv t7),(sv t8),(sv t22),(sv t23),(sv t24)] 221 fun r25=>Mo r1 r2 r25) (bV 132 [(aH t10 t11 t12 t13 t14 t15)] (.one aS) fun (t46:Slc)=>S6 r1 t16 t17 t18 t19 t20 t21<|aY r1 1 t9<|S6 r1 t3 t4 t5 t6 t7 t8<|fR (dP (fD 60 (.int .i64 (bT .i64 ((t9.2.1:Int)+(1:Int)))) (.int .i64 (bT .i64 ((t9.2.1:Int)+(1:Int))))) (.one aS) fun (t47:Slc)=>S6 r1 t16 t17 t18 t19 t20 t21<|S6 r1 t3 t4 t5 t6 t7 t8<|bV 132 [(aH t16 t17 t18 t19 t20 t21)] (.one aS) fun (t48:Slc)=>S6 r1 t3 t4 t5 t6 t7 t8<|aD #[(sv t3),(sv t4),(sv t5),(sv t6),(sv t7),(sv t8),(sv t47),(sv t46),(sv t48)] 221 fun r49=>Mo r1 r2 r49) (bV 132 [(aH t16 t17 t18 t19 t20 t21)] (.one aS) fun (t70:Slc)=>aY r1 1 t9<|S6 r1 t3 t4 t5 t6 t7 t8<|dP (fD 60 (.int .i64 (bT .i64 ((t9.2.1:Int)+(1:Int)))) (.int .i64 (bT .i64 ((t9.2.1:Int)+(1:Int))))) (.one aS) fun (t71:Slc)=>S6 r1 t3 t4 t5 t6 t7 t8<|aD #[(sv t3),(sv t4),(sv t5),(sv t6),(sv t7),(sv t8),(sv t71),(sv t46),(sv t70)] 221 fun r72=>Mo r1 r2 r72))
theorem QI (p_0:Pl6):AZ bW Tryz.f106 [(aG p_0)] =OH p_0:=by kernel_rfl
noncomputable def K0 (p_0:Pl6):T:=aD #[(sv p_0.1),(sv p_0.2.1),(sv p_0.2.2.1),(sv p_0.2.2.2.1),(sv p_0.2.2.2.2.1),(sv p_0.2.2.2.2.2.1)] 32 fun r1=>aA r1 1 fun t2=>cZ 0 [aI,aS] (dQ [aI,aS] [(.int .i64 0),(.slice none 0 0)] fun (z4:Int×Slc×Unit)=>cond (decide (z4.1< (bT .i64 ((t2.2.1:Int)+(1:Int))))) (aA r1 0 fun t5=>bV 138 [(.int .i64 (t5.2.1:Int))] (.one aP) fun (t6:Option Addr)=>aD #[(.pointer t6)] 139 fun r7=>dP (cK #[195,195] 195 #[(sv z4.2.1),(.slice (some ⟨r7,0,none⟩) 1 1)]) (.one aS) fun (t8:Slc)=>cF [(.int .i64 (wN z4.1)),(sv t8)]) (eB 0 [(.int .i64 z4.1),(sv z4.2.1)])) fun (z3:Int×Slc×Unit)=>dK (sv z3.2.1)
theorem NH (p_0:Pl6):AZ bW Tryz.f132 [(aG p_0)] =K0 p_0:=by kernel_rfl
noncomputable def G5 (s_0:Option Addr):T:=deref s_0 fun a1=>aL a1 2 fun t2=>cZ 0 [aI,aB] (dQ [aI,aB] [(.int .i64 0),(.bool false)] fun (z4:Int×Bool×Unit)=>cond (decide (z4.1< (t2.2.1:Int))) (deref t2.1 fun a5=>chk (0≤z4.1∧z4.1< (t2.2.1:Nat))<|aJ a5 z4.1 3 fun t6=>aM a5 z4.1 3 1 fun t7=>aQ a5 z4.1 3 2 fun t8=>aD #[(.int .i64 0),(.slice none 0 0),(.int .i64 0)] 65 fun r9=>aT r9 0 t6<|aF r9 1 t7<|aT r9 2 t8<|aR r9 0 fun t10=>bV 160 [(.pointer s_0),(.int .i64 t10)] (.one aI) fun (t11:Int)=>aA r9 1 fun t12=>deref s_0 fun a13=>aL a13 7 fun t14=>deref t14.1 fun a15=>chk (0≤t11∧t11< (t14.2.1:Nat))<|bJ a15 t11 1 fun t16=>bV 161 [(.pointer s_0),(sv t12),(.func (.func 139) #[(.pointer t16)] #[])] (.tuple [aB,aB]) fun (t17:Bool×Bool×Unit)=>dY [aB] (cond z4.2.1 (cF [(.bool true)]) (cond t17.1 (cF [(.bool true)]) (cond t17.2.1 (deref s_0 fun a19=>aL a19 6 fun t20=>deref t20.1 fun a21=>chk (0≤t11∧t11< (t20.2.1:Nat))<|bL a21 t11 1 fun t22=>cF [(.bool (!t22))]) (cF [(.bool false)])))) fun (z18:Bool×Unit)=>dY [] (deref s_0 fun a24=>aL a24 6 fun t25=>deref s_0 fun a26=>aL a26 6 fun t27=>deref t27.1 fun a28=>chk (0≤t11∧t11< (t27.2.1:Nat))<|bL a28 t11 1 fun t29=>cond t29 (deref t25.1 fun a30=>chk (0≤t11∧t11< (t25.2.1:Nat))<|fS (a30.add (cT t11 *1)) (.bool true)<|cF []) (deref t25.1 fun a31=>chk (0≤t11∧t11< (t25.2.1:Nat))<|fS (a31.add (cT t11 *1)) (.bool t17.2.1)<|cF [])) fun (z23:Unit)=>cF [(.int .i64 (wN z4.1)),(.bool z18.1)]) (eB 0 [(.int .i64 z4.1),(.bool z4.2.1)])) fun (z3:Int×Bool×Unit)=>dK (.bool z3.2.1)
theorem J5 (s_0:Option Addr):AZ bW Tryz.f133 [(.pointer s_0)] =G5 s_0:=by kernel_rfl
noncomputable def GP (s_0:Option Addr):T:=deref s_0 fun a1=>aL a1 2 fun t2=>cZ 0 [aI,aB] (dQ [aI,aB] [(.int .i64 0),(.bool false)] fun (z4:Int×Bool×Unit)=>cond (decide (z4.1< (t2.2.1:Int))) (deref t2.1 fun a5=>chk (0≤z4.1∧z4.1< (t2.2.1:Nat))<|aJ a5 z4.1 3 fun t6=>aM a5 z4.1 3 1 fun t7=>aQ a5 z4.1 3 2 fun t8=>aD #[(.int .i64 0),(.slice none 0 0),(.int .i64 0)] 65 fun r9=>aT r9 0 t6<|aF r9 1 t7<|aT r9 2 t8<|aA r9 1 fun t10=>cZ 2 [aI,aB] (dQ [aI,aB] [(.int .i64 0),(.bool z4.2.1)] fun (z12:Int×Bool×Unit)=>cond (decide (z12.1< (t10.2.1:Int))) (cZ 3 [aB] (deref t10.1 fun a14=>chk (0≤z12.1∧z12.1< (t10.2.1:Nat))<|aJ a14 z12.1 1 fun t15=>deref s_0 fun a16=>M6 a16 fun t17 t18 t19 t20 t21 t22=>bV 86 [(aH t17 t18 t19 t20 t21 t22),(.int .i64 t15)] (.one aB) fun (t23:Bool)=>cond t23 (eB 3 [(.bool z12.2.1)]) (deref s_0 fun a24=>aL a24 8 fun t25=>bV 160 [(.pointer s_0),(.int .i64 t15)] (.one aI) fun (t26:Int)=>dZ (a24.add 8) (sv t25)<|deref t25.1 fun a27=>chk (0≤t26∧t26< (t25.2.1:Nat))<|bJ a27 t26 1 fun t28=>aA r9 1 fun t29=>chk (0≤(wN z12.1)∧(wN z12.1) ≤(t29.2.1:Int)∧(t29.2.1:Int) ≤(t29.2.2:Nat))<|bV 161 [(.pointer s_0),(.slice (if t29.2.2=cT (wN z12.1) then t29.1 else Option.map (fun x=>Addr.add x (cT (wN z12.1) *1)) t29.1) (cT (t29.2.1:Int) - cT (wN z12.1)) (t29.2.2 - cT (wN z12.1))),(.func (.func 139) #[(.pointer t28)] #[])] (.tuple [aB,aB]) fun (t30:Bool×Bool×Unit)=>dY [aB] (cond t30.2.1 (dY [aB] (deref s_0 fun a33=>aL a33 8 fun t34=>aR r9 0 fun t35=>bV 160 [(.pointer s_0),(.int .i64 t35)] (.one aI) fun (t36:Int)=>dZ (a33.add 8) (sv t34)<|deref t34.1 fun a37=>chk (0≤t36∧t36< (t34.2.1:Nat))<|bJ a37 t36 1 fun t38=>bV 139 [(.pointer t28),(.pointer t38)] (.one aB) fun (t39:Bool)=>cond t39 (cF [(.bool true)]) (cF [(.bool t30.1)])) fun (z32:Bool×Unit)=>cF [(.bool z32.1)]) (cF [(.bool t30.1)])) fun (z31:Bool×Unit)=>dY [aB] (cond z12.2.1 (cF [(.bool true)]) (cF [(.bool z31.1)])) fun (z40:Bool×Unit)=>cF [(.bool z40.1)])) fun (z13:Bool×Unit)=>cF [(.int .i64 (wN z12.1)),(.bool z13.1)]) (eB 2 [(.int .i64 z12.1),(.bool z12.2.1)])) fun (z11:Int×Bool×Unit)=>cF [(.int .i64 (wN z4.1)),(.bool z11.2.1)]) (eB 0 [(.int .i64 z4.1),(.bool z4.2.1)])) fun (z3:Int×Bool×Unit)=>dK (.bool z3.2.1)
theorem JI (s_0:Option Addr):AZ bW Tryz.f135 [(.pointer s_0)] =GP s_0:=by kernel_rfl
noncomputable def K2 (l_0_p:Option Addr) (l_0_n l_0_c:Nat):T:=cZ 0 [aI,aS] (dQ [aI,aS] [(.int .i64 0),(.slice none 0 0)] fun (z2:Int×Slc×Unit)=>cond (decide (z2.1< ((l_0_n:Nat):Int))) (deref l_0_p fun a3=>chk (0≤z2.1∧z2.1< (l_0_n:Nat))<|bJ a3 z2.1 1 fun t4=>bV 70 [(.pointer t4)] (.one aS) fun (t5:Slc)=>aD #[(sv t5)] 30 fun r6=>dP (cK #[97,97] 97 #[(sv z2.2.1),(.slice (some ⟨r6,0,none⟩) 1 1)]) (.one aS) fun (t7:Slc)=>cF [(.int .i64 (wN z2.1)),(sv t7)]) (eB 0 [(.int .i64 z2.1),(sv z2.2.1)])) fun (z1:Int×Slc×Unit)=>dK (sv z1.2.1)
theorem NI (l_0_p:Option Addr) (l_0_n l_0_c:Nat):AZ bW Tryz.f136 [(.slice l_0_p l_0_n l_0_c)] =K2 l_0_p l_0_n l_0_c:=by kernel_rfl
noncomputable def HX (f_0:Slc×Slc×Slc×Int×Unit) (p_1:Pl6) (seq_2_p:Option Addr) (seq_2_n seq_2_c:Nat):T:=aD #[(sv f_0.1),(sv f_0.2.1),(sv f_0.2.2.1),(.int .i64 f_0.2.2.2.1)] 133 fun r1=>aD #[(sv p_1.1),(sv p_1.2.1),(sv p_1.2.2.1),(sv p_1.2.2.2.1),(sv p_1.2.2.2.2.1),(sv p_1.2.2.2.2.2.1)] 32 fun r2=>aA r2 0 fun t3=>bV 138 [(.int .i64 (t3.2.1:Int))] (.one aP) fun (t4:Option Addr)=>cZ 0 [aI,aB,aS] (dQ [aI,aB,aS] [(.int .i64 0),(.bool false),(.slice none 0 0)] fun (z6:Int×Bool×Slc×Unit)=>cond (decide (z6.1< ((seq_2_n:Nat):Int))) (cZ 1 [aB,aS] (deref seq_2_p fun a8=>chk (0≤z6.1∧z6.1< (seq_2_n:Nat))<|aJ a8 z6.1 1 fun t9=>L6 r2 fun t10 t11 t12 t13 t14 t15=>bV 86 [(aH t10 t11 t12 t13 t14 t15),(.int .i64 t9)] (.one aB) fun (t16:Bool)=>cond t16 (bV 134 [(.pointer t4),(.int .i64 t9)] (.one aB) fun (t17:Bool)=>bV 70 [(.pointer t4)] (.one aS) fun (t18:Slc)=>dK (.tuple #[(sv t18),(.bool false)])) (aA r2 0 fun t19=>dY [aB] (cond (decide ((bT .i64 (t9 - (t19.2.1:Int))) < 0)) (cF [(.bool true)]) (aA r1 1 fun t21=>cF [(.bool (decide ((bT .i64 (t9 - (t19.2.1:Int))) ≥ (t21.2.1:Int))))])) fun (z20:Bool×Unit)=>cond z20.1 (eB 1 [(.bool z6.2.1),(sv z6.2.2.1)]) (aA r2 0 fun t22=>aA r1 1 fun t23=>deref t23.1 fun a24=>chk (0≤(bT .i64 (t9 - (t19.2.1:Int)))∧(bT .i64 (t9 - (t19.2.1:Int))) < (t23.2.1:Nat))<|aC a24 (bT .i64 (t9 - (t19.2.1:Int))) 1 fun t25=>bV 140 [(.int .i64 (t22.2.1:Int)),(sv t25)] (.one aP) fun (t26:Option Addr)=>bV 139 [(.pointer t4),(.pointer t26)] (.one aB) fun (t27:Bool)=>aA r1 0 fun t28=>deref t28.1 fun a29=>chk (0≤(bT .i64 (t9 - (t19.2.1:Int)))∧(bT .i64 (t9 - (t19.2.1:Int))) < (t28.2.1:Nat))<|bL a29 (bT .i64 (t9 - (t19.2.1:Int))) 1 fun t30=>cond (!t30) (bV 70 [(.pointer t4)] (.one aS) fun (t31:Slc)=>dK (.tuple #[(sv t31),(.bool false)])) (cF [(.bool z6.2.1),(sv z6.2.2.1)])))) fun (z7:Bool×Slc×Unit)=>cF [(.int .i64 (wN z6.1)),(.bool z7.1),(sv z7.2.1)]) (eB 0 [(.int .i64 z6.1),(.bool z6.2.1),(sv z6.2.2.1)])) fun (z5:Int×Bool×Slc×Unit)=>bV 70 [(.pointer t4)] (.one aS) fun (t32:Slc)=>dK (.tuple #[(sv t32),(.bool true)])
theorem Kl (f_0:Slc×Slc×Slc×Int×Unit) (p_1:Pl6) (seq_2_p:Option Addr) (seq_2_n seq_2_c:Nat):AZ bW Tryz.f146 [(.agg #[(sv f_0.1),(sv f_0.2.1),(sv f_0.2.2.1),(.int .i64 f_0.2.2.2.1)]),(aG p_1),(.slice seq_2_p seq_2_n seq_2_c)] =HX f_0 p_1 seq_2_p seq_2_n seq_2_c:=by kernel_rfl
noncomputable def I2 (s_0:Option Addr) (sym_1:Int):T:=deref s_0 fun a1=>bM a1 fun t2=>dK (.int .i64 (bT .i64 (sym_1 - (t2.2.1:Int))))
theorem MH (s_0:Option Addr) (sym_1:Int):AZ bW Tryz.f160 [(.pointer s_0),(.int .i64 sym_1)] =I2 s_0 sym_1:=by kernel_rfl
noncomputable def FW (s_0:Option Addr) (seq_1_p:Option Addr) (seq_1_n seq_1_c:Nat) (k_2:Option Addr):T:=cZ 0 [aI,aB,aB] (dQ [aI,aB,aB] [(.int .i64 0),(.bool false),(.bool false)] fun (z2:Int×Bool×Bool×Unit)=>cond (decide (z2.1< ((seq_1_n:Nat):Int))) (deref seq_1_p fun a3=>chk (0≤z2.1∧z2.1< (seq_1_n:Nat))<|aJ a3 z2.1 1 fun t4=>deref s_0 fun a5=>M6 a5 fun t6 t7 t8 t9 t10 t11=>bV 86 [(aH t6 t7 t8 t9 t10 t11),(.int .i64 t4)] (.one aB) fun (t12:Bool)=>cond t12 (dY [aB,aB] (deref s_0 fun a14=>bM a14 fun t15=>aD #[(.int .i64 t4)] 3 fun r16=>bV 140 [(.int .i64 (t15.2.1:Int)),(.slice (some ⟨r16,0,none⟩) 1 1)] (.one aP) fun (t17:Option Addr)=>bV 139 [(.pointer k_2),(.pointer t17)] (.one aB) fun (t18:Bool)=>cond t18 (cF [(.bool true),(.bool false)]) (cF [(.bool z2.2.2.1),(.bool false)])) fun (z13:Bool×Bool×Unit)=>dK (.tuple #[(.bool z13.1),(.bool z13.2.1)])) (dY [aB] (deref s_0 fun a20=>aL a20 7 fun t21=>bV 160 [(.pointer s_0),(.int .i64 t4)] (.one aI) fun (t22:Int)=>dZ (a20.add 7) (sv t21)<|deref t21.1 fun a23=>chk (0≤t22∧t22< (t21.2.1:Nat))<|bJ a23 t22 1 fun t24=>bV 139 [(.pointer k_2),(.pointer t24)] (.one aB) fun (t25:Bool)=>cond t25 (cF [(.bool true)]) (cF [(.bool z2.2.2.1)])) fun (z19:Bool×Unit)=>deref s_0 fun a26=>aL a26 6 fun t27=>bV 160 [(.pointer s_0),(.int .i64 t4)] (.one aI) fun (t28:Int)=>dZ (a26.add 6) (sv t27)<|deref t27.1 fun a29=>chk (0≤t28∧t28< (t27.2.1:Nat))<|bL a29 t28 1 fun t30=>cond (!t30) (dK (.tuple #[(.bool z19.1),(.bool false)])) (cF [(.int .i64 (wN z2.1)),(.bool z2.2.1),(.bool z19.1)]))) (eB 0 [(.int .i64 z2.1),(.bool z2.2.1),(.bool z2.2.2.1)])) fun (z1:Int×Bool×Bool×Unit)=>dK (.tuple #[(.bool z1.2.2.1),(.bool true)])
theorem IH (s_0:Option Addr) (seq_1_p:Option Addr) (seq_1_n seq_1_c:Nat) (k_2:Option Addr):AZ bW Tryz.f161 [(.pointer s_0),(.slice seq_1_p seq_1_n seq_1_c),(.func (.func 139) #[(.pointer k_2)] #[])] =FW s_0 seq_1_p seq_1_n seq_1_c k_2:=by kernel_rfl
noncomputable def PT (p_0:Pl6) (a_1:Option Addr):T:=aD #[(sv p_0.1),(sv p_0.2.1),(sv p_0.2.2.1),(sv p_0.2.2.2.1),(sv p_0.2.2.2.2.1),(sv p_0.2.2.2.2.2.1)] 32 fun r1=>L6 r1 fun t2 t3 t4 t5 t6 t7=>L6 r1 fun t8 t9 t10 t11 t12 t13=>fR (bV 106 [(aH t8 t9 t10 t11 t12 t13)] (.one (.agg [.slice,.slice,.slice,(.int .i64)])) fun (t14:Slc×Slc×Slc×Int×Unit)=>S6 r1 t2 t3 t4 t5 t6 t7<|fR (fU (.map #[] 0) fun r15=>S6 r1 t2 t3 t4 t5 t6 t7<|fU (.map #[] 0) fun r16=>S6 r1 t2 t3 t4 t5 t6 t7<|aD #[(sv t2),(sv t3),(sv t4),(sv t5),(sv t6),(sv t7),(.pointer a_1),(sv t14.1),(sv t14.2.1),(sv t14.2.2.1),(.int .i64 t14.2.2.2.1),(.slice none 0 0),(.map (some r15)),(.map (some r16))] 138 fun r17=>bV 107 [(.pointer (some ⟨r17,0,none⟩)),(.func (.func 108) #[(.pointer (some ⟨r17,0,none⟩))] #[])] (.tuple []) fun (t18:Unit)=>bV 109 [(.pointer (some ⟨r17,0,none⟩))] (.tuple [aS,aS]) fun (t19:Slc×Slc×Unit)=>bV 112 [(.pointer (some ⟨r17,0,none⟩))] (.one aS) fun (t20:Slc)=>bV 111 [(sv t19.2.1),(sv t19.1)] (.one aS) fun (t21:Slc)=>bV 111 [(sv t20),(sv t21)] (.one aS) fun (t22:Slc)=>bV 110 [(.pointer (some ⟨r17,0,none⟩)),(sv t22)] (.tuple []) fun (t23:Unit)=>dK (.pointer (some ⟨r17,0,none⟩))) (fU (.map #[] 0) fun r24=>S6 r1 t2 t3 t4 t5 t6 t7<|fU (.map #[] 0) fun r25=>S6 r1 t2 t3 t4 t5 t6 t7<|aD #[(sv t2),(sv t3),(sv t4),(sv t5),(sv t6),(sv t7),(.pointer a_1),(sv t14.1),(sv t14.2.1),(sv t14.2.2.1),(.int .i64 t14.2.2.2.1),(.slice none 0 0),(.map (some r25)),(.map (some r24))] 138 fun r26=>bV 107 [(.pointer (some ⟨r26,0,none⟩)),(.func (.func 108) #[(.pointer (some ⟨r26,0,none⟩))] #[])] (.tuple []) fun (t27:Unit)=>bV 109 [(.pointer (some ⟨r26,0,none⟩))] (.tuple [aS,aS]) fun (t28:Slc×Slc×Unit)=>bV 112 [(.pointer (some ⟨r26,0,none⟩))] (.one aS) fun (t29:Slc)=>bV 111 [(sv t28.2.1),(sv t28.1)] (.one aS) fun (t30:Slc)=>bV 111 [(sv t29),(sv t30)] (.one aS) fun (t31:Slc)=>bV 110 [(.pointer (some ⟨r26,0,none⟩)),(sv t31)] (.tuple []) fun (t32:Unit)=>dK (.pointer (some ⟨r26,0,none⟩)))) (fR (fU (.map #[] 0) fun r33=>S6 r1 t8 t9 t10 t11 t12 t13<|S6 r1 t2 t3 t4 t5 t6 t7<|fR (bV 106 [(aH t8 t9 t10 t11 t12 t13)] (.one (.agg [.slice,.slice,.slice,(.int .i64)])) fun (t34:Slc×Slc×Slc×Int×Unit)=>S6 r1 t2 t3 t4 t5 t6 t7<|fU (.map #[] 0) fun r35=>S6 r1 t2 t3 t4 t5 t6 t7<|aD #[(sv t2),(sv t3),(sv t4),(sv t5),(sv t6),(sv t7),(.pointer a_1),(sv t34.1),(sv t34.2.1),(sv t34.2.2.1),(.int .i64 t34.2.2.2.1),(.slice none 0 0),(.map (some r33)),(.map (some r35))] 138 fun r36=>bV 107 [(.pointer (some ⟨r36,0,none⟩)),(.func (.func 108) #[(.pointer (some ⟨r36,0,none⟩))] #[])] (.tuple []) fun (t37:Unit)=>bV 109 [(.pointer (some ⟨r36,0,none⟩))] (.tuple [aS,aS]) fun (t38:Slc×Slc×Unit)=>bV 112 [(.pointer (some ⟨r36,0,none⟩))] (.one aS) fun (t39:Slc)=>bV 111 [(sv t38.2.1),(sv t38.1)] (.one aS) fun (t40:Slc)=>bV 111 [(sv t39),(sv t40)] (.one aS) fun (t41:Slc)=>bV 110 [(.pointer (some ⟨r36,0,none⟩)),(sv t41)] (.tuple []) fun (t42:Unit)=>dK (.pointer (some ⟨r36,0,none⟩))) (fU (.map #[] 0) fun r43=>S6 r1 t8 t9 t10 t11 t12 t13<|S6 r1 t2 t3 t4 t5 t6 t7<|bV 106 [(aH t8 t9 t10 t11 t12 t13)] (.one (.agg [.slice,.slice,.slice,(.int .i64)])) fun (t44:Slc×Slc×Slc×Int×Unit)=>S6 r1 t2 t3 t4 t5 t6 t7<|aD #[(sv t2),(sv t3),(sv t4),(sv t5),(sv t6),(sv t7),(.pointer a_1),(sv t44.1),(sv t44.2.1),(sv t44.2.2.1),(.int .i64 t44.2.2.2.1),(.slice none 0 0),(.map (some r33)),(.map (some r43))] 138 fun r45=>bV 107 [(.pointer (some ⟨r45,0,none⟩)),(.func (.func 108) #[(.pointer (some ⟨r45,0,none⟩))] #[])] (.tuple []) fun (t46:Unit)=>bV 109 [(.pointer (some ⟨r45,0,none⟩))] (.tuple [aS,aS]) fun (t47:Slc×Slc×Unit)=>bV 112 [(.pointer (some ⟨r45,0,none⟩))] (.one aS) fun (t48:Slc)=>bV 111 [(sv t47.2.1),(sv t47.1)] (.one aS) fun (t49:Slc)=>bV 111 [(sv t48),(sv t49)] (.one aS) fun (t50:Slc)=>bV 110 [(.pointer (some ⟨r45,0,none⟩)),(sv t50)] (.tuple []) fun (t51:Unit)=>dK (.pointer (some ⟨r45,0,none⟩)))) (fU (.map #[] 0) fun r52=>S6 r1 t8 t9 t10 t11 t12 t13<|S6 r1 t2 t3 t4 t5 t6 t7<|fR (bV 106 [(aH t8 t9 t10 t11 t12 t13)] (.one (.agg [.slice,.slice,.slice,(.int .i64)])) fun (t53:Slc×Slc×Slc×Int×Unit)=>S6 r1 t2 t3 t4 t5 t6 t7<|fU (.map #[] 0) fun r54=>S6 r1 t2 t3 t4 t5 t6 t7<|aD #[(sv t2),(sv t3),(sv t4),(sv t5),(sv t6),(sv t7),(.pointer a_1),(sv t53.1),(sv t53.2.1),(sv t53.2.2.1),(.int .i64 t53.2.2.2.1),(.slice none 0 0),(.map (some r54)),(.map (some r52))] 138 fun r55=>bV 107 [(.pointer (some ⟨r55,0,none⟩)),(.func (.func 108) #[(.pointer (some ⟨r55,0,none⟩))] #[])] (.tuple []) fun (t56:Unit)=>bV 109 [(.pointer (some ⟨r55,0,none⟩))] (.tuple [aS,aS]) fun (t57:Slc×Slc×Unit)=>bV 112 [(.pointer (some ⟨r55,0,none⟩))] (.one aS) fun (t58:Slc)=>bV 111 [(sv t57.2.1),(sv t57.1)] (.one aS) fun (t59:Slc)=>bV 111 [(sv t58),(sv t59)] (.one aS) fun (t60:Slc)=>bV 110 [(.pointer (some ⟨r55,0,none⟩)),(sv t60)] (.tuple []) fun (t61:Unit)=>dK (.pointer (some ⟨r55,0,none⟩))) (fU (.map #[] 0) fun r62=>S6 r1 t8 t9 t10 t11 t12 t13<|S6 r1 t2 t3 t4 t5 t6 t7<|bV 106 [(aH t8 t9 t10 t11 t12 t13)] (.one (.agg [.slice,.slice,.slice,(.int .i64)])) fun (t63:Slc×Slc×Slc×Int×Unit)=>S6 r1 t2 t3 t4 t5 t6 t7<|aD #[(sv t2),(sv t3),(sv t4),(sv t5),(sv t6),(sv t7),(.pointer a_1),(sv t63.1),(sv t63.2.1),(sv t63.2.2.1),(.int .i64 t63.2.2.2.1),(.slice none 0 0),(.map (some r62)),(.map (some r52))] 138 fun r64=>bV 107 [(.pointer (some ⟨r64,0,none⟩)),(.func (.func 108) #[(.pointer (some ⟨r64,0,none⟩))] #[])] (.tuple []) fun (t65:Unit)=>bV 109 [(.pointer (some ⟨r64,0,none⟩))] (.tuple [aS,aS]) fun (t66:Slc×Slc×Unit)=>bV 112 [(.pointer (some ⟨r64,0,none⟩))] (.one aS) fun (t67:Slc)=>bV 111 [(sv t66.2.1),(sv t66.1)] (.one aS) fun (t68:Slc)=>bV 111 [(sv t67),(sv t68)] (.one aS) fun (t69:Slc)=>bV 110 [(.pointer (some ⟨r64,0,none⟩)),(sv t69)] (.tuple []) fun (t70:Unit)=>dK (.pointer (some ⟨r64,0,none⟩)))))
theorem RU (p_0:Pl6) (a_1:Option Addr):AZ bW Tryz.f69 [(aG p_0),(.pointer a_1)] =PT p_0 a_1:=by kernel_rfl
noncomputable def G6 (l_0:Option Addr) (k_1:Option Addr):T:=deref l_0 fun a1=>bN a1 6 fun t2=>bV 20 [(.pointer t2)] (.one aI) fun (t3:Int)=>cZ 0 [aI] (dQ [aI] [(.int .i64 0)] fun (z5:Int×Unit)=>cond (decide (z5.1<t3)) (deref l_0 fun a6=>bN a6 6 fun t7=>bV 34 [(.pointer t7),(.int .i64 z5.1)] (.one aS) fun (t8:Slc)=>cZ 2 [aI] (dQ [aI] [(.int .i64 0)] fun (z10:Int×Unit)=>cond (decide (z10.1< (t8.2.1:Int))) (deref t8.1 fun a11=>chk (0≤z10.1∧z10.1< (t8.2.1:Nat))<|aJ a11 z10.1 2 fun t12=>aQ a11 z10.1 2 1 fun t13=>aD #[(.int .i64 0),(.int .i64 0)] 73 fun r14=>aT r14 0 t12<|aT r14 1 t13<|deref l_0 fun a15=>M6 a15 fun t16 t17 t18 t19 t20 t21=>aR r14 0 fun t22=>bV 86 [(aH t16 t17 t18 t19 t20 t21),(.int .i64 t22)] (.one aB) fun (t23:Bool)=>dY [] (cond (!t23) (aR r14 0 fun t25=>aR r14 1 fun t26=>bV 108 [(.pointer k_1),(.agg #[(.int .i64 z5.1),(.int .i64 t25)]),(.int .i64 t26)] (.tuple []) fun (t27:Unit)=>cF []) (cF [])) fun (z24:Unit)=>cF [(.int .i64 (wN z10.1))]) (eB 2 [(.int .i64 z10.1)])) fun (z9:Int×Unit)=>cF [(.int .i64 (wN z5.1))]) (eB 0 [(.int .i64 z5.1)])) fun (z4:Int×Unit)=>dK (.tuple #[])
theorem J6 (l_0:Option Addr) (k_1:Option Addr):AZ bW Tryz.f107 [(.pointer l_0),(.func (.func 108) #[(.pointer k_1)] #[])] =G6 l_0 k_1:=by kernel_rfl
noncomputable def G7 (l_0:Option Addr) (k_1_0:Nat) (k_1_1:Nat) (k_1_2:Nat):T:=deref l_0 fun a1=>bN a1 6 fun t2=>bV 20 [(.pointer t2)] (.one aI) fun (t3:Int)=>cZ 0 [aI] (dQ [aI] [(.int .i64 0)] fun (z5:Int×Unit)=>cond (decide (z5.1<t3)) (deref l_0 fun a6=>bN a6 6 fun t7=>bV 34 [(.pointer t7),(.int .i64 z5.1)] (.one aS) fun (t8:Slc)=>cZ 2 [aI] (dQ [aI] [(.int .i64 0)] fun (z10:Int×Unit)=>cond (decide (z10.1< (t8.2.1:Int))) (deref t8.1 fun a11=>chk (0≤z10.1∧z10.1< (t8.2.1:Nat))<|aJ a11 z10.1 2 fun t12=>aQ a11 z10.1 2 1 fun t13=>aD #[(.int .i64 0),(.int .i64 0)] 73 fun r14=>aT r14 0 t12<|aT r14 1 t13<|deref l_0 fun a15=>M6 a15 fun t16 t17 t18 t19 t20 t21=>aR r14 0 fun t22=>bV 86 [(aH t16 t17 t18 t19 t20 t21),(.int .i64 t22)] (.one aB) fun (t23:Bool)=>dY [] (cond (!t23) (aR r14 0 fun t25=>aR r14 1 fun t26=>bV 137 [(.agg #[(.int .i64 z5.1),(.int .i64 t25)]),(.int .i64 t26),(.pointer (some ⟨k_1_0,0,none⟩)),(.pointer (some ⟨k_1_1,0,none⟩)),(.pointer (some ⟨k_1_2,0,none⟩))] (.tuple []) fun (t27:Unit)=>cF []) (cF [])) fun (z24:Unit)=>cF [(.int .i64 (wN z10.1))]) (eB 2 [(.int .i64 z10.1)])) fun (z9:Int×Unit)=>cF [(.int .i64 (wN z5.1))]) (eB 0 [(.int .i64 z5.1)])) fun (z4:Int×Unit)=>dK (.tuple #[])
theorem J7 (l_0:Option Addr) (k_1_0:Nat) (k_1_1:Nat) (k_1_2:Nat):AZ bW Tryz.f107 [(.pointer l_0),(.func (.func 137) #[] #[(.pointer (some ⟨k_1_0,0,none⟩)),(.pointer (some ⟨k_1_1,0,none⟩)),(.pointer (some ⟨k_1_2,0,none⟩))])] =G7 l_0 k_1_0 k_1_1 k_1_2:=by kernel_rfl
noncomputable def El (l_0:Option Addr) (s_1:Int×Int×Unit) (to_2:Int):T:=aD #[(.int .i64 s_1.1),(.int .i64 s_1.2.1)] 224 fun r1=>deref l_0 fun a2=>bP a2 12 fun t3=>aR r1 0 fun t4=>aR r1 1 fun t5=>deref l_0 fun a6=>aL a6 11 fun t7=>dP (gJ (eN 135 (.map t3) (.agg #[(.int .i64 t4),(.int .i64 t5)]) (.int .i64 (t7.2.1:Int))) fun _=>.pure undef) (.tuple []) fun (u8:Unit)=>deref l_0 fun a9=>aL a9 11 fun t10=>aR r1 0 fun t11=>aR r1 1 fun t12=>aD #[(.int .i64 t11),(.int .i64 t12)] 224 fun r13=>dZ (a9.add 11) (sv t10)<|dP (cK #[134,134] 134 #[(sv t10),(.slice (some ⟨r13,0,none⟩) 1 1)]) (.one aS) fun (t14:Slc)=>deref l_0 fun a15=>fS (a15.add 11) (sv t14)<|dK (.tuple #[])
theorem J8 (l_0:Option Addr) (s_1:Int×Int×Unit) (to_2:Int):AZ bW Tryz.f108 [(.pointer l_0),(.agg #[(.int .i64 s_1.1),(.int .i64 s_1.2.1)]),(.int .i64 to_2)] =El l_0 s_1 to_2:=by kernel_rfl
noncomputable def G8 (l_0:Option Addr):T:=aD #[(.pointer l_0)] 42 fun r1=>aD #[(.slice none 0 0)] 195 fun r2=>aD #[(.slice none 0 0)] 97 fun r3=>aK r1 0 fun t4=>bV 107 [(.pointer t4),(.func (.func 137) #[] #[(.pointer (some ⟨r1,0,none⟩)),(.pointer (some ⟨r2,0,none⟩)),(.pointer (some ⟨r3,0,none⟩))])] (.tuple []) fun (t5:Unit)=>aA r2 0 fun t6=>aA r3 0 fun t7=>dK (.tuple #[(sv t6),(sv t7)])
theorem J9 (l_0:Option Addr):AZ bW Tryz.f109 [(.pointer l_0)] =G8 l_0:=by kernel_rfl
noncomputable def D9 (s_0:Int×Int×Unit) (to_1:Int) (c_2:Nat) (c_3:Nat) (c_4:Nat):T:=aD #[(.int .i64 s_0.1),(.int .i64 s_0.2.1)] 224 fun r1=>aK c_2 0 fun t2=>deref t2 fun a3=>bM a3 fun t4=>bV 138 [(.int .i64 (t4.2.1:Int))] (.one aP) fun (t5:Option Addr)=>aK c_2 0 fun t6=>bV 71 [(.pointer t6),(.int .i64 to_1),(.int .i64 0)] (.one aB) fun (t7:Bool)=>dY [] (cond t7 (bV 134 [(.pointer t5),(.int .i64 0)] (.one aB) fun (t9:Bool)=>cF []) (cF [])) fun (z8:Unit)=>aK c_2 0 fun t10=>deref t10 fun a11=>bN a11 6 fun t12=>bV 34 [(.pointer t12),(.int .i64 to_1)] (.one aS) fun (t13:Slc)=>cZ 0 [aI,aS] (dQ [aI,aS] [(.int .i64 0),(.slice none 0 0)] fun (z15:Int×Slc×Unit)=>cond (decide (z15.1< (t13.2.1:Int))) (deref t13.1 fun a16=>chk (0≤z15.1∧z15.1< (t13.2.1:Nat))<|aJ a16 z15.1 2 fun t17=>aQ a16 z15.1 2 1 fun t18=>aD #[(.int .i64 0),(.int .i64 0)] 73 fun r19=>aT r19 0 t17<|aT r19 1 t18<|aK c_2 0 fun t20=>deref t20 fun a21=>M6 a21 fun t22 t23 t24 t25 t26 t27=>aR r19 0 fun t28=>bV 86 [(aH t22 t23 t24 t25 t26 t27),(.int .i64 t28)] (.one aB) fun (t29:Bool)=>dY [aS] (cond t29 (aR r19 0 fun t31=>bV 134 [(.pointer t5),(.int .i64 t31)] (.one aB) fun (t32:Bool)=>cF [(sv z15.2.1)]) (aK c_2 0 fun t33=>deref t33 fun a34=>aL a34 7 fun t35=>aR r19 0 fun t36=>aK c_2 0 fun t37=>deref t37 fun a38=>bM a38 fun t39=>deref t35.1 fun a40=>chk (0≤(bT .i64 (t36 - (t39.2.1:Int)))∧(bT .i64 (t36 - (t39.2.1:Int))) < (t35.2.1:Nat))<|bL a40 (bT .i64 (t36 - (t39.2.1:Int))) 1 fun t41=>dY [aS] (cond t41 (aK c_2 0 fun t43=>deref t43 fun a44=>bP a44 12 fun t45=>aR r19 0 fun t46=>dP (dW 135 (.map t45) (.agg #[(.int .i64 to_1),(.int .i64 t46)]) false) (.one aI) fun (t47:Int)=>aD #[(.int .i64 t47)] 3 fun r48=>dP (cK #[30,30] 30 #[(sv z15.2.1),(.slice (some ⟨r48,0,none⟩) 1 1)]) (.one aS) fun (t49:Slc)=>cF [(sv t49)]) (cF [(sv z15.2.1)])) fun (z42:Slc×Unit)=>cF [(sv z42.1)])) fun (z30:Slc×Unit)=>cF [(.int .i64 (wN z15.1)),(sv z30.1)]) (eB 0 [(.int .i64 z15.1),(sv z15.2.1)])) fun (z14:Int×Slc×Unit)=>aA c_3 0 fun t50=>aA c_4 0 fun t51=>fR (aD #[(.pointer t5)] 139 fun r52=>aY c_4 0 t51<|aY c_3 0 t50<|fR (dP (cK #[195,195] 195 #[(sv t50),(.slice (some ⟨r52,0,none⟩) 1 1)]) (.one aS) fun (t53:Slc)=>aY c_4 0 t51<|aD #[(sv z14.2.1)] 30 fun r54=>aY c_4 0 t51<|dP (cK #[97,97] 97 #[(sv t51),(.slice (some ⟨r54,0,none⟩) 1 1)]) (.one aS) fun (t55:Slc)=>aF c_3 0 t53<|aF c_4 0 t55<|dK (.tuple #[])) (aD #[(sv z14.2.1)] 30 fun r56=>aY c_4 0 t51<|aY c_3 0 t50<|dP (cK #[195,195] 195 #[(sv t50),(.slice (some ⟨r52,0,none⟩) 1 1)]) (.one aS) fun (t57:Slc)=>aY c_4 0 t51<|dP (cK #[97,97] 97 #[(sv t51),(.slice (some ⟨r56,0,none⟩) 1 1)]) (.one aS) fun (t58:Slc)=>aF c_3 0 t57<|aF c_4 0 t58<|dK (.tuple #[]))) (aD #[(sv z14.2.1)] 30 fun r59=>aY c_4 0 t51<|aY c_3 0 t50<|aD #[(.pointer t5)] 139 fun r60=>aY c_4 0 t51<|aY c_3 0 t50<|dP (cK #[195,195] 195 #[(sv t50),(.slice (some ⟨r60,0,none⟩) 1 1)]) (.one aS) fun (t61:Slc)=>aY c_4 0 t51<|dP (cK #[97,97] 97 #[(sv t51),(.slice (some ⟨r59,0,none⟩) 1 1)]) (.one aS) fun (t62:Slc)=>aF c_3 0 t61<|aF c_4 0 t62<|dK (.tuple #[]))
theorem Il (s_0:Int×Int×Unit) (to_1:Int) (c_2:Nat) (c_3:Nat) (c_4:Nat):AZ bW Tryz.f137 [(.agg #[(.int .i64 s_0.1),(.int .i64 s_0.2.1)]),(.int .i64 to_1),(.pointer (some ⟨c_2,0,none⟩)),(.pointer (some ⟨c_3,0,none⟩)),(.pointer (some ⟨c_4,0,none⟩))] =D9 s_0 to_1 c_2 c_3 c_4:=by kernel_rfl
noncomputable def FX (l_0:Option Addr):T:=deref l_0 fun a1=>aL a1 11 fun t2=>dP (fD 97 (.int .i64 (t2.2.1:Int)) (.int .i64 (t2.2.1:Int))) (.one aS) fun (t3:Slc)=>deref l_0 fun a4=>aL a4 11 fun t5=>cZ 0 [aI] (dQ [aI] [(.int .i64 0)] fun (z7:Int×Unit)=>cond (decide (z7.1< (t5.2.1:Int))) (deref t5.1 fun a8=>chk (0≤z7.1∧z7.1< (t5.2.1:Nat))<|aJ a8 z7.1 2 fun t9=>aQ a8 z7.1 2 1 fun t10=>aD #[(.int .i64 0),(.int .i64 0)] 224 fun r11=>aT r11 0 t9<|aT r11 1 t10<|deref l_0 fun a12=>aL a12 2 fun t13=>cZ 2 [aI] (dQ [aI] [(.int .i64 0)] fun (z15:Int×Unit)=>cond (decide (z15.1< (t13.2.1:Int))) (cZ 3 [] (deref t13.1 fun a17=>chk (0≤z15.1∧z15.1< (t13.2.1:Nat))<|aJ a17 z15.1 3 fun t18=>aM a17 z15.1 3 1 fun t19=>aQ a17 z15.1 3 2 fun t20=>aD #[(.int .i64 0),(.slice none 0 0),(.int .i64 0)] 65 fun r21=>aT r21 0 t18<|aF r21 1 t19<|aT r21 2 t20<|aR r21 0 fun t22=>aR r11 1 fun t23=>cond (t22 !=t23) (eB 3 []) (aR r11 0 fun t24=>aA r21 1 fun t25=>cZ 4 [aI,aI] (dQ [aI,aI] [(.int .i64 0),(.int .i64 t24)] fun (z27:Int×Int×Unit)=>cond (decide (z27.1< (t25.2.1:Int))) (deref t25.1 fun a28=>chk (0≤z27.1∧z27.1< (t25.2.1:Nat))<|aJ a28 z27.1 1 fun t29=>deref l_0 fun a30=>aL a30 7 fun t31=>bM ((a30.add 7).add 1) fun t32=>bM ((a30.add 7).add 2) fun t33=>bE ((a30.add 7).add 3) fun t34=>deref l_0 fun a35=>M6 a35 fun t36 t37 t38 t39 t40 t41=>aA r21 1 fun t42=>chk (0≤(wN z27.1)∧(wN z27.1) ≤(t42.2.1:Int)∧(t42.2.1:Int) ≤(t42.2.2:Nat))<|bV 146 [(.agg #[(sv t31),(sv t32),(sv t33),(.int .i64 t34)]),(aH t36 t37 t38 t39 t40 t41),(.slice (if t42.2.2=cT (wN z27.1) then t42.1 else Option.map (fun x=>Addr.add x (cT (wN z27.1) *1)) t42.1) (cT (t42.2.1:Int) - cT (wN z27.1)) (t42.2.2 - cT (wN z27.1)))] (.tuple [aS,aB]) fun (t43:Slc×Bool×Unit)=>dY [aB] (cond t43.2.1 (deref l_0 fun a45=>M6 a45 fun t46 t47 t48 t49 t50 t51=>bV 86 [(aH t46 t47 t48 t49 t50 t51),(.int .i64 t29)] (.one aB) fun (t52:Bool)=>cF [(.bool (!t52))]) (cF [(.bool false)])) fun (z44:Bool×Unit)=>dY [] (cond z44.1 (deref l_0 fun a54=>bP a54 12 fun t55=>dP (dW 135 (.map t55) (.agg #[(.int .i64 z27.2.1),(.int .i64 t29)]) false) (.one aI) fun (t56:Int)=>deref t3.1 fun a57=>chk (0≤t56∧t56< (t3.2.1:Nat))<|aC a57 t56 1 fun t58=>aD #[(.int .i64 z7.1)] 3 fun r59=>dP (cK #[30,30] 30 #[(sv t58),(.slice (some ⟨r59,0,none⟩) 1 1)]) (.one aS) fun (t60:Slc)=>deref t3.1 fun a61=>chk (0≤t56∧t56< (t3.2.1:Nat))<|fS (a61.add (cT t56 *1)) (sv t60)<|cF []) (cF [])) fun (z53:Unit)=>deref l_0 fun a62=>bN a62 6 fun t63=>bV 41 [(.pointer t63),(.int .i64 z27.2.1),(.int .i64 t29)] (.one aI) fun (t64:Int)=>cF [(.int .i64 (wN z27.1)),(.int .i64 t64)]) (eB 4 [(.int .i64 z27.1),(.int .i64 z27.2.1)])) fun (z26:Int×Int×Unit)=>cF [])) fun (z16:Unit)=>cF [(.int .i64 (wN z15.1))]) (eB 2 [(.int .i64 z15.1)])) fun (z14:Int×Unit)=>cF [(.int .i64 (wN z7.1))]) (eB 0 [(.int .i64 z7.1)])) fun (z6:Int×Unit)=>dK (sv t3)
theorem II (l_0:Option Addr):AZ bW Tryz.f112 [(.pointer l_0)] =FX l_0:=by kernel_rfl
noncomputable def HY (l_0:Option Addr) (follow_1_p:Option Addr) (follow_1_n follow_1_c:Nat):T:=deref l_0 fun a1=>aL a1 11 fun t2=>cZ 0 [aI] (dQ [aI] [(.int .i64 0)] fun (z4:Int×Unit)=>cond (decide (z4.1< (t2.2.1:Int))) (deref t2.1 fun a5=>chk (0≤z4.1∧z4.1< (t2.2.1:Nat))<|aJ a5 z4.1 2 fun t6=>aQ a5 z4.1 2 1 fun t7=>aD #[(.int .i64 0),(.int .i64 0)] 224 fun r8=>aT r8 0 t6<|aT r8 1 t7<|deref l_0 fun a9=>aL a9 2 fun t10=>cZ 2 [aI] (dQ [aI] [(.int .i64 0)] fun (z12:Int×Unit)=>cond (decide (z12.1< (t10.2.1:Int))) (cZ 3 [] (deref t10.1 fun a14=>chk (0≤z12.1∧z12.1< (t10.2.1:Nat))<|aJ a14 z12.1 3 fun t15=>aM a14 z12.1 3 1 fun t16=>aQ a14 z12.1 3 2 fun t17=>aD #[(.int .i64 0),(.slice none 0 0),(.int .i64 0)] 65 fun r18=>aT r18 0 t15<|aF r18 1 t16<|aT r18 2 t17<|aR r18 0 fun t19=>aR r8 1 fun t20=>cond (t19 !=t20) (eB 3 []) (deref l_0 fun a21=>bN a21 6 fun t22=>aR r8 0 fun t23=>aA r18 1 fun t24=>fR (bV 72 [(.pointer t22),(.int .i64 t23),(sv t24)] (.one aI) fun (t25:Int)=>aD #[(.int .i64 0),(.int .i64 0)] 141 fun r26=>aT r26 0 t25<|aT r26 1 z12.1<|deref l_0 fun a27=>bP a27 13 fun t28=>aR r26 0 fun t29=>aR r26 1 fun t30=>dP (dW 136 (.map t28) (.agg #[(.int .i64 t29),(.int .i64 t30)]) false) (.one aP) fun (t31:Option Addr)=>dY [] (cond (fN t31) (deref l_0 fun a33=>bP a33 13 fun t34=>aR r26 0 fun t35=>aR r26 1 fun t36=>deref l_0 fun a37=>bM a37 fun t38=>bV 138 [(.int .i64 (t38.2.1:Int))] (.one aP) fun (t39:Option Addr)=>bQ r26 0 t35<|bQ r26 1 t36<|dZ (a33.add 13) (.map t34)<|dP (gJ (eN 136 (.map t34) (.agg #[(.int .i64 t35),(.int .i64 t36)]) (.pointer t39)) fun _=>.pure undef) (.tuple []) fun (u40:Unit)=>cF []) (cF [])) fun (z32:Unit)=>deref l_0 fun a41=>bP a41 13 fun t42=>aR r26 0 fun t43=>aR r26 1 fun t44=>deref follow_1_p fun a45=>chk (0≤z4.1∧z4.1< (follow_1_n:Nat))<|bJ a45 z4.1 1 fun t46=>dP (dW 136 (.map t42) (.agg #[(.int .i64 t43),(.int .i64 t44)]) false) (.one aP) fun (t47:Option Addr)=>dZ (a45.add (cT z4.1 *1)) (.pointer t46)<|bV 139 [(.pointer t47),(.pointer t46)] (.one aB) fun (t48:Bool)=>cF []) (aD #[(.int .i64 0),(.int .i64 0)] 141 fun r49=>aY r18 1 t24<|bQ r8 0 t23<|dZ (a21.add 6) (.pointer t22)<|bV 72 [(.pointer t22),(.int .i64 t23),(sv t24)] (.one aI) fun (t50:Int)=>aT r49 0 t50<|aT r49 1 z12.1<|deref l_0 fun a51=>bP a51 13 fun t52=>aR r49 0 fun t53=>aR r49 1 fun t54=>dP (dW 136 (.map t52) (.agg #[(.int .i64 t53),(.int .i64 t54)]) false) (.one aP) fun (t55:Option Addr)=>dY [] (cond (fN t55) (deref l_0 fun a57=>bP a57 13 fun t58=>aR r49 0 fun t59=>aR r49 1 fun t60=>deref l_0 fun a61=>bM a61 fun t62=>bV 138 [(.int .i64 (t62.2.1:Int))] (.one aP) fun (t63:Option Addr)=>bQ r49 0 t59<|bQ r49 1 t60<|dZ (a57.add 13) (.map t58)<|dP (gJ (eN 136 (.map t58) (.agg #[(.int .i64 t59),(.int .i64 t60)]) (.pointer t63)) fun _=>.pure undef) (.tuple []) fun (u64:Unit)=>cF []) (cF [])) fun (z56:Unit)=>deref l_0 fun a65=>bP a65 13 fun t66=>aR r49 0 fun t67=>aR r49 1 fun t68=>deref follow_1_p fun a69=>chk (0≤z4.1∧z4.1< (follow_1_n:Nat))<|bJ a69 z4.1 1 fun t70=>dP (dW 136 (.map t66) (.agg #[(.int .i64 t67),(.int .i64 t68)]) false) (.one aP) fun (t71:Option Addr)=>dZ (a69.add (cT z4.1 *1)) (.pointer t70)<|bV 139 [(.pointer t71),(.pointer t70)] (.one aB) fun (t72:Bool)=>cF []))) fun (z13:Unit)=>cF [(.int .i64 (wN z12.1))]) (eB 2 [(.int .i64 z12.1)])) fun (z11:Int×Unit)=>cF [(.int .i64 (wN z4.1))]) (eB 0 [(.int .i64 z4.1)])) fun (z3:Int×Unit)=>deref l_0 fun a73=>bN a73 6 fun t74=>bV 20 [(.pointer t74)] (.one aI) fun (t75:Int)=>cZ 4 [aI] (dQ [aI] [(.int .i64 0)] fun (z77:Int×Unit)=>cond (decide (z77.1<t75)) (bV 71 [(.pointer l_0),(.int .i64 z77.1),(.int .i64 0)] (.one aB) fun (t78:Bool)=>dY [] (cond t78 (deref l_0 fun a80=>bP a80 13 fun t81=>deref l_0 fun a82=>bM a82 fun t83=>aD #[(.int .i64 0)] 3 fun r84=>dZ a82 (sv t83)<|dZ (a80.add 13) (.map t81)<|bV 140 [(.int .i64 (t83.2.1:Int)),(.slice (some ⟨r84,0,none⟩) 1 1)] (.one aP) fun (t85:Option Addr)=>dZ (a80.add 13) (.map t81)<|dP (gJ (eN 136 (.map t81) (.agg #[(.int .i64 z77.1),(.int .i64 0)]) (.pointer t85)) fun _=>.pure undef) (.tuple []) fun (u86:Unit)=>cF []) (cF [])) fun (z79:Unit)=>cF [(.int .i64 (wN z77.1))]) (eB 4 [(.int .i64 z77.1)])) fun (z76:Int×Unit)=>dK (.tuple #[])
theorem Km (l_0:Option Addr) (follow_1_p:Option Addr) (follow_1_n follow_1_c:Nat):AZ bW Tryz.f110 [(.pointer l_0),(.slice follow_1_p follow_1_n follow_1_c)] =HY l_0 follow_1_p follow_1_n follow_1_c:=by kernel_rfl
noncomputable def HZ (l_0:Option Addr) (state_1:Int) (rule_2:Int):T:=dY [aB] (cond (decide (rule_2< 0)) (cF [(.bool true)]) (deref l_0 fun a2=>aL a2 2 fun t3=>cF [(.bool (decide (rule_2≥ (t3.2.1:Int))))])) fun (z1:Bool×Unit)=>cond z1.1 (dK (.bool false)) (deref l_0 fun a4=>bN a4 6 fun t5=>deref l_0 fun a6=>aL a6 2 fun t7=>deref t7.1 fun a8=>chk (0≤rule_2∧rule_2< (t7.2.1:Nat))<|aM a8 rule_2 3 1 fun t9=>bV 32 [(.pointer t5),(.int .i64 state_1)] (.one aS) fun (t10:Slc)=>dZ ((a8.add (cT rule_2 *3)).add 1) (sv t9)<|dZ (a6.add 2) (sv t7)<|bV 115 [(sv t10),(.agg #[(.int .i64 rule_2),(.int .i64 (t9.2.1:Int))])] (.one aB) fun (t11:Bool)=>dK (.bool t11))
theorem Kn (l_0:Option Addr) (state_1:Int) (rule_2:Int):AZ bW Tryz.f71 [(.pointer l_0),(.int .i64 state_1),(.int .i64 rule_2)] =HZ l_0 state_1 rule_2:=by kernel_rfl
noncomputable def Ha (l_0:Option Addr) (state_1:Int):T:=deref l_0 fun a1=>bN a1 6 fun t2=>bV 32 [(.pointer t2),(.int .i64 state_1)] (.one aS) fun (t3:Slc)=>cZ 0 [aI,aS] (dQ [aI,aS] [(.int .i64 0),(.slice none 0 0)] fun (z5:Int×Slc×Unit)=>cond (decide (z5.1< (t3.2.1:Int))) (deref t3.1 fun a6=>chk (0≤z5.1∧z5.1< (t3.2.1:Nat))<|aJ a6 z5.1 2 fun t7=>aQ a6 z5.1 2 1 fun t8=>aD #[(.int .i64 0),(.int .i64 0)] 70 fun r9=>aT r9 0 t7<|aT r9 1 t8<|aR r9 1 fun t10=>deref l_0 fun a11=>aL a11 2 fun t12=>aR r9 0 fun t13=>deref t12.1 fun a14=>chk (0≤t13∧t13< (t12.2.1:Nat))<|aM a14 t13 3 1 fun t15=>dY [aS] (cond (t10==(t15.2.1:Int)) (aR r9 0 fun t17=>aD #[(.int .i64 t17)] 3 fun r18=>dP (cK #[30,30] 30 #[(sv z5.2.1),(.slice (some ⟨r18,0,none⟩) 1 1)]) (.one aS) fun (t19:Slc)=>cF [(sv t19)]) (cF [(sv z5.2.1)])) fun (z16:Slc×Unit)=>cF [(.int .i64 (wN z5.1)),(sv z16.1)]) (eB 0 [(.int .i64 z5.1),(sv z5.2.1)])) fun (z4:Int×Slc×Unit)=>dK (sv z4.2.1)
theorem Ko (l_0:Option Addr) (state_1:Int):AZ bW Tryz.f22 [(.pointer l_0),(.int .i64 state_1)] =Ha l_0 state_1:=by kernel_rfl
noncomputable def I3 (l_0:Option Addr) (state_1:Int) (rule_2:Int):T:=deref l_0 fun a1=>bP a1 13 fun t2=>dP (dW 136 (.map t2) (.agg #[(.int .i64 state_1),(.int .i64 rule_2)]) false) (.one aP) fun (t3:Option Addr)=>cond (fN t3) (dK (.slice none 0 0)) (bV 70 [(.pointer t3)] (.one aS) fun (t4:Slc)=>dK (sv t4))
theorem MI (l_0:Option Addr) (state_1:Int) (rule_2:Int):AZ bW Tryz.f24 [(.pointer l_0),(.int .i64 state_1),(.int .i64 rule_2)] =I3 l_0 state_1 rule_2:=by kernel_rfl
end Go.Proofs.YteolcjbobmpdiaaGreatDoor
namespace Go.Proofs.YteolcjbobmpdiaaGreatDoor
open Go Go.Eng Dg
set_option linter.unusedVariables false
set_option maxRecDepth 100000
structure PlK (φ:AE) (t:Slc×Slc×Slc×Slc×Slc×Slc×Unit) (p:dtP):Prop where
 k0:Ro.SliceIs gO φ t.1 p.1
 k1:Ro.SliceIs gO φ t.2.1 p.2.1
 k2:Ro.SliceIs B4 φ t.2.2.1 p.2.2.1
 k3:Ro.SliceIs (cG .i64) φ t.2.2.2.1 p.2.2.2.1
 k4:Ro.SliceIs (cG .i64) φ t.2.2.2.2.1 p.2.2.2.2.1
 k5:Ro.SliceIs gO φ t.2.2.2.2.2.1 p.2.2.2.2.2
theorem PlK.mono {φ ψ:AE}{t:Slc×Slc×Slc×Slc×Slc×Slc×Unit}{p:dtP}(H:PlK φ t p) (hs:Sub φ ψ):PlK ψ t p:=
 ⟨H.k0.mono hs,H.k1.mono hs,H.k2.mono hs,H.k3.mono hs,H.k4.mono hs,H.k5.mono hs⟩
abbrev plV (t:Slc×Slc×Slc×Slc×Slc×Slc×Unit):List Value:=[sv t.1,sv t.2.1,sv t.2.2.1,sv t.2.2.2.1,sv t.2.2.2.2.1,sv t.2.2.2.2.2.1]
structure FsK (φ:AE) (a:Addr) (t:Slc×Slc×Slc×Slc×Slc×Slc×Unit) (n f g:Slc) (p:dtP) (ps qs:List (Option Addr)):Prop where
 cells:DO φ (some a) (plV t++ [sv n,sv f,sv g])
 pl:PlK φ t p
 kf:Ro.SliceIs fI φ f ps
 kg:Ro.SliceIs fI φ g qs
section
variable {φ ψ:AE}{h:AH}{F:List Chk}{a:Addr}{t:Slc×Slc×Slc×Slc×Slc×Slc×Unit}{n f g:Slc}{p:dtP}{ps qs:List (Option Addr)}
theorem FsK.mono (H:FsK φ a t n f g p ps qs) (hs:Sub φ ψ):FsK ψ a t n f g p ps qs:=⟨H.cells.mono hs,H.pl.mono hs,H.kf.mono hs,H.kg.mono hs⟩
theorem FsK.at (H:FsK φ a t n f g p ps qs) (st:St φ F h) {j:Nat}{v:Value}(hv:(plV t++ [sv n,sv f,sv g])[j]? =some v):Bg h (a.add j)=some v:=AC st.sub (H.cells.at j hv)
theorem QJ {K:Bool→T}{P:Bv→AH→Prop}(cells:∀j v,(plV t)[j]? =some v→Bg h (a.add j)=some v) (k:PlK φ t p) (st:St φ F h) {s:Int}{r:Bool}(hd:BT p s=some r)
 (hk:∀ψ h',Sub φ ψ→St ψ F h'→(K r).wp bW P h'):
 (dB .slice a fun (t6:Slc)=>dB .slice (a.add 1) fun (t7:Slc)=>dB .slice (a.add 2) fun (t8:Slc)=>dB .slice (a.add 3) fun (t9:Slc)=>dB .slice (a.add 4) fun (t10:Slc)=>dB .slice (a.add 5) fun (t11:Slc)=>
  bV 86 [(.agg #[(sv t6),(sv t7),(sv t8),(sv t9),(sv t10),(sv t11)]),(.int .i64 s)] (.one aB) K).wp bW P h:=by
 have e0:a.add 0=a:=by cases a;rfl
 refine AF (x:=t.1) (by have:=cells 0 _ rfl;rwa [e0]at this) rfl<|AF (x:=t.2.1) (cells 1 _ rfl) rfl<|AF (x:=t.2.2.1) (cells 2 _ rfl) rfl<|AF (x:=t.2.2.2.1) (cells 3 _ rfl) rfl<|AF (x:=t.2.2.2.2.1) (cells 4 _ rfl) rfl<|AF (x:=t.2.2.2.2.2.1) (cells 5 _ rfl) rfl<|AJ (Dy (p_0:=t) k.k0 k.k1 k.k2 k.k3 k.k4 k.k5 st hd) ?_;rintro _ h1 ⟨ψ,y,le,rfl,rfl,s1⟩;exact ⟨y,rfl,hk ψ h1 le s1⟩
theorem FsK.pv (H:FsK φ a t n f g p ps qs) (st:St φ F h):∀j v,(plV t)[j]? =some v→Bg h (a.add j)=some v:=fun j v hv=>H.at st (by
 rw [bX (List.getElem?_eq_some_iff.1 hv).1];exact hv)
theorem add_zero (a:Addr):a.add 0=a:=by cases a;rfl
theorem OI (H:FsK φ a t n f g p ps qs) (st:St φ F h) (s:Int):
 CallsH bW 160 [.pointer (some a),.int .i64 s] h (Ap fun v h'=>v=((.one aI):Sh).val (bT .i64 (s - nT p))∧St φ F h'):=by
 refine AR mixed Tryz.func160 ?_;rw [MH];unfold I2;refine AG _ rfl (AF (x:=t.1) (by have:=H.at st (j:=0) rfl;rwa [add_zero]at this) rfl ?_);have e:t.1.2.1=p.1.length:=H.pl.k0.length;rw [e];exact AB ⟨rfl,st⟩
theorem V6 {α:Type}{l:List α}{k:Nat}{x:α}(h:idx l (k:Int)=some x):l[k]? =some x:=by rw [DE]at h;exact h
theorem Si {ps qs:List (Option Addr)}{k:Nat}{q:Option Addr}(h:ps[k]? =some q):(ps++qs)[k]? =some q:=by rw [bX (List.getElem?_eq_some_iff.1 h).1];exact h
abbrev fsC (n:Slc) (null:List Bool) (ps:List (Option Addr)) (ss:List AX) (F:List Chk):List Chk:=cR 4 eO n null::(AS ps ss++F)
set_option maxHeartbeats 1000000 in
theorem OK (gk:Dg.Glob φ) (K:FsK φ a t n f g p ps qs) {sq:Slc}{seq:List Int}(ks:Ro.SliceIs (cG .i64) φ sq seq) {null:List Bool}{ss:List AX}{x:Nat}{q:Option Addr}(hq:(ps++qs)[x]? =some q) (hl:(ps++qs).length=ss.length) {r:Bool×Bool×List AX}
 (hd:KU p (ps.length:Int) null (x:Int) ss seq=some r) (s0:St φ (fsC n null (ps++qs) ss F) h):
 CallsH bW 161 [.pointer (some a),sv sq,.func (.func 139) #[.pointer q] #[]] h (Ap fun v h'=>∃ψ:AE,Sub φ ψ∧v=((.tuple [aB,aB]):Sh).val (r.1,r.2.1,())∧r.2.2.length=ss.length∧St ψ (fsC n null (ps++qs) r.2.2 F) h'):=by
 refine AR mixed Tryz.func161 ?_;rw [IH];unfold FW;unfold KU at hd;have nk:=ks.length;obtain ⟨g3,hx4,hd⟩:=bS hd;refine Av (fun (y:Int×Bool×Bool×Unit) w g=>∃(ψ:AE) (ss':List AX),Sub φ ψ∧g=fQ (y.2.2.1,ss')∧ss'.length=ss.length∧St ψ (fsC n null (ps++qs) ss' F) w) (g:=g3) ?_ ?_
 ·refine Nc hx4 (fun i (y:Int×Bool×Bool×Unit) w g=>∃(ψ:AE),Sub φ ψ∧y.1=i∧y.2.2.1=g.1∧g.2.length=ss.length∧St ψ (fsC n null (ps++qs) g.2 F) w) ((0:Int),false,false,()) rfl ⟨φ,cP _,rfl,rfl,rfl,s0⟩ ?_ ?_
  ·rintro i z w ⟨gr,s1⟩ e ⟨ψ,le,rfl,hg,hl1,st⟩ he h0 hlt hw hb;dsimp only at hg hl1 st he;subst hg;refine Aj (by rw [nk];exact decide_eq_true hlt) ?_;obtain ⟨sym,hs1,he⟩:=bS he;obtain ⟨tm,ht1,he⟩:=bS he;obtain ⟨A1,cs1,ea1,hi1,r1,cl1⟩:=(ks.mono le).get hs1;refine AG _ ea1 (Ab hi1 ?_);obtain rfl:=r1;refine AF (x:=sym) (AC st.sub (cl1 0 _ rfl)) rfl<|AG _ rfl (QJ ((K.mono le).pv st) (K.mono le).pl st ht1 ?_);intro ψ1 h1 le1 st1;have le':=le.trans le1;refine AI he rfl (fun _ he=> ?_) (fun _ he=> ?_)
   ·obtain ⟨o,ho,he⟩:=bS he;obtain ⟨u,hu,he⟩:=bS he;obtain rfl:=iS he;obtain rfl:=hb _ rfl;obtain rfl:=iS hd;unfold XH at hu;obtain ⟨s,hs,hu⟩:=bS hu;obtain ⟨ok,hu⟩:=Bq hu;obtain rfl:=iS hu;refine Af (fun (y:Bool×Bool×Unit) w (_:Unit)=>y=(FC s o || z.2.2.1,false,())∧ ∃ψ,Sub φ ψ∧St ψ (fsC n null (ps++qs) (s1.set x (BS s o)) F) w) (g:=()) ?_ ?_
    ·refine AG _ rfl<|AF (x:=t.1) (by have:=(K.mono le').at st1 (j:=0) rfl;rwa [add_zero]at this) rfl<|AT (vs:=[.int .i64 sym]) st1 ?_;intro r16 h2 st2;have st3:=St.lit (r:=cG .i64) (l:=[sym]) (n:=1) st2 (.cons (a:=[_]) rfl .nil) rfl (by decide);obtain ⟨ψ2,le2,k2,st4⟩:=dX (t:=(some ⟨r16,0,none⟩,1,1)) st3;have e:t.1.2.1=p.1.length:=K.pl.k0.length;rw [e];refine AJ (EV k2 st4 ho) ?_;rintro _ h3 ⟨ψ3,p',l3,le3,rfl,rfl,st5⟩;refine ⟨p',rfl,?_⟩;have st6:St ψ3 (Bc p' l3::(AS (ps++qs) s1++(cR 4 eO n null::F))) h3:=st5.perm (cA _ (bZ (l₁:=AS (ps++qs) s1)).symm);refine AJ (RC (gk.mono ((le'.trans le2).trans le3)) (V6 hs) hq ok st6) ?_;rintro _ h4 ⟨ψ4,le4,rfl,st7⟩;refine ⟨_,rfl,?_⟩;have st8:St ψ4 (fsC n null (ps++qs) (s1.set x (BS s l3)) F) h4:=st7.tail.perm (bZ (l₁:=AS (ps++qs) (s1.set x (BS s l3))));cases hgr:FC s l3
     ·exact Aa rfl (AN (z.2.2.1,false,()) rfl ⟨by simp,ψ4,((le'.trans le2).trans le3).trans le4,st8⟩)
     ·exact Aj rfl (AN (true,false,()) rfl ⟨by simp,ψ4,((le'.trans le2).trans le3).trans le4,st8⟩)
    ·rintro y h5 ⟨rfl,ψ5,le5,st9⟩;exact Ak (Ai (AB ⟨ψ5,le5,rfl,by simp [hl1],st9⟩))
   ·obtain ⟨hm,he⟩:=Bq he;obtain ⟨u,hu,he⟩:=bS he;obtain ⟨b,hb1,he⟩:=bS he;unfold UP at hu;obtain ⟨s,hs,hu⟩:=bS hu;obtain ⟨o,ho,hu⟩:=bS hu;obtain ⟨ok,hu⟩:=Bq hu;obtain rfl:=iS hu;obtain ⟨y0,y1,y2⟩:=Ci ho;obtain ⟨k,hk⟩:∃k:Nat,bT .i64 (sym - nT p)=(k:Int):=⟨_,(cV y0).symm⟩;have hkp:k<ps.length:=by omega
    have hpk:ps[k]? =some ps[k]:=bR hkp;rw [hk]at ho hb1;refine Af (fun (y:Bool×Unit) w (_:Unit)=>y=(FC s o || z.2.2.1,())∧ ∃ψ,Sub φ ψ∧St ψ (fsC n null (ps++qs) (s1.set x (BS s o)) F) w) (g:=()) ?_ ?_
    ·refine AG _ rfl<|AF (x:=f) ((K.mono le').at st1 (j:=7) rfl) rfl<|AJ (OI (K.mono le') st1 sym) ?_;rintro _ h2 ⟨rfl,st2⟩;refine ⟨_,rfl,?_⟩;refine AM ((K.mono le').at st2 (j:=7) rfl) ?_;rw [hk];obtain ⟨A2,cs2,ea2,hi2,r2,cl2⟩:=((K.mono le').kf).get (i:=(k:Int)) (by rw [DE];exact hpk);refine AG _ ea2 (Ab hi2 ?_);obtain rfl:=r2;refine AF (x:=ps[k]) (AC st2.sub (cl2 0 _ rfl)) rfl ?_;have st3:St ψ1 (AS (ps++qs) s1++(cR 4 eO n null::F)) h2:=st2.perm (bZ (l₁:=AS (ps++qs) s1)).symm;refine AJ (TH (gk.mono le') (V6 hs) (V6 ho) hq (Si hpk) ok st3) ?_;rintro _ h3 ⟨ψ4,le4,rfl,st4⟩;refine ⟨_,rfl,?_⟩;have st8:St ψ4 (fsC n null (ps++qs) (s1.set x (BS s o)) F) h3:=st4.perm (bZ (l₁:=AS (ps++qs) (s1.set x (BS s o))));cases hgr:FC s o
     ·exact Aa rfl (AN (z.2.2.1,()) rfl ⟨by simp,ψ4,le'.trans le4,st8⟩)
     ·exact Aj rfl (AN (true,()) rfl ⟨by simp,ψ4,le'.trans le4,st8⟩)
    ·rintro y h5 ⟨rfl,ψ5,le5,st9⟩;refine AG _ rfl<|AF (x:=n) ((K.mono le5).at st9 (j:=6) rfl) rfl<|AJ (OI (K.mono le5) st9 sym) ?_;rintro _ h6 ⟨rfl,st10⟩;refine ⟨_,rfl,?_⟩;refine AM ((K.mono le5).at st10 (j:=6) rfl) ?_;rw [hk];obtain ⟨A2,cs2,ea2,hi2,r2,cl2⟩:=st10.get hb1;refine AG _ ea2 (Ab hi2 ?_);obtain rfl:=r2;refine AF (x:=b) (cl2 0 _ rfl) rfl ?_;cases b
     ·obtain rfl:=iS he;obtain rfl:=hb _ rfl;obtain rfl:=iS hd;refine Aj rfl<|Ak (Ai (AB ⟨ψ5,le5,rfl,by simp [hl1],st10⟩))
     ·obtain rfl:=iS he;refine Aa rfl<|Ag (bT .i64 (z.1+(1:Int)),z.2.1,FC s o || z.2.2.1,()) _ rfl rfl ⟨ψ5,le5,hw,rfl,by simp [hl1],st10⟩
  ·rintro i z w ⟨gr,s1⟩ ⟨ψ,le,rfl,hg,hl1,st⟩ hge hr;subst hr;dsimp only at hg hl1 st;refine Aa (by rw [nk];exact decide_eq_false (Int.not_lt.2 hge))<|AO (AQ z rfl ⟨ψ,s1,le,by rw [hg],hl1,st⟩)
 ·rintro z h1 ⟨ψ,ss',le,rfl,hl1,st⟩;obtain rfl:=iS hd;exact AB ⟨ψ,le,rfl,hl1,st⟩
end
section
variable {φ ψ:AE}{h:AH}{F:List Chk}{a:Addr}{t:Slc×Slc×Slc×Slc×Slc×Slc×Unit}{n f g:Slc}{p:dtP}{ps qs:List (Option Addr)}
theorem NO {R:Slc}{rs:List BP}{i:Int}{r:BP}{K:Nat→T}{P:Bv→AH→Prop}(k:Ro.SliceIs B4 φ R rs) (hr:idx rs i=some r) (st:St φ F h)
 (hk:∀(r9:Nat) (u:Slc) (h':AH),Ro.SliceIs (cG .i64) φ u r.2.1→St φ (⟨eZ 65,[.pointer (some ⟨r9,0,none⟩)],[.int .i64 r.1,sv u,.int .i64 r.2.2]⟩::F) h'→(K r9).wp bW P h'):
 (deref R.1 fun a5=>chk (0≤i∧i< (R.2.1:Nat))<|dB (.int .i64) (a5.add (cT i *3)) fun (t6:Int)=>dB .slice ((a5.add (cT i *3)).add 1) fun (t7:Slc)=>dB (.int .i64) ((a5.add (cT i *3)).add 2) fun (t8:Int)=>
  fU (.cells #[(.int .i64 (0:Int)),(.slice none 0 0),(.int .i64 (0:Int))] 65 (0,0)) fun r9=>fS ⟨r9,0,none⟩ (.int .i64 t6)<|fS ⟨r9,1,none⟩ (sv t7)<|fS ⟨r9,2,none⟩ (.int .i64 t8)<|K r9).wp bW P h:=by
 obtain ⟨A1,cs1,ea1,hi1,q1,cl1⟩:=k.get hr;refine AG _ ea1 (Ab hi1 ?_);obtain ⟨_,_,rfl,rfl,⟨_,_,rfl,⟨u,rfl,ku⟩,rfl⟩⟩:=q1;refine AF (x:=r.1) (AC st.sub (cl1 0 _ rfl)) rfl<|AF (x:=u) (by rw [AV];exact AC st.sub (cl1 1 _ rfl)) rfl<|AF (x:=r.2.2) (by rw [AV];exact AC st.sub (cl1 2 _ rfl)) rfl<|AT (vs:=[.int .i64 0,.slice none 0 0,.int .i64 0]) st ?_;intro r9 h1 s1;refine Cj (b:=r9) (j:=0) (v:=.int .i64 r.1) s1 rfl (by simp) ?_;intro h2 s2;refine Cj (b:=r9) (j:=1) (v:=sv u) s2 rfl (by simp) ?_;intro h3 s3;refine Cj (b:=r9) (j:=2) (v:=.int .i64 r.2.2) s3 rfl (by simp) ?_;intro h4 s4;exact hk r9 u h4 ku s4
set_option maxHeartbeats 1000000 in
theorem UT (gk:Dg.Glob φ) (K:FsK φ a t n f g p ps qs) {null:List Bool}{ss:List AX}(hl:(ps++qs).length=ss.length) {r:Bool×List Bool×List AX}
 (hd:OF p (ps.length:Int) null ss=some r) (s0:St φ (fsC n null (ps++qs) ss F) h):
 CallsH bW 133 [.pointer (some a)] h (Ap fun v h'=>∃ψ:AE,Sub φ ψ∧v=((.one aB):Sh).val r.1∧r.2.2.length=ss.length∧St ψ (fsC n r.2.1 (ps++qs) r.2.2 F) h'):=by
 refine AR mixed Tryz.func133 ?_;rw [J5];unfold G5;unfold OF at hd;refine AG _ rfl<|AF (x:=t.2.2.1) (K.at s0 (j:=2) rfl) rfl ?_;have nk:=K.pl.k2.length;refine Av (fun (y:Int×Bool×Unit) w g=>∃(ψ:AE),Sub φ ψ∧y.2.1=g.1∧g.2.2.length=ss.length∧St ψ (fsC n g.2.1 (ps++qs) g.2.2 F) w) (g:=r) ?_ ?_
 ·refine Co hd (fun i (y:Int×Bool×Unit) w g=>y.1=i∧ ∃(ψ:AE),Sub φ ψ∧y.2.1=g.1∧g.2.2.length=ss.length∧St ψ (fsC n g.2.1 (ps++qs) g.2.2 F) w) ((0:Int),false,()) rfl ⟨rfl,φ,cP _,rfl,rfl,s0⟩ ?_ ?_
  ·rintro i z w ⟨gr,nu,s1⟩ e ⟨rfl,ψ,le,hg,hl1,st⟩ he h0 hlt hw;dsimp only at hg hl1 st he;subst hg;refine Aj (by rw [nk];exact decide_eq_true hlt) ?_;obtain ⟨ru,hr1,he⟩:=bS he;obtain ⟨hm,he⟩:=Bq he;obtain ⟨gg,hg1,he⟩:=bS he;obtain ⟨b,hb1,he⟩:=bS he;obtain ⟨nu',hn1,he⟩:=bS he;obtain rfl:=iS he;obtain ⟨k,hk⟩:∃k:Nat,bT .i64 (ru.1 - nT p)=(k:Int):=⟨_,(cV hm.1).symm⟩;rw [hk]at hm hg1 hb1 hn1;have hkp:k<ps.length:=by omega
   have hpk:ps[k]? =some ps[k]:=bR hkp;refine NO (K.pl.k2.mono le) hr1 st ?_;intro r9 u h1 ku st1;refine AA (b:=r9) (j:=0) (x:=ru.1) st1 rfl<|AJ (OI (K.mono le) st1 ru.1) ?_;rintro _ h2 ⟨rfl,st2⟩;refine ⟨_,rfl,?_⟩;rw [hk];refine AA (b:=r9) (j:=1) (x:=u) st2 rfl<|AG _ rfl<|AF (x:=f) ((K.mono le).at st2 (j:=7) rfl) rfl ?_;obtain ⟨A2,cs2,ea2,hi2,r2,cl2⟩:=((K.mono le).kf).get (i:=(k:Int)) (by rw [DE];exact hpk);refine AG _ ea2 (Ab hi2 ?_);obtain rfl:=r2;refine AF (x:=ps[k]) (AC st2.sub (cl2 0 _ rfl)) rfl<|AJ (OK (gk.mono le) (K.mono le) ku (Si hpk) (hl.trans hl1.symm) hg1 st2.tail) ?_;rintro _ h3 ⟨ψ3,le3,rfl,hl3,st3⟩;refine ⟨_,rfl,?_⟩;have le':=le.trans le3;refine Af (fun (y:Bool×Unit) w (_:Unit)=>y=(z.2.1 || gg.1 || (gg.2.1 && !b),())∧St ψ3 (fsC n nu (ps++qs) gg.2.2 F) w) (g:=()) ?_ ?_
   ·cases hz:z.2.1
    ·refine Aa rfl ?_;cases hgg:gg.1
     ·refine Aa (by dsimp only) ?_;cases hgn:gg.2.1
      ·refine Aa (by dsimp only)<|AN (false,()) rfl ⟨by simp,st3⟩
      ·refine Aj (by dsimp only)<|AG _ rfl<|AF (x:=n) ((K.mono le').at st3 (j:=6) rfl) rfl ?_;obtain ⟨A3,cs3,ea3,hi3,r3,cl3⟩:=st3.get hb1;refine AG _ ea3 (Ab hi3 ?_);obtain rfl:=r3;refine AF (x:=b) (cl3 0 _ rfl) rfl<|AN (!b,()) rfl ⟨by simp,st3⟩
     ·refine Aj (by dsimp only)<|AN (true,()) rfl ⟨by simp,st3⟩
    ·refine Aj rfl<|AN (true,()) rfl ⟨by simp,st3⟩
   ·rintro y h4 ⟨rfl,st4⟩;refine Af (fun (y:Unit) w (_:Unit)=>St ψ3 (fsC n nu' (ps++qs) gg.2.2 F) w) (g:=()) ?_ ?_
    ·refine AG _ rfl<|AF (x:=n) ((K.mono le').at st4 (j:=6) rfl) rfl<|AG _ rfl<|AF (x:=n) ((K.mono le').at st4 (j:=6) rfl) rfl ?_;obtain ⟨A3,cs3,ea3,hi3,r3,cl3⟩:=st4.get hb1;refine AG _ ea3 (Ab hi3 ?_);obtain rfl:=r3;refine AF (x:=b) (cl3 0 _ rfl) rfl ?_;obtain ⟨A4,ea4,q4⟩:=st4.there hn1;cases b
     ·refine Aa rfl<|AG _ ea4 (Ab q4 (Iy st4 hn1 rfl ea4 ?_));intro h5 st5;exact AN () rfl st5
     ·refine Aj rfl<|AG _ ea4 (Ab q4 (Iy st4 hn1 rfl ea4 ?_));intro h5 st5;exact AN () rfl st5
    ·rintro _ h5 st5;exact Ag (bT .i64 (z.1+(1:Int)),z.2.1 || gg.1 || (gg.2.1 && !b),()) _ rfl rfl ⟨hw,ψ3,le',rfl,hl3.trans hl1,st5⟩
  ·rintro i z w ⟨rfl,H⟩ hge;refine Aa (by rw [nk];exact decide_eq_false (Int.not_lt.2 hge))<|AO (AQ z rfl H)
 ·rintro z h1 ⟨ψ,le,hg,hl1,st⟩;exact AB ⟨ψ,le,by rw [hg];rfl,hl1,st⟩
theorem SG {u:Slc}{l:List Int}{lo:Int}(k:Ro.SliceIs (cG .i64) φ u l) (h0:0≤lo) (h1:lo≤(l.length:Int)):cut l lo (u.2.1:Int)=some (l.drop lo.toNat):=by
 have hlen:=k.length;unfold cut;rw [if_pos ⟨by omega,by omega,by omega⟩,cY,hlen,dN]
theorem MJ {ps qs:List (Option Addr)}{k:Nat}{q:Option Addr}(h:qs[k]? =some q):(ps++qs)[ps.length+k]? =some q:=by
 rw [cL (by omega),Nat.add_sub_cancel_left];exact h
set_option maxHeartbeats 2000000 in
theorem Sj (gk:Dg.Glob φ) (K:FsK φ a t n f g p ps qs) (hpq:qs.length=ps.length) {null:List Bool}{ss:List AX}(hl:(ps++qs).length=ss.length) {r:Bool×List AX}
 (hd:MF p (ps.length:Int) null ss=some r) (s0:St φ (fsC n null (ps++qs) ss F) h):
 CallsH bW 135 [.pointer (some a)] h (Ap fun v h'=>∃ψ:AE,Sub φ ψ∧v=((.one aB):Sh).val r.1∧r.2.length=ss.length∧St ψ (fsC n null (ps++qs) r.2 F) h'):=by
 refine AR mixed Tryz.func135 ?_;rw [JI];unfold GP;unfold MF at hd;refine AG _ rfl<|AF (x:=t.2.2.1) (K.at s0 (j:=2) rfl) rfl ?_;have nk:=K.pl.k2.length;refine Av (fun (y:Int×Bool×Unit) w g=>∃(ψ:AE),Sub φ ψ∧y.2.1=g.1∧g.2.length=ss.length∧St ψ (fsC n null (ps++qs) g.2 F) w) (g:=r) ?_ ?_
 ·refine Co hd (fun i (y:Int×Bool×Unit) w g=>y.1=i∧ ∃(ψ:AE),Sub φ ψ∧y.2.1=g.1∧g.2.length=ss.length∧St ψ (fsC n null (ps++qs) g.2 F) w) ((0:Int),false,()) rfl ⟨rfl,φ,cP _,rfl,rfl,s0⟩ ?_ ?_
  ·rintro i z w ⟨gr,s1⟩ e ⟨rfl,ψ,le,hg,hl1,st⟩ he h0 hlt hw;dsimp only at hg hl1 st he;subst hg;refine Aj (by rw [nk];exact decide_eq_true hlt) ?_;obtain ⟨ru,hr1,he⟩:=bS he;refine NO (K.pl.k2.mono le) hr1 st ?_;intro r9 u h1 ku st1;refine AA (b:=r9) (j:=1) (x:=u) st1 rfl ?_;have nu:=ku.length;obtain ⟨G,hG⟩:∃G:List Chk,G=⟨eZ 65,[.pointer (some ⟨r9,0,none⟩)],[.int .i64 ru.1,sv u,.int .i64 ru.2.2]⟩::F:=⟨_,rfl⟩;have st2:St ψ (fsC n null (ps++qs) s1 G) h1:=by
    rw [hG];exact st1.perm ((cN _ _ _).trans (cA _ (bZ (l₁:=AS (ps++qs) s1)).symm))
   have raw:∀ {ψ':AE} {s':List AX} {h':AH},St ψ' (fsC n null (ps++qs) s' G) h'→St ψ' (⟨eZ 65,[.pointer (some ⟨r9,0,none⟩)],[.int .i64 ru.1,sv u,.int .i64 ru.2.2]⟩::fsC n null (ps++qs) s' F) h':=fun {ψ' s' h'} H=>by
    rw [hG]at H;exact H.perm ((cA _ (bZ (l₁:=AS (ps++qs) s'))).trans (cN _ _ _))
   refine Av (fun (y:Int×Bool×Unit) w g=>∃(ψ:AE),Sub φ ψ∧y.2.1=g.1∧g.2.length=ss.length∧St ψ (fsC n null (ps++qs) g.2 G) w) (g:=e) ?_ ?_
   ·refine Co he (fun i (y:Int×Bool×Unit) w g=>y.1=i∧ ∃(ψ':AE),Sub ψ ψ'∧y.2.1=g.1∧g.2.length=ss.length∧St ψ' (fsC n null (ps++qs) g.2 G) w) ((0:Int),z.2.1,()) rfl ⟨rfl,ψ,cP _,rfl,hl1,st2⟩ ?_ ?_
    ·rintro i2 z2 w2 ⟨gr2,s2⟩ e2 ⟨rfl,ψ2,le2,hg2,hl2,st3⟩ he2 h02 hlt2 hw2;dsimp only at hg2 hl2 st3 he2;subst hg2;have le02:=le.trans le2;refine Aj (by rw [nu];exact decide_eq_true hlt2) ?_;obtain ⟨sym,hs1,he2⟩:=bS he2;obtain ⟨tm,ht1,he2⟩:=bS he2;refine Av (fun (y:Bool×Unit) w (_:Unit)=>∃(ψ':AE),Sub ψ ψ'∧y.1=e2.1∧e2.2.length=ss.length∧St ψ' (fsC n null (ps++qs) e2.2 G) w) (g:=()) ?_ ?_
     ·obtain ⟨A1,cs1,ea1,hi1,r1,cl1⟩:=(ku.mono le2).get hs1;refine AG _ ea1 (Ab hi1 ?_);obtain rfl:=r1;refine AF (x:=sym) (AC st3.sub (cl1 0 _ rfl)) rfl<|AG _ rfl (QJ ((K.mono le02).pv st3) (K.mono le02).pl st3 ht1 ?_);intro ψ3 h3 le3 st4;have le03:=le02.trans le3;refine AI he2 rfl (fun _ he2=> ?_) (fun _ he2=> ?_)
      ·obtain rfl:=iS he2;exact R8 (z2.2.1,()) rfl ⟨ψ3,le2.trans le3,rfl,hl2,st4⟩
      ·obtain ⟨hm,he2⟩:=Bq he2;obtain ⟨gg,hg1,he2⟩:=bS he2;obtain ⟨hh,hh1,he2⟩:=bS he2;obtain rfl:=iS he2;obtain ⟨k,hk⟩:∃k:Nat,bT .i64 (sym - nT p)=(k:Int):=⟨_,(cV hm.1).symm⟩;have hx:(ps.length:Int)+(k:Int)=((ps.length+k:Nat):Int):=by omega
       rw [hk,hx]at hg1 hh1;rw [hk]at hm;have hkp:k<qs.length:=by omega
       have hpk:qs[k]? =some qs[k]:=bR hkp;refine AG _ rfl<|AF (x:=g) ((K.mono le03).at st4 (j:=8) rfl) rfl<|AJ (OI (K.mono le03) st4 sym) ?_;rintro _ h4 ⟨rfl,st5⟩;refine ⟨_,rfl,?_⟩;refine AM ((K.mono le03).at st5 (j:=8) rfl) ?_;rw [hk];obtain ⟨A2,cs2,ea2,hi2,r2,cl2⟩:=((K.mono le03).kg).get (i:=(k:Int)) (by rw [DE];exact hpk);refine AG _ ea2 (Ab hi2 ?_);obtain rfl:=r2;refine AF (x:=qs[k]) (AC st5.sub (cl2 0 _ rfl)) rfl<|AA (b:=r9) (j:=1) (x:=u) (raw st5) rfl ?_;obtain ⟨q1,kt⟩:=(ku.mono (le2.trans le3)).cut (SG (ku.mono (le2.trans le3)) (lo:=bT .i64 (z2.1+1)) (by rw [hw2];omega) (by rw [hw2];omega)) (sz:=1) rfl;refine Ab q1 ?_;rw [←hw2]at hg1;refine AJ (OK (gk.mono le03) (K.mono le03) kt (MJ hpk) (hl.trans hl2.symm) hg1 st5) ?_;rintro _ h5 ⟨ψ5,le5,rfl,hl5,st6⟩;refine ⟨_,rfl,?_⟩;have le05:=le03.trans le5;refine Af (fun (y:Bool×Unit) w (_:Unit)=>y=(hh.1,())∧hh.2.length=ss.length∧ ∃ψ',Sub ψ ψ'∧St ψ' (fsC n null (ps++qs) hh.2 G) w) (g:=()) ?_ ?_
       ·refine AI hh1 rfl (fun _ hh1=> ?_) (fun _ hh1=> ?_)
        ·obtain ⟨hm2,hh1⟩:=Bq hh1;obtain ⟨uu,hu,hh1⟩:=bS hh1;obtain rfl:=iS hh1;obtain ⟨k2,hk2⟩:∃k:Nat,bT .i64 (ru.1 - nT p)=(k:Int):=⟨_,(cV hm2.1).symm⟩;have hx2:(ps.length:Int)+(k2:Int)=((ps.length+k2:Nat):Int):=by omega
         rw [hk2,hx2]at hu;rw [hk2]at hm2;have hkp2:k2<qs.length:=by omega
         have hpk2:qs[k2]? =some qs[k2]:=bR hkp2;unfold UP at hu;obtain ⟨s,hs,hu⟩:=bS hu;obtain ⟨o,ho,hu⟩:=bS hu;obtain ⟨ok,hu⟩:=Bq hu;obtain rfl:=iS hu;refine Af (fun (y:Bool×Unit) w (_:Unit)=>y=(FC s o || gg.1,())∧ ∃ψ',Sub ψ ψ'∧St ψ' (fsC n null (ps++qs) (gg.2.2.set (ps.length+k) (BS s o)) G) w) (g:=()) ?_ ?_
         ·refine AG _ rfl<|AF (x:=g) ((K.mono le05).at st6 (j:=8) rfl) rfl<|AA (b:=r9) (j:=0) (x:=ru.1) (raw st6) rfl<|AJ (OI (K.mono le05) st6 ru.1) ?_;rintro _ h7 ⟨rfl,st7⟩;refine ⟨_,rfl,?_⟩;refine AM ((K.mono le05).at st7 (j:=8) rfl) ?_;rw [hk2];obtain ⟨A3,cs3,ea3,hi3,r3,cl3⟩:=((K.mono le05).kg).get (i:=(k2:Int)) (by rw [DE];exact hpk2);refine AG _ ea3 (Ab hi3 ?_);obtain rfl:=r3;refine AF (x:=qs[k2]) (AC st7.sub (cl3 0 _ rfl)) rfl ?_;have st8:St ψ5 (AS (ps++qs) gg.2.2++(cR 4 eO n null::G)) h7:=st7.perm (bZ (l₁:=AS (ps++qs) gg.2.2)).symm;refine AJ (TH (gk.mono le05) (V6 hs) (V6 ho) (MJ hpk) (MJ hpk2) ok st8) ?_;rintro _ h8 ⟨ψ8,le8,rfl,st9⟩;refine ⟨_,rfl,?_⟩;have st10:St ψ8 (fsC n null (ps++qs) (gg.2.2.set (ps.length+k) (BS s o)) G) h8:=st9.perm (bZ (l₁:=AS (ps++qs) (gg.2.2.set (ps.length+k) (BS s o))));have le8':=((le2.trans le3).trans le5).trans le8;cases hgr:FC s o
          ·exact Aa rfl (AN (gg.1,()) rfl ⟨by simp,ψ8,le8',st10⟩)
          ·exact Aj rfl (AN (true,()) rfl ⟨by simp,ψ8,le8',st10⟩)
         ·rintro y h9 ⟨rfl,ψ9,le9,st11⟩;refine AN (FC s o || gg.1,()) rfl ⟨rfl,by simp [hl5,hl2],ψ9,le9,?_⟩;rw [cY];exact st11
        ·obtain rfl:=iS hh1;exact AN (gg.1,()) rfl ⟨rfl,by rw [hl5,hl2],ψ5,(le2.trans le3).trans le5,st6⟩
       ·rintro y h9 ⟨rfl,hl9,ψ9,le9,st11⟩;refine Af (fun (y:Bool×Unit) w (_:Unit)=>y=(z2.2.1 || hh.1,())∧St ψ9 (fsC n null (ps++qs) hh.2 G) w) (g:=()) ?_ ?_
        ·cases hz:z2.2.1
         ·exact Aa rfl (AN (hh.1,()) rfl ⟨by simp,st11⟩)
         ·exact Aj rfl (AN (true,()) rfl ⟨by simp,st11⟩)
        ·rintro y h10 ⟨rfl,st12⟩;exact MX (z2.2.1 || hh.1,()) rfl ⟨ψ9,le9,rfl,hl9,st12⟩
     ·rintro y h10 ⟨ψ10,le10,hy,hl10,st12⟩;exact Ag (bT .i64 (z2.1+(1:Int)),y.1,()) _ rfl rfl ⟨hw2,ψ10,le10,hy,hl10,st12⟩
    ·rintro i2 z2 w2 ⟨rfl,ψ2,le2,H⟩ hge;refine Aa (by rw [nu];exact decide_eq_false (Int.not_lt.2 hge))<|AO (AQ z2 rfl ⟨ψ2,le.trans le2,H⟩)
   ·rintro y h10 ⟨ψ10,le10,hy,hl10,st12⟩;exact Ag (bT .i64 (z.1+(1:Int)),y.2.1,()) _ rfl rfl ⟨hw,ψ10,le10,hy,hl10,(raw st12).tail⟩
  ·rintro i z w ⟨rfl,H⟩ hge;refine Aa (by rw [nk];exact decide_eq_false (Int.not_lt.2 hge))<|AO (AQ z rfl H)
 ·rintro z h1 ⟨ψ,le,hg,hl1,st⟩;exact AB ⟨ψ,le,by rw [hg];rfl,hl1,st⟩
end
section
variable {φ ψ:AE}{h:AH}{F:List Chk}{t:Slc×Slc×Slc×Slc×Slc×Slc×Unit}{p:dtP}
theorem St.blk {ty:TypeId}{b:Nat}{vs:List Value}(H:St φ (⟨eZ ty,[.pointer (some ⟨b,0,none⟩)],vs⟩::F) h):∃ψ,Sub φ ψ∧DO ψ (some ⟨b,0,none⟩) vs∧St ψ F h:=by
 obtain ⟨ψ,G,le,⟨b',e,hb,hF⟩,hk,s⟩:=St.hide H;cases e;refine ⟨ψ,le,fun i v hv=>⟨_,rfl,?_⟩,s⟩
 have:=hk b ((hF b).2 rfl)
 rw [EL];unfold Dv;dsimp only;rw [this,hb];dsimp only;rw [eL];simp [hv]
theorem St.drop:∀(L:List Chk) {M:List Chk}{φ:AE}{h:AH},St φ (L++M) h→St φ M h
 | [],_,_,_,H=>H
 |_::L,_,_,_,H=>St.drop L H.tail
theorem KA {b:Nat}{K:Slc→Slc→Slc→Slc→Slc→Slc→T}{P:Bv→AH→Prop}(hc:∀j v,(plV t)[j]? =some v→Bg h ⟨b,j,none⟩=some v) (H:(K t.1 t.2.1 t.2.2.1 t.2.2.2.1 t.2.2.2.2.1 t.2.2.2.2.2.1).wp bW P h):
 (dB .slice ⟨b,0,none⟩ fun (t3:Slc)=>dB .slice ⟨b,1,none⟩ fun (t4:Slc)=>dB .slice ⟨b,2,none⟩ fun (t5:Slc)=>dB .slice ⟨b,3,none⟩ fun (t6:Slc)=>dB .slice ⟨b,4,none⟩ fun (t7:Slc)=>dB .slice ⟨b,5,none⟩ fun (t8:Slc)=>K t3 t4 t5 t6 t7 t8).wp bW P h:=by
 refine AF (x:=t.1) (hc 0 _ rfl) rfl<|AF (x:=t.2.1) (hc 1 _ rfl) rfl<|AF (x:=t.2.2.1) (hc 2 _ rfl) rfl<|AF (x:=t.2.2.2.1) (hc 3 _ rfl) rfl<|AF (x:=t.2.2.2.2.1) (hc 4 _ rfl) rfl<|AF (x:=t.2.2.2.2.2.1) (hc 5 _ rfl) rfl H
theorem IJ (k:PlK φ t p) (s0:St φ F h) {r:List AX}(hd:Mk p=some r):
 CallsH bW 132 [.agg #[sv t.1,sv t.2.1,sv t.2.2.1,sv t.2.2.2.1,sv t.2.2.2.2.1,sv t.2.2.2.2.2.1]] h
  (Ap fun v h'=>∃(ψ:AE) (y:Slc) (ps:List (Option Addr)),Sub φ ψ∧v=((.one aS):Sh).val y∧ps.length=r.length∧St ψ (Et y ps::(AS ps r++F)) h'):=by
 refine AR mixed Tryz.func132 ?_;rw [NH];unfold K0;unfold Mk at hd;refine AT (vs:=plV t) s0 ?_;intro r1 h1 s1;obtain ⟨φ1,le1,cB,s1⟩:=St.blk s1;refine AF (x:=t.2.1) (AC s1.sub (cB.at 1 rfl)) rfl ?_;have n1:t.2.1.2.1=p.2.1.length:=k.k1.length;have n0:t.1.2.1=p.1.length:=k.k0.length;refine Av (fun (z:Int×Slc×Unit) w g=>∃(ψ:AE) (ps:List (Option Addr)),Sub φ ψ∧ps.length=g.length∧St ψ (Et z.2.1 ps::(AS ps g++F)) w) (g:=r) ?_ ?_
 ·refine Co hd (fun i (z:Int×Slc×Unit) w g=>z.1=i∧ ∃(ψ:AE) (ps:List (Option Addr)),Sub φ1 ψ∧ps.length=g.length∧St ψ (Et z.2.1 ps::(AS ps g++F)) w) ((0:Int),((none,0,0):Slc),()) rfl ⟨rfl,φ1,[],cP _,rfl,gP _ _ s1⟩ ?_ ?_
  ·rintro i z w g e ⟨hz,ψ,ps,le,hl,st⟩ he h0 hlt hw;subst hz;refine Aj (by rw [n1];exact decide_eq_true hlt) ?_;obtain ⟨s,hs1,he⟩:=bS he;refine AF (x:=t.1) (AC st.sub ((cB.mono le).at 0 rfl)) rfl ?_;rw [n0];refine AJ (D4 st hs1) ?_;rintro _ h2 ⟨ψ1,q,l3,le2,rfl,rfl,st1⟩;refine ⟨q,rfl,?_⟩;refine AT (vs:=[.pointer q]) st1 ?_;intro r6 h3 st2;have cw:=eJ st2;obtain ⟨hap,rfl⟩:=L7 he hl q;refine Ah (r:=fI) (ms:=[q]) PJ (st2.tail.at1) rfl cw (.cons (a:=[_]) rfl .nil) rfl hap ?_;intro t7 h4 st3;exact Ag (bT .i64 (z.1+(1:Int)),t7,()) _ rfl rfl ⟨hw,ψ1,ps++ [q],le.trans le2,by simp [hl],N2 hl st3⟩
  ·rintro i z w ⟨hz,ψ,ps,le,H⟩ hge;subst hz;refine Aa (by rw [n1];exact decide_eq_false (Int.not_lt.2 hge))<|AO (AQ z rfl ⟨ψ,ps,le1.trans le,H⟩)
 ·rintro z h2 ⟨ψ,ps,le,hl,st⟩;exact AB ⟨ψ,z.2.1,ps,le,rfl,hl,st⟩
theorem PU (gk:Dg.Glob φ) {l:Slc}{ws pp:List (Option Addr)}{ss ss':List AX}{off:Nat}(kl:Ro.SliceIs fI φ l ws) (hw:∀(i:Nat) q,ws[i]? =some q→pp[off+i]? =some q) (hs':∀(i:Nat) s,ss'[i]? =some s→ss[off+i]? =some s) (hl:ws.length=ss'.length) (s0:St φ (AS pp ss++F) h) {r:List (List Int)}(hd:J3 ss'=some r):
 CallsH bW 136 [sv l] h (Ap fun v h'=>∃(ψ:AE) (y:Slc),Sub φ ψ∧v=((.one aS):Sh).val y∧Ro.SliceIs (eD (cG .i64)) ψ y r∧St ψ (AS pp ss++F) h'):=by
 refine AR mixed Tryz.func136 ?_;rw [NI];unfold K2;unfold J3 at hd;have nl:l.2.1=ss'.length:=kl.length.trans hl;refine Av (fun (z:Int×Slc×Unit) w (g:List (List Int))=>∃(ψ:AE),Sub φ ψ∧St ψ (SS z.2.1 g::(AS pp ss++F)) w) (g:=r) ?_ ?_
 ·refine Co hd (fun i (z:Int×Slc×Unit) w (g:List (List Int))=>z.1=i∧ ∃(ψ:AE),Sub φ ψ∧St ψ (SS z.2.1 g::(AS pp ss++F)) w) ((0:Int),((none,0,0):Slc),()) rfl ⟨rfl,φ,cP _,gP _ _ s0⟩ ?_ ?_
  ·rintro i z w g e ⟨hz,ψ,le,st⟩ he h0 hlt hw2;subst hz;refine Aj (by rw [nl];exact decide_eq_true hlt) ?_;obtain ⟨s,hs,he⟩:=bS he;obtain ⟨li,hli,he⟩:=bS he;obtain ⟨i0,i1,i2⟩:=Ci hs;have hlt2:z.1.toNat<ws.length:=by omega
   have hp:=bR hlt2;obtain ⟨A1,cs1,ea1,hi1,r1,cl1⟩:=(kl.mono le).get (KL i0 hlt2);refine AG _ ea1 (Ab hi1 ?_);obtain rfl:=r1;refine AF (x:=ws[z.1.toNat]) (AC st.sub (cl1 0 _ rfl)) rfl ?_;have st1:St ψ (AS pp ss++(SS z.2.1 g::F)) w:=st.perm (bZ (l₁:=AS pp ss)).symm;obtain ⟨rr,q1,q2⟩:=G3 (hw _ _ hp) (hs' _ _ i2) st1;refine AJ (L8 (gk.mono le) q1 hli) ?_;rintro _ h2 ⟨ψ2,y,le2,rfl,k2,st2⟩;refine ⟨y,rfl,?_⟩;have st3:=q2 ψ2 h2 [] st2;have st4:St ψ2 (SS z.2.1 g::(AS pp ss++F)) h2:=st3.perm (bZ (l₁:=AS pp ss));refine AT (vs:=[sv y]) st4 ?_;intro r6 h3 st5;have cw:=eJ st5;refine Ah (r:=eD (cG .i64)) (ms:=[li]) TG st5.tail rfl cw (.cons (a:=[_]) ⟨y,rfl,k2⟩ .nil) rfl he ?_;intro t7 h4 st6;exact Ag (bT .i64 (z.1+(1:Int)),t7,()) _ rfl rfl ⟨hw2,ψ2,le.trans le2,st6⟩
  ·rintro i z w ⟨hz,H⟩ hge;subst hz;refine Aa (by rw [nl];exact decide_eq_false (Int.not_lt.2 hge))<|AO (AQ z rfl H)
 ·rintro z h2 ⟨ψ,le,st⟩;obtain ⟨ψ2,le2,k2,st2⟩:=st.freezeRow;exact AB ⟨ψ2,z.2.1,le.trans le2,rfl,k2,st2⟩
end
abbrev Sk (φ:AE) (F:List Chk) (r:dtF):Value→AH→Prop:=fun v h'=>∃(ψ:AE) (y:Slc×Slc×Slc×Int×Unit),Sub φ ψ∧v=((.one (.agg [.slice,.slice,.slice,.int .i64])):Sh).val y∧
 Ro.SliceIs eO ψ y.1 r.1∧Ro.SliceIs (eD (cG .i64)) ψ y.2.1 r.2.1∧Ro.SliceIs (eD (cG .i64)) ψ y.2.2.1 r.2.2.1∧y.2.2.2.1=r.2.2.2∧St ψ F h'
noncomputable def KW (p:dtP) (m:Nat) (null:List Bool) (ss:List AX):Option dtF:=(loop (σ:=Int×List Bool×List AX) (β:=Int×List Bool×List AX) (1,null,ss) fun z=>(OF p ((m:Nat):Int) z.2.1 z.2.2).bind fun r=>cond r.1 (some (.next (bT .i64 (z.1+1),r.2))) (some (.done (z.1,r.2)))).bind fun z=>(idx (z.2.2.drop m) (p.2.1.length:Int)).bind fun s=>(Aq s 0).bind fun a=>(loop (σ:=List AX) (β:=List AX) (z.2.2.set (m+p.2.1.length) a.2) fun ss=>(MF p ((m:Nat):Int) z.2.1 ss).bind fun r=>cond r.1 (some (.next r.2)) (some (.done r.2))).bind fun ss=>(J3 (ss.take m)).bind fun a=>(J3 (ss.drop m)).bind fun b=>some (z.2.1,a,b,z.1)
section
variable {φ φ0 ψ:AE}{h:AH}{F:List Chk}{t:Slc×Slc×Slc×Slc×Slc×Slc×Unit}{n f g:Slc}{p:dtP}{ps qs:List (Option Addr)}
set_option maxHeartbeats 2000000 in
theorem XR (gk:Dg.Glob φ) (le0:Sub φ0 φ) {r1 r2 r25:Nat}(cB:DO φ (some ⟨r1,0,none⟩) (plV t)) (K:FsK φ ⟨r25,0,none⟩ t n f g p ps qs) (hpq:qs.length=ps.length) {null:List Bool}{ss:List AX}(hl:(ps++qs).length=ss.length) {r:dtF}(hd:KW p ps.length null ss=some r)
 (s0:St φ (fsC n null (ps++qs) ss (⟨eZ 133,[.pointer (some ⟨r2,0,none⟩)],[.slice none 0 0,.slice none 0 0,.slice none 0 0,.int .i64 0]⟩::F)) h):(Mo r1 r2 r25).wp bW (Na (Ap (Sk φ0 F r))) h:=by
 unfold Mo;unfold KW at hd;obtain ⟨z,hz,hd⟩:=bS hd;obtain ⟨s,hs,hd⟩:=bS hd;obtain ⟨a,ha,hd⟩:=bS hd;obtain ⟨sf,hsf,hd⟩:=bS hd;obtain ⟨la,hla,hd⟩:=bS hd;obtain ⟨lb,hlb,hd⟩:=bS hd;obtain rfl:=iS hd;obtain ⟨G,hG⟩:∃G:List Chk,G=⟨eZ 133,[.pointer (some ⟨r2,0,none⟩)],[.slice none 0 0,.slice none 0 0,.slice none 0 0,.int .i64 0]⟩::F:=⟨_,rfl⟩;rw [←hG]at s0;refine Av (fun (y:Int×Unit) w g=>∃(ψ:AE),Sub φ ψ∧y.1=g.1∧g.2.2.length=ss.length∧St ψ (fsC n g.2.1 (ps++qs) g.2.2 G) w) (g:=z) ?_ ?_
 ·refine Ez hz (fun (y:Int×Unit) w g=>∃(ψ:AE),Sub φ ψ∧y.1=g.1∧g.2.2.length=ss.length∧St ψ (fsC n g.2.1 (ps++qs) g.2.2 G) w) ((1:Int),()) rfl ⟨φ,cP _,rfl,rfl,s0⟩ ?_;rintro y w ⟨gc,gn,gs⟩ e ⟨ψ,le,rfl,hl1,st⟩ he hb;dsimp only at he hl1 st;obtain ⟨rr,hr,he⟩:=bS he;refine AJ (UT (gk.mono le) (K.mono le) (hl.trans hl1.symm) hr st) ?_;rintro _ h1 ⟨ψ1,le1,rfl,hl2,st1⟩;refine ⟨_,rfl,?_⟩;refine AI he rfl (fun _ he=> ?_) (fun _ he=> ?_)
  ·obtain rfl:=iS he;exact Ag (bT .i64 (y.1+(1:Int)),()) _ rfl rfl ⟨ψ1,le.trans le1,rfl,hl2.trans hl1,st1⟩
  ·obtain rfl:=iS he;obtain rfl:=hb _ rfl;exact AO (AQ (y.1,()) rfl ⟨ψ1,le.trans le1,rfl,hl2.trans hl1,st1⟩)
 ·rintro y1 h1 ⟨ψ1,le1,hy1,hl1,st1⟩;refine AF (x:=g) ((K.mono le1).at st1 (j:=8) rfl) rfl<|AF (x:=t.2.1) (AC st1.sub ((cB.mono le1).at 1 rfl)) rfl ?_;have n1:t.2.1.2.1=p.2.1.length:=K.pl.k1.length;rw [n1];obtain ⟨i0,i1,i2⟩:=Ci hs;rw [cY]at i2;rw [fH]at i2;have hlt:p.2.1.length<qs.length:=by
   rw [List.length_drop]at i1;rw [cQ]at hl;omega
  have hq:=bR hlt;obtain ⟨A2,cs2,ea2,hi2,q2,cl2⟩:=((K.mono le1).kg).get (i:=(p.2.1.length:Int)) (by rw [DE];exact hq);refine AG _ ea2 (Ab hi2 ?_);obtain rfl:=q2;refine AF (x:=qs[p.2.1.length]) (AC st1.sub (cl2 0 _ rfl)) rfl ?_;obtain ⟨rs,a1,a2⟩:=EW (MJ (ps:=ps) hq) i2;have st2:St ψ1 (Bc qs[p.2.1.length] s::(rs++(cR 4 eO n z.2.1::G))) h1:=(st1.perm (bZ (l₁:=AS (ps++qs) z.2.2)).symm).perm (cE _ a1);refine AJ (CV st2 ha) ?_;rintro _ h2 ⟨ψ2,y,l2,le2,rfl,e2,st3⟩;refine ⟨_,rfl,?_⟩;have e2':l2=a.2:=by rw [←e2]
  subst e2';have le12:=le1.trans le2;have st4:St ψ2 (fsC n z.2.1 (ps++qs) (z.2.2.set (ps.length+p.2.1.length) a.2) G) h2:=(st3.perm (cE _ (a2 a.2)).symm).perm (bZ (l₁:=AS (ps++qs) (z.2.2.set (ps.length+p.2.1.length) a.2)));refine Av (fun (y:Unit) w g=>∃(ψ:AE),Sub φ ψ∧g.length=ss.length∧St ψ (fsC n z.2.1 (ps++qs) g G) w) (g:=sf) ?_ ?_
  ·refine Ez hsf (fun (y:Unit) w g=>∃(ψ:AE),Sub φ ψ∧g.length=ss.length∧St ψ (fsC n z.2.1 (ps++qs) g G) w) () rfl ⟨ψ2,le12,by simp [hl1],st4⟩ ?_;rintro y w gs e ⟨ψ,le,hl3,st⟩ he hb;obtain ⟨rr,hr,he⟩:=bS he;refine AJ (Sj (gk.mono le) (K.mono le) hpq (hl.trans hl3.symm) hr st) ?_;rintro _ h3 ⟨ψ3,le3,rfl,hl4,st5⟩;refine ⟨_,rfl,?_⟩;refine AI he rfl (fun _ he=> ?_) (fun _ he=> ?_)
   ·obtain rfl:=iS he;exact Ag () _ rfl rfl ⟨ψ3,le.trans le3,hl4.trans hl3,st5⟩
   ·obtain rfl:=iS he;obtain rfl:=hb _ rfl;exact AO (AQ () rfl ⟨ψ3,le.trans le3,hl4.trans hl3,st5⟩)
  ·rintro _ h3 ⟨ψ3,le3,hl3,st5⟩;obtain ⟨ψ4,le4,kn,st6⟩:=dX (t:=n) st5;have le34:=le3.trans le4;refine AF (x:=n) ((K.mono le34).at st6 (j:=6) rfl) rfl<|AF (x:=f) ((K.mono le34).at st6 (j:=7) rfl) rfl<|AF (x:=g) ((K.mono le34).at st6 (j:=8) rfl) rfl ?_;have hlen:sf.length=ps.length+qs.length:=by rw [hl3,←hl,cQ]
   refine AJ (PU (gk.mono le34) (off:=0) (K.mono le34).kf (fun i q hi=>by rw [eL];exact Si hi) (fun i s hi=>by
    rw [gA]at hi;split at hi
    ·rw [eL];exact hi
    ·cases hi) (by simp;omega) st6 hla) ?_
   rintro _ h4 ⟨ψ5,y5,le5,rfl,k5,st7⟩;refine ⟨y5,rfl,?_⟩;have le35:=le34.trans le5;refine AM ((K.mono le35).at st7 (j:=8) rfl)<|AM ((K.mono le35).at st7 (j:=6) rfl)<|AJ (PU (gk.mono le35) (off:=ps.length) (K.mono le35).kg (fun i q hi=>MJ hi) (fun i s hi=>by
    rw [fH]at hi;exact hi) (by simp;omega) st7 hlb) ?_
   rintro _ h5 ⟨ψ6,y6,le6,rfl,k6,st8⟩;refine ⟨y6,rfl,?_⟩;have le36:=le35.trans le6;refine AM ((K.mono le36).at st8 (j:=6) rfl) ?_;have st9:=St.drop _ st8;rw [hG]at st9;refine Cj (b:=r2) (j:=0) (v:=sv n) st9 rfl (by simp) ?_;intro h6 st10;refine Cj (b:=r2) (j:=1) (v:=sv y5) st10 rfl (by simp) ?_;intro h7 st11;refine Cj (b:=r2) (j:=2) (v:=sv y6) st11 rfl (by simp) ?_;intro h8 st12;refine Cj (b:=r2) (j:=3) (v:=.int .i64 y1.1) st12 rfl (by simp) ?_;intro h9 st13;refine AA (b:=r2) (j:=0) (x:=n) st13 rfl<|AA (b:=r2) (j:=1) (x:=y5) st13 rfl<|AA (b:=r2) (j:=2) (x:=y6) st13 rfl<|AA (b:=r2) (j:=3) (x:=y1.1) st13 rfl<|AB ⟨ψ6,(n,y5,y6,y1.1,()),le0.trans le36,rfl,kn.mono (le5.trans le6),k5.mono le6,k6,hy1,st13.tail⟩
theorem Sl:PA bW 60 4 (.bool false):=⟨Tryz.underlying60,⟨Tryz.t4,by kernel_rfl,rfl,⟨_,rfl,rfl⟩,by decide⟩⟩
theorem Sm (gk:Dg.Glob φ) (le0:Sub φ0 φ) {r1 r2:Nat}(cB:DO φ (some ⟨r1,0,none⟩) (plV t)) (k:PlK φ t p) {null:List Bool}{s1 s2:List AX}(h1:ps.length=s1.length) (h2:qs.length=s2.length) (h3:s2.length=s1.length) {r:dtF}(hd:KW p s1.length null (s1++s2)=some r)
 (s0:St φ (Et f ps::Et g qs::cR 4 eO n null::(AS ps s1++(AS qs s2++(⟨eZ 133,[.pointer (some ⟨r2,0,none⟩)],[.slice none 0 0,.slice none 0 0,.slice none 0 0,.int .i64 0]⟩::F)))) h):
 (fU (.cells #[sv t.1,sv t.2.1,sv t.2.2.1,sv t.2.2.2.1,sv t.2.2.2.2.1,sv t.2.2.2.2.2.1,sv n,sv f,sv g] 221 (0,0)) fun r25=>Mo r1 r2 r25).wp bW (Na (Ap (Sk φ0 F r))) h:=by
 refine AT (vs:=plV t++ [sv n,sv f,sv g]) s0 ?_;intro r25 h4 st1;obtain ⟨ψ1,le1,c1,st2⟩:=St.blk st1;obtain ⟨ψ2,le2,kf,st3⟩:=dX (t:=f) st2;obtain ⟨ψ3,le3,kg,st4⟩:=dX (t:=g) st3;have le13:=(le1.trans le2).trans le3;refine XR (ps:=ps) (qs:=qs) (f:=f) (g:=g) (n:=n) (t:=t) (gk.mono le13) (le0.trans le13) (cB.mono le13) ⟨c1.mono (le2.trans le3),k.mono le13,kf.mono le3,kg⟩ (by omega) (null:=null) (ss:=s1++s2) (by rw [cQ,cQ,h1,h2]) (by rw [h1];exact hd) ?_;have e:AS (ps++qs) (s1++s2)=AS ps s1++AS qs s2:=by
  unfold AS;exact List.zipWith_append h1
 show St ψ3 (cR 4 eO n null::(AS (ps++qs) (s1++s2) ++_)) h4;rw [e,cH];exact st4
theorem ZF (a c n:Chk) (B D G:List Chk):(a::(B++(c::(D++(n::G))))).Perm (c::a::n::(D++(B++G))):=
 (cA a (List.perm_middle.trans (cA c ((eT B bZ).trans (List.perm_middle.trans (cA n (by rw [←cH,←cH];exact cE _ eU))))))).trans (cN _ _ _)
theorem ZG (a c n:Chk) (B D G:List Chk):(a::(B++(n::c::(D++G)))).Perm (c::a::n::(D++(B++G))):=
 (cA a (List.perm_middle.trans ((cA n (List.perm_middle.trans (cA c (by rw [←cH,←cH];exact cE _ eU)))).trans (cN _ _ _)))).trans (cN _ _ _)
theorem ZH (a c n:Chk) (B D G:List Chk):(n::a::(B++(c::(D++G)))).Perm (c::a::n::(D++(B++G))):=
 (cN _ _ _).trans (((cA a ((cA n (List.perm_middle.trans (cA c (by rw [←cH,←cH];exact cE _ eU)))).trans (cN _ _ _)))).trans (cN _ _ _))
set_option maxHeartbeats 2000000 in
theorem QK (gk:Dg.Glob φ) (k:PlK φ t p) (s0:St φ F h) {r:dtF}(hd:OG p=some r):
 CallsH bW 106 [.agg #[sv t.1,sv t.2.1,sv t.2.2.1,sv t.2.2.2.1,sv t.2.2.2.2.1,sv t.2.2.2.2.2.1]] h (Ap (Sk φ F r)):=by
 refine AR mixed Tryz.func106 ?_;rw [QI];unfold OH;unfold OG at hd;obtain ⟨null,hn,hd⟩:=bS hd;obtain ⟨f1,hf1,hd⟩:=bS hd;obtain ⟨g1,hg1,hd⟩:=bS hd;obtain rfl:f1=g1:=by rw [hf1]at hg1;exact iS hg1
 have hd:KW p f1.length null (f1++f1)=some r:=hd;refine AT (vs:=plV t) s0 ?_;intro r1 h1 s1;obtain ⟨φ1,le1,cB,s1⟩:=St.blk s1;refine AT (vs:=[.slice none 0 0,.slice none 0 0,.slice none 0 0,.int .i64 0]) s1 ?_;intro r2 h2 s2;have n1:t.2.1.2.1=p.2.1.length:=k.k1.length;have hc:∀ {ψ:AE} {Γ:List Chk} {h':AH},Sub φ1 ψ→St ψ Γ h'→ ∀j v,(plV t)[j]? =some v→Bg h' ⟨r1,j,none⟩=some v:=fun {ψ Γ h'} le st j v hv=>by
  have:=AC st.sub ((cB.mono le).at j hv)
  rw [EL,eL]at this;exact this
 have hc2:=hc (cP _) s2;refine KA hc2<|AF (x:=t.2.1) (hc2 1 _ rfl) rfl<|KA hc2<|KA hc2 ?_;have k1:=k.mono le1;have gk1:=gk.mono le1;have mk:Fp (bT .i64 ((t.2.1.2.1:Int)+1)) false=some null:=by rw [n1];exact hn
 refine Ey ?_ ?_
 ·refine Jc (r:=eO) (x:=false) Sl s2 rfl rfl mk ?_;intro n h3 s3;have hc3:=hc (cP _) s3
  repeat refine AM (hc3 _ _ rfl) ?_
  refine AJ (IJ k1 s3 hf1) ?_;rintro _ h4 ⟨ψ4,f,ps,le4,rfl,hl4,s4⟩;refine ⟨f,rfl,?_⟩;have hc4:=hc le4 s4
  repeat refine AM (hc4 _ _ rfl) ?_
  refine AJ (IJ (k1.mono le4) s4 hf1) ?_;rintro _ h5 ⟨ψ5,g,qs,le5,rfl,hl5,s5⟩;refine ⟨g,rfl,?_⟩;have hc5:=hc (le4.trans le5) s5
  repeat refine AM (hc5 _ _ rfl) ?_
  exact Sm (f:=f) (g:=g) (n:=n) (ps:=ps) (qs:=qs) (gk1.mono (le4.trans le5)) (le1.trans (le4.trans le5)) (cB.mono (le4.trans le5)) (k1.mono (le4.trans le5)) hl4 hl5 rfl hd (s5.perm (ZF _ _ _ _ _ _))
 ·refine AJ (IJ k1 s2 hf1) ?_;rintro _ h4 ⟨ψ4,f,ps,le4,rfl,hl4,s4⟩;refine ⟨f,rfl,?_⟩;have hc4:=hc le4 s4
  repeat refine AM (hc4 _ _ rfl) ?_
  refine Ey ?_ ?_
  ·refine Jc (r:=eO) (x:=false) Sl s4 rfl rfl mk ?_;intro n h3 s3;have hc3:=hc le4 s3
   repeat refine AM (hc3 _ _ rfl) ?_
   refine AJ (IJ (k1.mono le4) s3 hf1) ?_;rintro _ h5 ⟨ψ5,g,qs,le5,rfl,hl5,s5⟩;refine ⟨g,rfl,?_⟩;have hc5:=hc (le4.trans le5) s5
   repeat refine AM (hc5 _ _ rfl) ?_
   exact Sm (f:=f) (g:=g) (n:=n) (ps:=ps) (qs:=qs) (gk1.mono (le4.trans le5)) (le1.trans (le4.trans le5)) (cB.mono (le4.trans le5)) (k1.mono (le4.trans le5)) hl4 hl5 rfl hd (s5.perm (ZG _ _ _ _ _ _))
  ·refine AJ (IJ (k1.mono le4) s4 hf1) ?_;rintro _ h5 ⟨ψ5,g,qs,le5,rfl,hl5,s5⟩;refine ⟨g,rfl,?_⟩;have hc5:=hc (le4.trans le5) s5
   repeat refine AM (hc5 _ _ rfl) ?_
   refine Jc (r:=eO) (x:=false) Sl s5 rfl rfl mk ?_;intro n h3 s3;have hc3:=hc (le4.trans le5) s3
   repeat refine AM (hc3 _ _ rfl) ?_
   exact Sm (f:=f) (g:=g) (n:=n) (ps:=ps) (qs:=qs) (gk1.mono (le4.trans le5)) (le1.trans (le4.trans le5)) (cB.mono (le4.trans le5)) (k1.mono (le4.trans le5)) hl4 hl5 rfl hd (s3.perm (ZH _ _ _ _ _ _))
end
end Go.Proofs.YteolcjbobmpdiaaGreatDoor
namespace Go.Proofs.YteolcjbobmpdiaaGreatDoor
open Go Go.Eng
set_option linter.unusedVariables false
set_option maxRecDepth 100000
section
variable {φ:AE}{h:AH}{F:List Chk}
noncomputable def DF (f_0:Xw) (p_1:A9) (seq_2:List Int):Option (List Int×Bool):=
 (B5 (p_1.1.length:Int)).bind fun t4=>
 (C5 (σ:=C3) (β:=(List Int×Bool)) 0 (seq_2.length:Int) t4 fun i_z6 z6=>
  (((idx seq_2 i_z6).bind fun e56=>
  (BT (p_1.1,p_1.2.1,p_1.2.2.1,p_1.2.2.2.1,p_1.2.2.2.2.1,p_1.2.2.2.2.2) e56).bind fun t16=>
  cond t16
  ((Aq z6 e56).bind fun t17=>
   (PL t17.2).bind fun t18=>
   some (gH (t18,false)))
  ((cond (decide ((bT .i64 (e56 - (p_1.1.length:Int))) < 0))
   (some true)
   (some (decide ((bT .i64 (e56 - (p_1.1.length:Int))) ≥ (f_0.2.1.length:Int))))).bind fun z20=>
   cond z20
   (some (fQ z6))
   ((idx f_0.2.1 (bT .i64 (e56 - (p_1.1.length:Int)))).bind fun e103=>
    (Cu (p_1.1.length:Int) e103).bind fun t26=>
    (P7 z6 t26).bind fun t27=>
    (idx f_0.1 (bT .i64 (e56 - (p_1.1.length:Int)))).bind fun e121=>
    cond (!e121)
    ((PL t27.2).bind fun t31=>
     some (gH (t31,false)))
    (some (fQ t27.2))))):Option (AY C3 (List Int×Bool))).bind fun e_z7=>match e_z7 with
  |.next z7=>
   some (fQ z7)
  |.done q150=>some (gH q150)).bind fun e_z5=>match e_z5 with
 |.next z5=>
  (PL z5).bind fun t32=>
  some (t32,true)
 |.done q179=>some q179
theorem Kp {f_0:Slc×Slc×Slc×Int×Unit}{w:List Bool}{q:List (List Int)}{z:List (List Int)}{p_1:Pl6}{s:List ByteArray}{a0:List ByteArray}{a1:List BP}{a2:List Int}{a3:List Int}{a4:List ByteArray}{seq_2:Slc}{t:List Int}(gk:Dg.Glob φ) (ao:Ro.SliceIs eO φ f_0.1 w) (a5:Ro.SliceIs (eD (cG .i64)) φ f_0.2.1 q) (ce:Ro.SliceIs (eD (cG .i64)) φ f_0.2.2.1 z) (a6:Ro.SliceIs gO φ p_1.1 s) (ap:Ro.SliceIs gO φ p_1.2.1 a0) (aq:Ro.SliceIs B4 φ p_1.2.2.1 a1) (ar:Ro.SliceIs (cG .i64) φ p_1.2.2.2.1 a2) (au:Ro.SliceIs (cG .i64) φ p_1.2.2.2.2.1 a3) (av:Ro.SliceIs gO φ p_1.2.2.2.2.2.1 a4) (a7:Ro.SliceIs (cG .i64) φ seq_2 t) (s0:St φ (F) h) {r:(List Int×Bool)}(hd:DF (w,q,z,f_0.2.2.2.1) (s,a0,a1,a2,a3,a4) t=some r):
 CallsH bW 146 [(.agg #[(sv f_0.1),(sv f_0.2.1),(sv f_0.2.2.1),(.int .i64 f_0.2.2.2.1)]),(aG p_1),(sv seq_2)] h (Ap fun v h'=>∃ψ:AE,∃y:Slc×Bool×Unit,∃a8:List Int,Sub φ ψ∧v=((.tuple [aS,aB]):Sh).val y∧(a8,y.2.1)=r∧Ro.SliceIs (cG .i64) ψ y.1 a8∧St ψ (F) h'):=by
 refine AR mixed Tryz.func146 ?_;rw [Kl];unfold HX;unfold DF at hd;have aw:f_0.2.1.2.1=gM q:=a5.length;have j:p_1.1.2.1=gM s:=a6.length;have a9:seq_2.2.1=gM t:=a7.length;refine AT (vs:=[sv f_0.1,sv f_0.2.1,sv f_0.2.2.1,.int .i64 f_0.2.2.2.1]) s0 fun r1 cf ax=>AT (vs:=[sv p_1.1,sv p_1.2.1,sv p_1.2.2.1,sv p_1.2.2.2.1,sv p_1.2.2.2.2.1,sv p_1.2.2.2.2.2.1]) ax fun r2 cg aa=>AA (x:=p_1.1) aa rfl ?_;obtain ⟨ch,ab,hd⟩:=bS hd;rw [←j]at ab;refine AJ (D4 aa ab) ?_;rintro _ ci ⟨ac,t4,ay,b,rfl,rfl,az⟩;refine ⟨t4,rfl,?_⟩;obtain ⟨cj,b0,hd⟩:=bS hd;refine BX b0 (fun b1 (y:Int×Bool×Slc×Unit) w_ g=>∃ψ:AE,∃ad:C3,Sub ac ψ∧y.1=b1∧ad=g∧St ψ (cO 239 EH t4 ad::Wq2 r2 p_1::Wq7 r1 f_0::F) w_) ((0:Int),false,((none,0,0):Slc),()) rfl ⟨ac,ay,(cP _),rfl,rfl,az.at2.at2.at2⟩ ?_ ?_ ?_
 ·rintro _ z6 ck _ _ ⟨b2,ae,c,rfl,rfl,f⟩ e b3 af ag ah;try dsimp only at e b3 af ag
  refine Aj (dT a9 af) ?_;obtain ⟨b4,a,e⟩:=bS e;refine Av (fun (y:Bool×Slc×Unit) w_ g=>∃ψ:AE,∃ai:C3,Sub b2 ψ∧fQ ai=g∧St ψ (cO 239 EH t4 ai::Wq2 r2 p_1::Wq7 r1 f_0::F) w_) (g:=b4) ?_ ?_
  ·obtain ⟨b5,b6,a⟩:=bS a;refine Ck a7 b6 (eW (b.trans c) f.sub)<|AA (x:=p_1.1) f.at1 rfl<|AA (x:=p_1.2.1) f.at1 rfl<|AA (x:=p_1.2.2.1) f.at1 rfl<|AA (x:=p_1.2.2.2.1) f.at1 rfl<|AA (x:=p_1.2.2.2.2.1) f.at1 rfl<|AA (x:=p_1.2.2.2.2.2.1) f.at1 rfl ?_;obtain ⟨cl,b7,a⟩:=bS a;refine AJ (Dy (p_0:=(p_1.1,p_1.2.1,p_1.2.2.1,p_1.2.2.2.1,p_1.2.2.2.2.1,p_1.2.2.2.2.2.1,())) (a6.mono (b.trans c)) (ap.mono (b.trans c)) (aq.mono (b.trans c)) (ar.mono (b.trans c)) (au.mono (b.trans c)) (av.mono (b.trans c)) f b7) ?_;rintro _ cm ⟨u,t16,d,rfl,rfl,k⟩;refine ⟨t16,rfl,?_⟩;refine AI a rfl (fun _ a=> ?_) (fun _ a=> ?_)
   ·obtain ⟨cn,b8,a⟩:=bS a;refine AJ (CV k b8) ?_;rintro _ co ⟨cp,t17,cq,aj,rfl,rfl,b9⟩;refine ⟨t17,rfl,?_⟩;try dsimp only at a
    obtain ⟨cr,ba,a⟩:=bS a;refine AJ (Mf (gk.mono (((b.trans c).trans d).trans aj)) b9 ba) ?_;rintro _ cs ⟨bb,t18,bc,bd,rfl,rfl,be,bf⟩;refine ⟨t18,rfl,?_⟩;obtain rfl:=iS a;try dsimp only at e
    obtain rfl:=iS e;obtain rfl:=ah _ rfl;try dsimp only at hd
    obtain rfl:=iS hd;exact Ai (Ak (Ai (AB ⟨bb,(t18,false,()),bc,((((b.trans c).trans d).trans aj).trans bd),rfl,rfl,be,bf.tail.tail.tail⟩)))
   refine AA (x:=p_1.1) k.at1 rfl ?_;obtain ⟨bg,l,a⟩:=bS a;refine Af (fun (y:Bool×Unit) w_ g=>∃ψ:AE,Sub u ψ∧y.1=g∧St ψ (cO 239 EH t4 ae::Wq2 r2 p_1::Wq7 r1 f_0::F) w_) (g:=bg) ?_ ?_
   ·refine AI l (by rw [j] <;>rfl) (fun _ l=> ?_) (fun _ l=> ?_)
    ·have bh:=k.at2;obtain rfl:=iS l;exact AN (true,()) rfl ⟨u,(cP _),rfl,bh.at2.at2⟩
    refine AA (x:=f_0.2.1) k.at2 rfl ?_;have bi:=k.at2.at2.at2;obtain rfl:=iS l;exact AN ((decide ((bT .i64 (b5 - (p_1.1.2.1:Int))) ≥ (f_0.2.1.2.1:Int))),()) rfl ⟨u,(cP _),(by rw [j,aw]),bi⟩
   rintro z20 ct ⟨bj,i,rfl,m⟩;try dsimp only at a
   refine AI a rfl (fun _ a=> ?_) (fun _ a=> ?_)
   ·have bk:=m.at2;obtain rfl:=iS a;exact AQ (z6.2.1,(z6.2.2.1.1,z6.2.2.1.2.1,z6.2.2.1.2.2),()) rfl ⟨bj,ae,(d.trans i),rfl,bk.at2.at2⟩
   refine AA (x:=p_1.1) m.at1 rfl<|AA (x:=f_0.2.1) m.at2 rfl ?_;obtain ⟨cu,ak,a⟩:=bS a;rw [←j]at ak;refine Ng a5 ak (eW (((b.trans c).trans d).trans i) m.sub) fun cv bl=> ?_;obtain ⟨cw,al,a⟩:=bS a;rw [←j]at al;refine AJ (EV (bl.mono (((b.trans c).trans d).trans i)) m al) ?_;rintro _ cx ⟨cy,t26,cz,n,rfl,rfl,bm⟩;refine ⟨t26,rfl,?_⟩;obtain ⟨d0,bn,a⟩:=bS a;refine AJ (ST (gk.mono ((((b.trans c).trans d).trans i).trans n)) bm.at1 bn) ?_;rintro _ d1 ⟨bo,t27,bp,o,rfl,rfl,p⟩;refine ⟨t27,rfl,?_⟩;try dsimp only at a
   refine AA (x:=f_0.1) p.at3 rfl ?_;obtain ⟨d2,am,a⟩:=bS a;rw [←j]at am;refine Ck ao am (eW (((((b.trans c).trans d).trans i).trans n).trans o) p.sub)<|AI a rfl (fun _ a=> ?_) (fun _ a=> ?_)
   ·obtain ⟨d3,bq,a⟩:=bS a;refine AJ (Mf (gk.mono (((((b.trans c).trans d).trans i).trans n).trans o)) p bq) ?_;rintro _ d4 ⟨br,t31,bs,bt,rfl,rfl,bu,bv⟩;refine ⟨t31,rfl,?_⟩;obtain rfl:=iS a;try dsimp only at e
    obtain rfl:=iS e;obtain rfl:=ah _ rfl;try dsimp only at hd
    obtain rfl:=iS hd;exact Ai (Ak (Ai (AB ⟨br,(t31,false,()),bs,((((((b.trans c).trans d).trans i).trans n).trans o).trans bt),rfl,rfl,bu,bv.tail.tail.tail.tail⟩)))
   obtain rfl:=iS a;exact MX (z6.2.1,(z6.2.2.1.1,z6.2.2.1.2.1,z6.2.2.1.2.2),()) rfl ⟨bo,bp,(((d.trans i).trans n).trans o),rfl,p.at1.tail.at2.at2.at2⟩
  rintro z7 d5 ⟨bw,bx,bz,rfl,c0⟩;try dsimp only at e
  obtain rfl:=iS e;exact Ag ((wN z6.1),z7.1,(z7.2.1.1,z7.2.1.2.1,z7.2.1.2.2),()) _ rfl rfl ⟨bw,bx,(c.trans bz),ag,rfl,c0.at2.at2.at2⟩
 ·rintro _ z6 d6 _ ⟨c1,c2,c3,rfl,rfl,c4⟩ c5 c6;subst c6;refine Aa (dF a9 c5)<|AO (AQ (z6.1,z6.2.1,(z6.2.2.1.1,z6.2.2.1.2.1,z6.2.2.1.2.2),()) rfl ⟨_,rfl,_,c1,c2,c3,rfl,rfl,c4.at2.at2.at2⟩)
 rintro z5 d7 ⟨_,rfl,_,d8,d9,an,_,rfl,c7⟩;try dsimp only at hd
 obtain ⟨da,c8,hd⟩:=bS hd;refine AJ (Mf (gk.mono (b.trans an)) c7 c8) ?_;rintro _ db ⟨c9,t32,ca,cb,rfl,rfl,cc,cd⟩;refine ⟨t32,rfl,?_⟩;obtain rfl:=iS hd;exact AB ⟨c9,(t32,true,()),ca,((b.trans an).trans cb),rfl,rfl,cc,cd.tail.tail.tail⟩
noncomputable def Bx (l_0:PC) (state_1:Int) (rule_2:Int):Option Bool:=(cond (decide (rule_2< 0)) (some true) (some (decide (rule_2≥ (l_0.2.2.1.length:Int))))).bind fun z1=>cond z1 (some false) ((idx l_0.2.2.1 rule_2).bind fun e89=>(CJ l_0.2.2.2.2.2.2.1 state_1).bind fun t10=>(Al t10 (rule_2,(e89.2.1.length:Int))).bind fun t11=>some t11)
theorem GQ {l_0:Option Addr}{i:PC}{state_1:Int}{rule_2:Int}(j:Pt Uy φ l_0 i) (s0:St φ (F) h) {r:Bool}(hd:Bx i state_1 rule_2=some r):
 CallsH bW 71 [(.pointer l_0),(.int .i64 state_1),(.int .i64 rule_2)] h (Ap fun v h'=>∃ψ:AE,∃y:Bool,Sub φ ψ∧v=((.one aB):Sh).val y∧y=r∧St ψ (F) h'):=by
 refine AR mixed Tryz.func71 ?_;rw [Kn];unfold HZ;unfold Bx at hd;obtain ⟨p,b,hd⟩:=bS hd;refine Af (fun (y:Bool×Unit) w_ g=>∃ψ:AE,Sub φ ψ∧y.1=g∧St ψ (F) w_) (g:=p) ?_ ?_
 ·refine AI b rfl (fun _ b=> ?_) (fun _ b=> ?_)
  ·obtain rfl:=iS b;exact AN (true,()) rfl ⟨φ,(cP _),rfl,s0⟩
  obtain ⟨ai,aj,q,⟨_,_,rfl,⟨ak,rfl,al⟩,_,_,rfl,⟨am,rfl,an⟩,_,_,rfl,⟨k,rfl,s⟩,_,_,rfl,⟨ao,rfl,ap⟩,_,_,rfl,⟨aq,rfl,ar⟩,_,_,rfl,⟨au,rfl,av⟩,_,_,rfl,⟨aw,rfl,ax⟩,_,_,rfl,⟨ay,rfl,az⟩,_,_,rfl,⟨b0,rfl,b1⟩,_,_,rfl,⟨b2,rfl,b3⟩,_,_,rfl,rfl,_,_,rfl,⟨b4,rfl,b5⟩,_,_,rfl,rfl,rfl⟩,t⟩:=id j;have u:=s.length;refine AG _ q<|AF (x:=k) (AC s0.sub (t.at 2 rfl)) rfl ?_;obtain rfl:=iS b;exact AN ((decide (rule_2≥ (k.2.1:Int))),()) rfl ⟨φ,(cP _),(by rw [u]),s0⟩
 rintro z1 b6 ⟨w,a,rfl,c⟩;try dsimp only at hd
 refine AI hd rfl (fun _ hd=> ?_) (fun _ hd=> ?_)
 ·obtain rfl:=iS hd;exact AB ⟨w,false,a,rfl,rfl,c⟩
 obtain ⟨b7,b8,l,⟨_,_,rfl,⟨b9,rfl,ba⟩,_,_,rfl,⟨bb,rfl,bc⟩,_,_,rfl,⟨z,rfl,a0⟩,_,_,rfl,⟨bd,rfl,be⟩,_,_,rfl,⟨bf,rfl,bg⟩,_,_,rfl,⟨bh,rfl,bi⟩,_,_,rfl,⟨a1,rfl,a2⟩,_,_,rfl,⟨bj,rfl,bk⟩,_,_,rfl,⟨bl,rfl,bm⟩,_,_,rfl,⟨bn,rfl,bo⟩,_,_,rfl,rfl,_,_,rfl,⟨bp,rfl,bq⟩,_,_,rfl,rfl,rfl⟩,d⟩:=id j;refine AG _ l<|AF (x:=a1) (AC (eW a c.sub) (d.at 6 rfl)) rfl<|AG _ l<|AF (x:=z) (AC (eW a c.sub) (d.at 2 rfl)) rfl ?_;obtain ⟨br,a3,hd⟩:=bS hd;obtain ⟨bs,bt,a4,a5,a6,m⟩:=(a0.mono a).get a3;refine AG _ a4 (Ab a5 ?_);obtain ⟨_,_,rfl,rfl,⟨_,_,rfl,⟨n,rfl,ab⟩,aa⟩⟩:=a6;have ac:=ab.length;obtain rfl:=aa;refine AF (x:=n) (by rw [AV];exact (AC c.sub (m 1 _ rfl))) rfl ?_;obtain ⟨bu,ad,hd⟩:=bS hd;refine AJ (FU (a2.mono a) c ad) ?_;rintro _ bv ⟨bw,t10,bx,e,rfl,rfl,ae,f⟩;refine ⟨t10,rfl,?_⟩;refine AM (by rw [AV];exact (AC (eW e f.sub) (m 1 _ rfl)))<|AM (AC (eW (a.trans e) f.sub) (d.at 2 rfl)) ?_;obtain ⟨bz,o,hd⟩:=bS hd;rw [←ac]at o;refine AJ (Dl (v_1:=(rule_2,(n.2.1:Int),())) ae f o) ?_;rintro _ c0 ⟨af,t11,ag,rfl,rfl,ah⟩;refine ⟨t11,rfl,?_⟩;obtain rfl:=iS hd;exact AB ⟨af,t11,((a.trans e).trans ag),rfl,rfl,ah⟩
noncomputable def DG (l_0:PC) (state_1:Int):Option (List Int):=(CJ l_0.2.2.2.2.2.2.1 state_1).bind fun t3=>(forS (σ:=List Int) 0 (t3.length:Int) ([]:List Int) fun i_z5 z5=>(idx t3 i_z5).bind fun e73=>(idx l_0.2.2.1 e73.1).bind fun e90=>(cond (e73.2==(e90.2.1.length:Int)) ((app z5 ([e73.1]:List Int)).bind fun t19=>some t19) (some z5)).bind fun z16=>some z16).bind fun z4=>some z4
theorem Kq {l_0:Option Addr}{l:PC}{state_1:Int}(a3:Pt Uy φ l_0 l) (s0:St φ (F) h) {r:(List Int)}(hd:DG l state_1=some r):
 CallsH bW 22 [(.pointer l_0),(.int .i64 state_1)] h (Ap fun v h'=>∃ψ:AE,∃y:Slc,∃m:List Int,Sub φ ψ∧v=((.one aS):Sh).val y∧m=r∧Ro.SliceIs (cG .i64) ψ y m∧St ψ (F) h'):=by
 refine AR mixed Tryz.func22 ?_;rw [Ko];unfold Ha;unfold DG at hd;obtain ⟨bk,bl,n,⟨_,_,rfl,⟨bm,rfl,bn⟩,_,_,rfl,⟨bo,rfl,bp⟩,_,_,rfl,⟨a4,rfl,a5⟩,_,_,rfl,⟨bq,rfl,br⟩,_,_,rfl,⟨bs,rfl,bt⟩,_,_,rfl,⟨bu,rfl,bv⟩,_,_,rfl,⟨a6,rfl,a7⟩,_,_,rfl,⟨bw,rfl,bx⟩,_,_,rfl,⟨bz,rfl,c0⟩,_,_,rfl,⟨c1,rfl,c2⟩,_,_,rfl,rfl,_,_,rfl,⟨c3,rfl,c4⟩,_,_,rfl,rfl,rfl⟩,o⟩:=id a3;refine AG _ n<|AF (x:=a6) (AC s0.sub (o.at 6 rfl)) rfl ?_;obtain ⟨c5,a8,hd⟩:=bS hd;refine AJ (FU a7 s0 a8) ?_;rintro _ c6 ⟨p,t3,c7,i,rfl,rfl,q,a9⟩;refine ⟨t3,rfl,?_⟩;have s:=q.length;obtain ⟨c8,aa,hd⟩:=bS hd;refine B0 aa (fun ab (y:Int×Slc×Unit) w_ g=>∃ψ:AE,∃u:List Int,Sub p ψ∧y.1=ab∧u=g∧St ψ (cR 3 (cG .i64) y.2.1 u::F) w_) ((0:Int),((none,0,0):Slc),()) rfl ⟨p,[],(cP _),rfl,rfl,(a9.nil 3 (cG .i64))⟩ ?_ ?_ ?_
 ·rintro _ z5 c9 _ _ ⟨j,ac,f,rfl,rfl,k⟩ b ad w z;try dsimp only at b ad w z
  refine Aj (dT s w) ?_;obtain ⟨c,ae,b⟩:=bS b;obtain ⟨ca,cb,af,ag,ah,a0⟩:=(q.mono f).get ae;refine AG _ af (Ab ag ?_);obtain ⟨_,_,rfl,rfl,rfl⟩:=ah;refine AF (x:=c.1) (AC k.sub (a0 0 _ rfl)) rfl<|AF (x:=c.2) (by rw [AV];exact (AC k.sub (a0 1 _ rfl))) rfl<|AT (vs:=[.int .i64 (0:Int),.int .i64 (0:Int)]) k fun r9 cc ak=>AK ak rfl rfl fun cd al=>AK al rfl rfl fun ce d=>AA (x:=c.2) d rfl<|AG _ n<|AF (x:=a4) (AC (eW (i.trans f) d.sub) (o.at 2 rfl)) rfl<|AA (x:=c.1) d rfl ?_;obtain ⟨cf,am,b⟩:=bS b;obtain ⟨cg,ch,an,ao,ap,aq⟩:=(a5.mono (i.trans f)).get am;refine AG _ an (Ab ao ?_);obtain ⟨_,_,rfl,rfl,⟨_,_,rfl,⟨ax,rfl,ay⟩,aw⟩⟩:=ap;have az:=ay.length;obtain rfl:=aw;refine AF (x:=ax) (by rw [AV];exact (AC d.sub (aq 1 _ rfl))) rfl ?_;obtain ⟨b0,e,b⟩:=bS b;refine Af (fun (y:Slc×Unit) w_ g=>∃ψ:AE,∃a1:List Int,Sub j ψ∧a1=g∧St ψ (cR 3 (cG .i64) y.1 a1::cW 70 r9 [.int .i64 c.1,.int .i64 c.2]::F) w_) (g:=b0) ?_ ?_
  ·refine AI e (by rw [az] <;>rfl) (fun _ e=> ?_) (fun _ e=> ?_)
   ·refine AA (x:=c.1) d rfl<|AT (vs:=[.int .i64 c.1]) d fun r18 ci a2=> ?_;obtain ⟨b1,b2,e⟩:=bS e;refine Ah (r:=(cG .i64)) (ms:=([c.1]:List Int)) D2 a2.tail.at1 rfl (eJ a2) (.cons (a:=[_]) rfl .nil) rfl b2 ?_;intro t19 cj b3;obtain rfl:=iS e;exact AN (t19,()) rfl ⟨j,b1,(cP _),rfl,b3.at1.at1⟩
   obtain rfl:=iS e;exact AN (z5.2.1,()) rfl ⟨j,ac,(cP _),rfl,d.at1.at1.at1⟩
  rintro z16 ck ⟨b4,b5,b6,rfl,b7⟩;try dsimp only at b
  obtain rfl:=iS b;exact Ag ((wN z5.1),z16.1,()) _ rfl rfl ⟨b4,b5,(f.trans b6),z,rfl,b7.at1.tail⟩
 ·rintro _ z5 cl ⟨b8,b9,ba,rfl,rfl,bb⟩ bc;refine Aa (dF s bc)<|AO (AQ (z5.1,z5.2.1,()) rfl ⟨_,b8,b9,ba,rfl,rfl,bb⟩)
 rintro z4 cm ⟨_,cn,bd,be,_,rfl,bf⟩;try dsimp only at hd
 obtain ⟨bg,bh,bi,bj⟩:=dX (t:=z4.2.1) bf;obtain rfl:=iS hd;exact AB ⟨bg,z4.2.1,bd,((i.trans be).trans bh),rfl,rfl,bi,bj⟩
end
end Go.Proofs.YteolcjbobmpdiaaGreatDoor
namespace Go.Proofs.YteolcjbobmpdiaaGreatDoor
open Go Go.Eng Dg
set_option linter.unusedVariables false
set_option maxRecDepth 100000
abbrev Stp:Type:=Ux
noncomputable def Oz {σ:Type}(p:dtP) (A:dtA) (f:σ→Stp→Int→Option σ) (s:σ):Option σ:=(Bn A).bind fun n=>forS 0 n s fun i s=>(CK A i).bind fun es=>forS 0 (es.length:Int) s fun j s=>(idx es j).bind fun e=>(BT p e.1).bind fun t=>cond (!t) (f s (i,e.1) e.2) (some s)
abbrev EnS:Type:=List Stp×List (Stp×Int)
def KC (st:EnS) (s:Stp) (_:Int):Option EnS:=(app st.1 [s]).bind fun l=>some (l,CB s (st.1.length:Int) st.2)
noncomputable def XS (l_0:Option Addr) (g:Nat) (args:Int→Int→Int→List Value):T:=deref l_0 fun a1=>bN a1 6 fun t2=>bV 20 [(.pointer t2)] (.one aI) fun (t3:Int)=>cZ 0 [aI] (dQ [aI] [(.int .i64 0)] fun (z5:Int×Unit)=>cond (decide (z5.1<t3)) (deref l_0 fun a6=>bN a6 6 fun t7=>bV 34 [(.pointer t7),(.int .i64 z5.1)] (.one aS) fun (t8:Slc)=>cZ 2 [aI] (dQ [aI] [(.int .i64 0)] fun (z10:Int×Unit)=>cond (decide (z10.1< (t8.2.1:Int))) (deref t8.1 fun a11=>chk (0≤z10.1∧z10.1< (t8.2.1:Nat))<|aJ a11 z10.1 2 fun t12=>aQ a11 z10.1 2 1 fun t13=>aD #[(.int .i64 0),(.int .i64 0)] 73 fun r14=>aT r14 0 t12<|aT r14 1 t13<|deref l_0 fun a15=>bM a15 fun t16=>aL a15 1 fun t17=>aL a15 2 fun t18=>aL a15 3 fun t19=>aL a15 4 fun t20=>aL a15 5 fun t21=>aR r14 0 fun t22=>bV 86 [(.agg #[(sv t16),(sv t17),(sv t18),(sv t19),(sv t20),(sv t21)]),(.int .i64 t22)] (.one aB) fun (t23:Bool)=>dY [] (cond (!t23) (aR r14 0 fun t25=>aR r14 1 fun t26=>bV g (args z5.1 t25 t26) (.tuple []) fun (_:Unit)=>cF []) (cF [])) fun (_:Unit)=>cF [(.int .i64 (bT .i64 (z10.1+(1:Int))))]) (eB 2 [(.int .i64 z10.1)])) fun (_:Int×Unit)=>cF [(.int .i64 (bT .i64 (z5.1+(1:Int))))]) (eB 0 [(.int .i64 z5.1)])) fun (_:Int×Unit)=>dK (.tuple #[])
section
variable {φ ψ:AE}{h:AH}{F:List Chk}{a:Addr}{t:Slc×Slc×Slc×Slc×Slc×Slc×Unit}{p:dtP}{ap:Option Addr}{A:dtA}
theorem RV {K:Bool→T}{P:Bv→AH→Prop}{b:Nat}{v:Value}{s:Int}(cells:∀j v,(plV t)[j]? =some v→Bg h (a.add j)=some v) (hs:Bg h ⟨b,0,none⟩=some (.int .i64 s)) (k:PlK φ t p) (st:St φ F h) {r:Bool}(hd:BT p s=some r)
 (hk:∀ψ h',Sub φ ψ→St ψ F h'→(K r).wp bW P h'):
 (dB .slice a fun (t6:Slc)=>dB .slice (a.add 1) fun (t7:Slc)=>dB .slice (a.add 2) fun (t8:Slc)=>dB .slice (a.add 3) fun (t9:Slc)=>dB .slice (a.add 4) fun (t10:Slc)=>dB .slice (a.add 5) fun (t11:Slc)=>
  dB (.int .i64) ⟨b,0,none⟩ fun (t22:Int)=>
  bV 86 [(.agg #[(sv t6),(sv t7),(sv t8),(sv t9),(sv t10),(sv t11)]),(.int .i64 t22)] (.one aB) K).wp bW P h:=by
 refine AF (x:=t.1) (by have:=cells 0 _ rfl;rwa [add_zero]at this) rfl<|AF (x:=t.2.1) (cells 1 _ rfl) rfl<|AF (x:=t.2.2.1) (cells 2 _ rfl) rfl<|AF (x:=t.2.2.2.1) (cells 3 _ rfl) rfl<|AF (x:=t.2.2.2.2.1) (cells 4 _ rfl) rfl<|AF (x:=t.2.2.2.2.2.1) (cells 5 _ rfl) rfl<|AF (x:=s) hs rfl<|AJ (Dy (p_0:=t) k.k0 k.k1 k.k2 k.k3 k.k4 k.k5 st hd) ?_;rintro _ h1 ⟨ψ,y,le,rfl,rfl,s1⟩;exact ⟨y,rfl,hk ψ h1 le s1⟩
set_option maxHeartbeats 2000000 in
theorem TV {X σ:Type}(Γ:X→List Chk) (al:X→σ) (f:σ→Stp→Int→Option σ) (g:Nat) (args:Int→Int→Int→List Value)
 (hcells:∀ψ x w Δ,Sub φ ψ→St ψ (Γ x++Δ) w→ ∀j v,(plV t++ [.pointer ap])[j]? =some v→Bg w (a.add j)=some v)
 (hcall:∀ψ w x s' n s to Δ,Sub φ ψ→St ψ (Γ x++Δ) w→f (al x) (n,s) to=some s'→CallsH bW g (args n s to) w (Ap fun v h'=>v= .tuple #[] ∧ ∃ψ' x',Sub ψ ψ'∧al x'=s'∧St ψ' (Γ x'++Δ) h'))
 (kA:Pt Fq φ ap A) (kP:PlK φ t p) {x:X} {s':σ} (hd:Oz p A f (al x)=some s') (s0:St φ (Γ x++F) h):
 (XS (some a) g args).wp bW (Na (Ap fun v h'=>v= .tuple #[] ∧ ∃ψ x',Sub φ ψ∧al x'=s'∧St ψ (Γ x'++F) h')) h:=by
 unfold XS;unfold Oz at hd;obtain ⟨n,hn,hd⟩:=bS hd;have pc:∀ {ψ x w Δ},Sub φ ψ→St ψ (Γ x++Δ) w→ ∀j v,(plV t)[j]? =some v→Bg w (a.add j)=some v:=fun {ψ x w Δ} le st j v hv=>hcells ψ x w Δ le st j v (by rw [bX (List.getElem?_eq_some_iff.1 hv).1];exact hv);refine AG _ rfl<|AF (x:=ap) (hcells _ _ _ _ (cP _) s0 6 _ rfl) rfl<|AJ (Cm kA s0 hn) ?_;rintro _ h1 ⟨ψ1,y,le1,rfl,rfl,st1⟩;refine ⟨y,rfl,?_⟩;refine Av (fun (z:Int×Unit) w g=>∃ψ x',Sub φ ψ∧al x'=g∧St ψ (Γ x'++F) w) (g:=s') ?_ ?_
 ·refine Co hd (fun i (z:Int×Unit) w g=>z.1=i∧ ∃ψ x',Sub φ ψ∧al x'=g∧St ψ (Γ x'++F) w) ((0:Int),()) rfl ⟨rfl,ψ1,x,le1,rfl,st1⟩ ?_ ?_
  ·rintro i z w s e ⟨rfl,ψ,x1,le,rfl,st⟩ he h0 hlt hw;refine Aj (decide_eq_true hlt) ?_;obtain ⟨es,hes,he⟩:=bS he;refine AG _ rfl<|AF (x:=ap) (hcells _ _ _ _ le st 6 _ rfl) rfl<|AJ (FV (kA.mono le) st hes) ?_;rintro _ h2 ⟨ψ2,t8,l2,le2,rfl,rfl,k8,st2⟩;refine ⟨t8,rfl,?_⟩;have n8:=k8.length;refine Av (fun (z:Int×Unit) w g=>∃ψ x',Sub φ ψ∧al x'=g∧St ψ (Γ x'++F) w) (g:=e) ?_ ?_
   ·refine Co he (fun i (z:Int×Unit) w g=>z.1=i∧ ∃ψ' x',Sub ψ2 ψ'∧al x'=g∧St ψ' (Γ x'++F) w) ((0:Int),()) rfl ⟨rfl,ψ2,x1,cP _,rfl,st2⟩ ?_ ?_
    ·rintro i2 z2 w2 s2 e2 ⟨rfl,ψ3,x3,le3,rfl,st3⟩ he2 h02 hlt2 hw2;have le03:=(le.trans le2).trans le3;refine Aj (by rw [n8];exact decide_eq_true hlt2) ?_;obtain ⟨ed,hed,he2⟩:=bS he2;obtain ⟨tm,htm,he2⟩:=bS he2;obtain ⟨A1,cs1,ea1,hi1,q1,cl1⟩:=(k8.mono le3).get hed;refine AG _ ea1 (Ab hi1 ?_);obtain ⟨_,_,rfl,rfl,rfl⟩:=q1;refine AF (x:=ed.1) (AC st3.sub (cl1 0 _ rfl)) rfl<|AF (x:=ed.2) (by rw [AV];exact AC st3.sub (cl1 1 _ rfl)) rfl<|AT (vs:=[.int .i64 0,.int .i64 0]) st3 ?_;intro r14 h3 st4;refine Cj (b:=r14) (j:=0) (v:=.int .i64 ed.1) st4 rfl (by simp) ?_;intro h4 st5;refine Cj (b:=r14) (j:=1) (v:=.int .i64 ed.2) st5 rfl (by simp) ?_;intro h5 st6;have st7:St ψ3 (Γ x3++(⟨eZ 73,[.pointer (some ⟨r14,0,none⟩)],[.int .i64 ed.1,.int .i64 ed.2]⟩::F)) h5:=st6.perm (bZ (l₁:=Γ x3)).symm;refine AG _ rfl (RV (v:=.nilFunc) (pc le03 st7) (st6.cell rfl) (kP.mono le03) st7 htm ?_);intro ψ4 h6 le4 st8;refine Af (fun (_:Unit) w g=>∃ψ' x',Sub ψ2 ψ'∧al x'=g∧St ψ' (Γ x'++F) w) (g:=e2) ?_ ?_
     ·refine AI he2 rfl (fun _ he2=> ?_) (fun _ he2=> ?_)
      ·have st9:St ψ4 (⟨eZ 73,[.pointer (some ⟨r14,0,none⟩)],[.int .i64 ed.1,.int .i64 ed.2]⟩::(Γ x3++F)) h6:=st8.perm (bZ (l₁:=Γ x3));refine AA (b:=r14) (j:=0) (x:=ed.1) st9 rfl<|AA (b:=r14) (j:=1) (x:=ed.2) st9 rfl<|AJ (hcall ψ4 h6 x3 e2 z.1 ed.1 ed.2 _ (le03.trans le4) st8 he2) ?_;rintro _ h7 ⟨rfl,ψ5,x5,le5,hx5,st10⟩;refine ⟨(),rfl,?_⟩;have st11:St ψ5 (⟨eZ 73,[.pointer (some ⟨r14,0,none⟩)],[.int .i64 ed.1,.int .i64 ed.2]⟩::(Γ x5++F)) h7:=st10.perm (bZ (l₁:=Γ x5));exact AN () rfl ⟨ψ5,x5,(le3.trans le4).trans le5,hx5,st11.tail⟩
      ·obtain rfl:=iS he2;have st9:St ψ4 (⟨eZ 73,[.pointer (some ⟨r14,0,none⟩)],[.int .i64 ed.1,.int .i64 ed.2]⟩::(Γ x3++F)) h6:=st8.perm (bZ (l₁:=Γ x3));exact AN () rfl ⟨ψ4,x3,le3.trans le4,rfl,st9.tail⟩
     ·rintro _ h7 H;exact Ag (bT .i64 (z2.1+(1:Int)),()) _ rfl rfl ⟨hw2,H⟩
    ·rintro i2 z2 w2 ⟨rfl,ψ3,x3,le3,H⟩ hge;refine Aa (by rw [n8];exact decide_eq_false (Int.not_lt.2 hge))<|AO (AQ z2 rfl ⟨ψ3,x3,(le.trans le2).trans le3,H⟩)
   ·rintro _ h7 H;exact Ag (bT .i64 (z.1+(1:Int)),()) _ rfl rfl ⟨hw,H⟩
  ·rintro i z w ⟨rfl,H⟩ hge;refine Aa (decide_eq_false (Int.not_lt.2 hge))<|AO (AQ z rfl H)
 ·rintro _ h7 H;exact AB ⟨rfl,H⟩
end
theorem QL:Pu bW 224:=⟨_,_,Tryz.underlying224,by kernel_rfl,by decide,by decide,rfl,rfl,eX,eX⟩
theorem RW:Pu bW 141:=⟨_,_,Tryz.underlying141,by kernel_rfl,by decide,by decide,rfl,rfl,eX,eX⟩
theorem XT:Gm bW 134 134 224 2:=⟨gD,.inl gD,⟨Tryz.t224,by kernel_rfl,rfl,⟨_,rfl,rfl⟩,by decide,by decide⟩,by decide⟩
abbrev lkV (t:Slc×Slc×Slc×Slc×Slc×Slc×Unit) (ap:Option Addr) (fz:Slc×Slc×Slc×Int×Unit) (sl:Slc) (nm lm:Nat):List Value:=
 plV t++ [.pointer ap,sv fz.1,sv fz.2.1,sv fz.2.2.1,.int .i64 fz.2.2.2.1,sv sl,.map (some nm),.map (some lm)]
abbrev lkB (b:Nat) (t:Slc×Slc×Slc×Slc×Slc×Slc×Unit) (ap:Option Addr) (fz:Slc×Slc×Slc×Int×Unit) (sl:Slc) (nm lm:Nat):Chk:=cW 138 b (lkV t ap fz sl nm lm)
structure EnX where
 sl:Slc
 steps:List Stp
 num:List (Stp×Int)
abbrev enC (b:Nat) (t:Slc×Slc×Slc×Slc×Slc×Slc×Unit) (ap:Option Addr) (fz:Slc×Slc×Slc×Int×Unit) (nm lm:Nat) (x:EnX):List Chk:=
 [lkB b t ap fz x.sl nm lm,cR 224 Qu x.sl x.steps,cM DA (cG .i64) nm x.num]
section
variable {φ ψ:AE}{h:AH}{F:List Chk}{t:Slc×Slc×Slc×Slc×Slc×Slc×Unit}{p:dtP}{ap:Option Addr}{A:dtA}{fz:Slc×Slc×Slc×Int×Unit}{nm lm b:Nat}
theorem UU {x:EnX}{n s to:Int}{r:EnS}(hd:KC (x.steps,x.num) (n,s) to=some r) (s0:St φ (enC b t ap fz nm lm x++F) h):
 CallsH bW 108 [.pointer (some ⟨b,0,none⟩),.agg #[.int .i64 n,.int .i64 s],.int .i64 to] h (Ap fun v h'=>v= .tuple #[] ∧ ∃ψ x',Sub φ ψ∧(x'.steps,x'.num)=r∧St ψ (enC b t ap fz nm lm x'++F) h'):=by
 refine AR mixed Tryz.func108 ?_;rw [show AZ bW Tryz.f108 [.pointer (some ⟨b,0,none⟩),.agg #[.int .i64 n,.int .i64 s],.int .i64 to] =El (some ⟨b,0,none⟩) (n,s,()) to from J8 (some ⟨b,0,none⟩) (n,s,()) to];unfold El;unfold KC at hd;obtain ⟨l,hl,hd⟩:=bS hd;obtain rfl:=iS hd;have hlen:=(s0.at1).rowLen;refine AT (vs:=[.int .i64 n,.int .i64 s]) s0 ?_;intro r1 h1 s1;refine AG _ rfl<|AA (b:=b) (j:=12) (x:=some nm) s1.at1 rfl<|AA (b:=r1) (j:=0) (x:=n) s1 rfl<|AA (b:=r1) (j:=1) (x:=s) s1 rfl<|AG _ rfl<|AA (b:=b) (j:=11) (x:=x.sl) s1.at1 rfl<|Ja (kk:=DA) (k:=(n,s)) (y:=(x.steps.length:Int)) fJ QL (s1.at3) (by rw [←hlen];rfl) ?_;intro h2 s2;refine AG _ rfl<|AA (b:=b) (j:=11) (x:=x.sl) (s2.at2) rfl<|AA (b:=r1) (j:=0) (x:=n) (s2.at1) rfl<|AA (b:=r1) (j:=1) (x:=s) (s2.at1) rfl<|AT (vs:=[.int .i64 n,.int .i64 s]) s2 ?_;intro r13 h3 s3;refine AM (s3.at3.cell (b:=b) (j:=11) rfl) ?_;have cw:=eJ s3;refine Ah (r:=Qu) (ms:=[(n,s)]) XT (s3.at4) rfl cw (.cons (a:=[_,_]) ⟨[_],_,rfl,rfl,rfl⟩ .nil) rfl hl ?_;intro t14 h4 s4;refine AG _ rfl<|Cj (b:=b) (j:=11) (v:=sv t14) (s4.at4) rfl (by simp) ?_;intro h5 s5;refine AB ⟨rfl,φ,⟨t14,l,CB (n,s) (x.steps.length:Int) x.num⟩,cP _,rfl,s5.at2.tail.at3.tail⟩
theorem Yj (l k:Option Addr):G6 l k=XS l 108 fun n s to=>[.pointer k,.agg #[.int .i64 n,.int .i64 s],.int .i64 to]:=rfl
theorem V7 (kA:Pt Fq φ ap A) (kP:PlK φ t p) {x:EnX}{s':EnS}(hd:Oz p A KC (x.steps,x.num)=some s') (s0:St φ (enC b t ap fz nm lm x++F) h):
 CallsH bW 107 [.pointer (some ⟨b,0,none⟩),.func (.func 108) #[.pointer (some ⟨b,0,none⟩)] #[]] h (Ap fun v h'=>v= .tuple #[] ∧ ∃ψ x',Sub φ ψ∧(x'.steps,x'.num)=s'∧St ψ (enC b t ap fz nm lm x'++F) h'):=by
 refine AR mixed Tryz.func107 ?_;rw [J6,Yj];refine TV (φ:=φ) (F:=F) (A:=A) (ap:=ap) (t:=t) (p:=p) (fun x:EnX=>enC b t ap fz nm lm x) (fun x=>(x.steps,x.num)) KC _ _ ?_ ?_ kA kP hd s0
 ·intro ψ x w Δ le st j v hv;have hc:(lkV t ap fz x.sl nm lm)[j]? =some v:=by
   have e:lkV t ap fz x.sl nm lm=(plV t++ [.pointer ap]) ++ [sv fz.1,sv fz.2.1,sv fz.2.2.1,.int .i64 fz.2.2.2.1,sv x.sl,.map (some nm),.map (some lm)]:=rfl;rw [e,bX (List.getElem?_eq_some_iff.1 hv).1];exact hv
  rw [EL,eL];exact St.cell st hc
 ·intro ψ w x s' n s to Δ le st hf;exact UU hf st
end
abbrev ZV:Type:=PC
abbrev lkT (p:dtP) (A:dtA) (fa:dtF) (steps:List Stp) (nm lm:Option Nat):ZV:=(p.1,p.2.1,p.2.2.1,p.2.2.2.1,p.2.2.2.2.1,p.2.2.2.2.2,A,fa.1,fa.2.1,fa.2.2.1,fa.2.2.2,steps,nm,lm)
structure LkK (φ:AE) (a:Addr) (t:Slc×Slc×Slc×Slc×Slc×Slc×Unit) (ap:Option Addr) (fz:Slc×Slc×Slc×Int×Unit) (sl:Slc) (nm lm:Nat) (p:dtP) (A:dtA) (fa:dtF) (steps:List Stp):Prop where
 cells:DO φ (some a) (lkV t ap fz sl nm lm)
 pl:PlK φ t p
 kA:Pt Fq φ ap A
 f0:Ro.SliceIs eO φ fz.1 fa.1
 f1:Ro.SliceIs (eD (cG .i64)) φ fz.2.1 fa.2.1
 f2:Ro.SliceIs (eD (cG .i64)) φ fz.2.2.1 fa.2.2.1
 f3:fz.2.2.2.1=fa.2.2.2
 ks:Ro.SliceIs Qu φ sl steps
section
variable {φ ψ:AE}{h:AH}{F:List Chk}{a:Addr}{t:Slc×Slc×Slc×Slc×Slc×Slc×Unit}{p:dtP}{ap:Option Addr}{A:dtA}{fz:Slc×Slc×Slc×Int×Unit}{sl:Slc}{nm lm b:Nat}{fa:dtF}{steps:List Stp}
theorem LkK.mono (H:LkK φ a t ap fz sl nm lm p A fa steps) (hs:Sub φ ψ):LkK ψ a t ap fz sl nm lm p A fa steps:=
 ⟨H.cells.mono hs,H.pl.mono hs,H.kA.mono hs,H.f0.mono hs,H.f1.mono hs,H.f2.mono hs,H.f3,H.ks.mono hs⟩
theorem LkK.at (H:LkK φ a t ap fz sl nm lm p A fa steps) (st:St φ F h) {j:Nat}{v:Value}(hv:(lkV t ap fz sl nm lm)[j]? =some v):Bg h (a.add j)=some v:=AC st.sub (H.cells.at j hv)
theorem LkK.pv (H:LkK φ a t ap fz sl nm lm p A fa steps) (st:St φ F h):∀j v,(plV t)[j]? =some v→Bg h (a.add j)=some v:=fun j v hv=>H.at st (by
 rw [bX (List.getElem?_eq_some_iff.1 hv).1];exact hv)
theorem LkK.pt (H:LkK φ a t ap fz sl nm lm p A fa steps):Pt Uy φ (some a) (lkT p A fa steps (some nm) (some lm)):=by
 refine ⟨a,_,rfl,?_,H.cells⟩;exact ⟨[_],_,rfl,⟨t.1,rfl,H.pl.k0⟩,[_],_,rfl,⟨t.2.1,rfl,H.pl.k1⟩,[_],_,rfl,⟨t.2.2.1,rfl,H.pl.k2⟩,[_],_,rfl,⟨t.2.2.2.1,rfl,H.pl.k3⟩,[_],_,rfl,⟨t.2.2.2.2.1,rfl,H.pl.k4⟩,[_],_,rfl,⟨t.2.2.2.2.2.1,rfl,H.pl.k5⟩,[_],_,rfl,⟨ap,rfl,H.kA⟩,
  [_],_,rfl,⟨fz.1,rfl,H.f0⟩,[_],_,rfl,⟨fz.2.1,rfl,H.f1⟩,[_],_,rfl,⟨fz.2.2.1,rfl,H.f2⟩,[_],_,rfl,(show [Value.int .i64 fz.2.2.2.1] = [Value.int .i64 fa.2.2.2] by rw [H.f3]),[_],_,rfl,⟨sl,rfl,H.ks⟩,[_],_,rfl,rfl,rfl⟩
end
abbrev RdS:Type:=List AX×List (List Int)
noncomputable def OL (p:dtP) (A:dtA) (fa:dtF) (steps:List Stp) (num:List (Stp×Int)) (st:RdS) (s:Stp) (to:Int):Option RdS:=(B5 (nT p)).bind fun s0=>(Bx (lkT p A fa steps none none) to 0).bind fun b=>(cond b ((Aq s0 0).bind fun u=>some u.2) (some s0)).bind fun s1=>(CK A to).bind fun es=>(forS (σ:=AX×List Int) 0 (es.length:Int) (s1,[]) fun j z=>(idx es j).bind fun e=>(BT p e.1).bind fun t=>cond t ((Aq z.1 e.1).bind fun u=>some (u.2,z.2)) ((idx fa.1 (bT .i64 (e.1 - nT p))).bind fun b=>cond b ((app z.2 [(BY (to,e.1) num).getD 0]).bind fun l=>some (z.1,l)) (some z))).bind fun z=>(app st.1 [z.1]).bind fun d'=>(app st.2 [z.2]).bind fun e'=>some (d',e')
structure RdX where
 dl:Slc
 el:Slc
 ps:List (Option Addr)
 ds:List AX
 es:List (List Int)
 eq:ps.length=ds.length
abbrev rdC (c3 c4 nm:Nat) (num:List (Stp×Int)) (x:RdX):List Chk:=
 cW 195 c3 [sv x.dl]::cW 97 c4 [sv x.el]::Et x.dl x.ps::SS x.el x.es::cM DA (cG .i64) nm num::AS x.ps x.ds
theorem V8:Gm bW 30 30 3 1:=U7
section
variable {φ ψ:AE}{h:AH}{F:List Chk}{a:Addr}{t:Slc×Slc×Slc×Slc×Slc×Slc×Unit}{p:dtP}{ap:Option Addr}{A:dtA}{fz:Slc×Slc×Slc×Int×Unit}{sl:Slc}{nm lm b:Nat}{fa:dtF}{steps:List Stp}
theorem QM {c3 c4:Nat}{num:List (Stp×Int)}{x:RdX}{q:Option Addr}{s:AX}{d e:Slc}{es:List (List Int)}
 (H:St φ (cW 97 c4 [sv e]::cW 195 c3 [sv d]::SS e es::Et d (x.ps++ [q])::Bc q s::cM DA (cG .i64) nm num::(AS x.ps x.ds++F)) h):
 St φ (rdC c3 c4 nm num ⟨d,e,x.ps++ [q],x.ds++ [s],es,by simp [x.eq]⟩ ++F) h:=by
 have e1:AS (x.ps++ [q]) (x.ds++ [s])=AS x.ps x.ds++ [Bc q s]:=KP x.eq q s;show St φ (cW 195 c3 [sv d]::cW 97 c4 [sv e]::Et d (x.ps++ [q])::SS e es::cM DA (cG .i64) nm num::(AS (x.ps++ [q]) (x.ds++ [s]) ++F)) h;rw [e1,cH];refine H.perm<|(cN _ _ _).trans (cA _ (cA _ ((cN _ _ _).trans (cA _ (cA _ ((cN _ _ _).trans (cA _ ?_)))))));exact (bZ (l₁:=AS x.ps x.ds)).symm
set_option maxHeartbeats 4000000 in
theorem Sn {c2 c3 c4:Nat}(K:LkK φ a t ap fz sl nm lm p A fa steps) (hbox:Dv φ ⟨c2,0,none⟩=some (.pointer (some a))) {num:List (Stp×Int)}{x:RdX}{n s to:Int}{r:RdS}(hd:OL p A fa steps num (x.ds,x.es) (n,s) to=some r) (s0:St φ (rdC c3 c4 nm num x++F) h):
 CallsH bW 137 [.agg #[.int .i64 n,.int .i64 s],.int .i64 to,.pointer (some ⟨c2,0,none⟩),.pointer (some ⟨c3,0,none⟩),.pointer (some ⟨c4,0,none⟩)] h (Ap fun v h'=>v= .tuple #[] ∧ ∃ψ x',Sub φ ψ∧(x'.ds,x'.es)=r∧St ψ (rdC c3 c4 nm num x'++F) h'):=by
 refine AR mixed Tryz.func137 ?_;rw [show AZ bW Tryz.f137 [.agg #[.int .i64 n,.int .i64 s],.int .i64 to,.pointer (some ⟨c2,0,none⟩),.pointer (some ⟨c3,0,none⟩),.pointer (some ⟨c4,0,none⟩)] =D9 (n,s,()) to c2 c3 c4 from Il (n,s,()) to c2 c3 c4];unfold D9;unfold OL at hd;obtain ⟨s00,hs0,hd⟩:=bS hd;obtain ⟨b,hb,hd⟩:=bS hd;obtain ⟨s01,hs1,hd⟩:=bS hd;obtain ⟨es,hes,hd⟩:=bS hd;obtain ⟨zz,hzz,hd⟩:=bS hd;obtain ⟨d',hd',hd⟩:=bS hd;obtain ⟨e',he',hd⟩:=bS hd;obtain rfl:=iS hd;have bx:∀ {ψ:AE} {Γ:List Chk} {w:AH},Sub φ ψ→St ψ Γ w→Bg w ⟨c2,0,none⟩=some (.pointer (some a)):=fun le st=>AC st.sub (An le hbox);have n0:t.1.2.1=p.1.length:=K.pl.k0.length;refine AT (vs:=[.int .i64 n,.int .i64 s]) s0 ?_;intro r1 h1 s1;have s1:=s1.tail;refine AF (x:=some a) (bx (cP _) s1) rfl<|AG _ rfl<|AF (x:=t.1) (by have:=K.at s1 (j:=0) rfl;rwa [add_zero]at this) rfl ?_;rw [n0];refine AJ (D4 s1 hs0) ?_;rintro _ h2 ⟨ψ2,q,l2,le2,rfl,rfl,s2⟩;refine ⟨q,rfl,?_⟩;refine AF (x:=some a) (bx le2 s2) rfl<|AJ (GQ (K.mono le2).pt s2 (show Bx (lkT p A fa steps (some nm) (some lm)) to 0=some b from hb)) ?_;rintro _ h3 ⟨ψ3,y3,le3,rfl,rfl,s3⟩;refine ⟨y3,rfl,?_⟩;have le03:=le2.trans le3;refine Af (fun (_:Unit) w g=>∃ψ,Sub φ ψ∧St ψ (Bc q g::(rdC c3 c4 nm num x++F)) w) (g:=s01) ?_ ?_
 ·refine AI hs1 rfl (fun _ hs1=> ?_) (fun _ hs1=> ?_)
  ·obtain ⟨u,hu,hs1⟩:=bS hs1;obtain rfl:=iS hs1;refine AJ (CV s3 hu) ?_;rintro _ h4 ⟨ψ4,y4,l4,le4,rfl,e4,s4⟩;refine ⟨y4,rfl,?_⟩
   have:u.2=l4:=by rw [←e4]
   rw [this];exact AN () rfl ⟨ψ4,le03.trans le4,s4⟩
  ·obtain rfl:=iS hs1;exact AN () rfl ⟨ψ3,le03,s3⟩
 ·rintro _ h4 ⟨ψ4,le4,s4⟩;refine AF (x:=some a) (bx le4 s4) rfl<|AG _ rfl<|AF (x:=ap) ((K.mono le4).at s4 (j:=6) rfl) rfl<|AJ (FV (K.mono le4).kA s4 hes) ?_;rintro _ h5 ⟨ψ5,t13,l5,le5,rfl,rfl,k13,s5⟩;refine ⟨t13,rfl,?_⟩;have n13:=k13.length;have le05:=le4.trans le5;refine Av (fun (z:Int×Slc×Unit) w g=>∃ψ,Sub φ ψ∧St ψ (cR 3 (cG .i64) z.2.1 g.2::Bc q g.1::(rdC c3 c4 nm num x++F)) w) (g:=zz) ?_ ?_
  ·refine Co hzz (fun i (z:Int×Slc×Unit) w g=>z.1=i∧ ∃ψ,Sub ψ5 ψ∧St ψ (cR 3 (cG .i64) z.2.1 g.2::Bc q g.1::(rdC c3 c4 nm num x++F)) w) ((0:Int),((none,0,0):Slc),()) rfl ⟨rfl,ψ5,cP _,gP _ _ s5⟩ ?_ ?_
   ·rintro i z w ⟨gs,gl⟩ e ⟨rfl,ψ6,le6,s6⟩ he h0 hlt hw;dsimp only at s6 he;have le06:=le05.trans le6;refine Aj (by rw [n13];exact decide_eq_true hlt) ?_;obtain ⟨ed,hed,he⟩:=bS he;obtain ⟨tm,htm,he⟩:=bS he;obtain ⟨A1,cs1,ea1,hi1,q1,cl1⟩:=(k13.mono le6).get hed;refine AG _ ea1 (Ab hi1 ?_);obtain ⟨_,_,rfl,rfl,rfl⟩:=q1;refine AF (x:=ed.1) (AC s6.sub (cl1 0 _ rfl)) rfl<|AF (x:=ed.2) (by rw [AV];exact AC s6.sub (cl1 1 _ rfl)) rfl<|AT (vs:=[.int .i64 0,.int .i64 0]) s6 ?_;intro r19 h7 s7;refine Cj (b:=r19) (j:=0) (v:=.int .i64 ed.1) s7 rfl (by simp) ?_;intro h8 s8;refine Cj (b:=r19) (j:=1) (v:=.int .i64 ed.2) s8 rfl (by simp) ?_;intro h9 s9;refine AF (x:=some a) (bx le06 s9) rfl<|AG _ rfl (RV (v:=.nilFunc) ((K.mono le06).pv s9) (s9.cell rfl) (K.mono le06).pl s9 htm ?_);intro ψ10 h10 le10 s10;have le010:=le06.trans le10;refine Af (fun (y:Slc×Unit) w g=>∃ψ,Sub ψ5 ψ∧St ψ (cR 3 (cG .i64) y.1 g.2::Bc q g.1::(rdC c3 c4 nm num x++F)) w) (g:=e) ?_ ?_
    ·refine AI he rfl (fun _ he=> ?_) (fun _ he=> ?_)
     ·obtain ⟨u,hu,he⟩:=bS he;obtain rfl:=iS he;refine AA (b:=r19) (j:=0) (x:=ed.1) s10 rfl<|AJ (CV (s10.tail.at1) hu) ?_;rintro _ h11 ⟨ψ11,y11,l11,le11,rfl,e11,s11⟩;refine ⟨y11,rfl,?_⟩
      have:u.2=l11:=by rw [←e11]
      rw [this];exact AN (z.2.1,()) rfl ⟨ψ11,(le6.trans le10).trans le11,s11.at1⟩
     ·obtain ⟨bb,hbb,he⟩:=bS he;refine AF (x:=some a) (bx le010 s10) rfl<|AG _ rfl<|AF (x:=fz.1) ((K.mono le010).at s10 (j:=7) rfl) rfl<|AA (b:=r19) (j:=0) (x:=ed.1) s10 rfl<|AF (x:=some a) (bx le010 s10) rfl<|AG _ rfl<|AF (x:=t.1) (by have:=(K.mono le010).at s10 (j:=0) rfl;rwa [add_zero]at this) rfl ?_;rw [n0];obtain ⟨A2,cs2,ea2,hi2,q4,cl2⟩:=((K.mono le010).f0).get hbb;refine AG _ ea2 (Ab hi2 ?_);obtain rfl:=q4;refine AF (x:=bb) (AC s10.sub (cl2 0 _ rfl)) rfl<|Af (fun (y:Slc×Unit) w g=>∃ψ,Sub ψ5 ψ∧St ψ (cR 3 (cG .i64) y.1 g.2::Bc q g.1::(rdC c3 c4 nm num x++F)) w) (g:=e) ?_ ?_
      ·refine AI he rfl (fun _ he=> ?_) (fun _ he=> ?_)
       ·obtain ⟨l',hl',he⟩:=bS he;obtain rfl:=iS he;refine AF (x:=some a) (bx le010 s10) rfl<|AG _ rfl<|AF (x:=some nm) ((K.mono le010).at s10 (j:=12) rfl) rfl<|AA (b:=r19) (j:=0) (x:=ed.1) s10 rfl<|Gh (kk:=DA) (a:=.int .i64) (k:=(to,ed.1)) (m:=num) (0:Int) fJ QL (i:=Tryz.t3) (by kernel_rfl) rfl (s10.at7)<|AT (vs:=[.int .i64 ((BY (to,ed.1) num).getD 0)]) s10 ?_;intro r48 h11 s11;have cw:=eJ s11;refine Ah (r:=cG .i64) (ms:=[(BY (to,ed.1) num).getD 0]) V8 (s11.at2) rfl cw (.cons (a:=[_]) rfl .nil) rfl hl' ?_;intro t49 h12 s12;exact AN (t49,()) rfl ⟨ψ10,le6.trans le10,s12.at1.tail.at1.tail⟩
       ·obtain rfl:=iS he;exact AN (z.2.1,()) rfl ⟨ψ10,le6.trans le10,s10.tail⟩
      ·rintro y h11 H;exact AN (y.1,()) rfl H
    ·rintro y h11 H;exact Ag (bT .i64 (z.1+(1:Int)),y.1,()) _ rfl rfl ⟨hw,H⟩
   ·rintro i z w ⟨rfl,ψ6,le6,H⟩ hge;refine Aa (by rw [n13];exact decide_eq_false (Int.not_lt.2 hge))<|AO (AQ z rfl ⟨ψ6,le05.trans le6,H⟩)
  ·rintro z14 h6 ⟨ψ6,le6,s6⟩;obtain ⟨ψ7,le7,k14,s7⟩:=dX (t:=z14.2.1) s6;have le07:=le6.trans le7;obtain ⟨hap,rfl⟩:=L7 hd' x.eq q;refine AA (b:=c3) (j:=0) (x:=x.dl) s7.at1 rfl<|AA (b:=c4) (j:=0) (x:=x.el) s7.at2 rfl<|Ey ?_ ?_
   ·refine AT (vs:=[.pointer q]) s7 ?_;intro r52 h8 s8;refine AM (s8.at3.cell rfl)<|AM (s8.at2.cell rfl) ?_;have cw:=eJ s8;refine Ey ?_ ?_
    ·refine Ah (r:=fI) (ms:=[q]) PJ (s8.at4) rfl cw (.cons (a:=[_]) rfl .nil) rfl hap ?_;intro t53 h9 s9;refine AM (s9.at4.cell rfl)<|AT (vs:=[sv z14.2.1]) s9 ?_;intro r54 h10 s10;refine AM (s10.at5.cell rfl) ?_;have cw2:=eJ s10;refine Ah (r:=eD (cG .i64)) (ms:=[zz.2]) TG (s10.at6) rfl cw2 (.cons (a:=[_]) ⟨z14.2.1,rfl,k14⟩ .nil) rfl he' ?_;intro t55 h11 s11;refine Cj (b:=c3) (j:=0) (v:=sv t53) (s11.at5) rfl (by simp) ?_;intro h12 s12;refine Cj (b:=c4) (j:=0) (v:=sv t55) (s12.at6) rfl (by simp) ?_;intro h13 s13;exact AB ⟨rfl,ψ7,⟨t53,t55,x.ps++ [q],x.ds++ [zz.1],e',by simp [x.eq]⟩,le07,rfl,QM s13.at3.tail.at4.tail⟩
    ·refine AT (vs:=[sv z14.2.1]) s8 ?_;intro r56 h9 s9;refine AM (s9.at4.cell rfl)<|AM (s9.at3.cell rfl) ?_;have cw1:=eJ s9.at1;refine Ah (r:=fI) (ms:=[q]) PJ (s9.at5) rfl cw1 (.cons (a:=[_]) rfl .nil) rfl hap ?_;intro t57 h10 s10;refine AM (s10.at5.cell rfl) ?_;have cw2:=eJ s10.at1;refine Ah (r:=eD (cG .i64)) (ms:=[zz.2]) TG (s10.at6) rfl cw2 (.cons (a:=[_]) ⟨z14.2.1,rfl,k14⟩ .nil) rfl he' ?_;intro t58 h11 s11;refine Cj (b:=c3) (j:=0) (v:=sv t57) (s11.at5) rfl (by simp) ?_;intro h12 s12;refine Cj (b:=c4) (j:=0) (v:=sv t58) (s12.at6) rfl (by simp) ?_;intro h13 s13;exact AB ⟨rfl,ψ7,⟨t57,t58,x.ps++ [q],x.ds++ [zz.1],e',by simp [x.eq]⟩,le07,rfl,QM s13.at4.tail.at4.tail⟩
   ·refine AT (vs:=[sv z14.2.1]) s7 ?_;intro r59 h8 s8;refine AM (s8.at3.cell rfl)<|AM (s8.at2.cell rfl)<|AT (vs:=[.pointer q]) s8 ?_;intro r60 h9 s9;refine AM (s9.at4.cell rfl)<|AM (s9.at3.cell rfl) ?_;have cw1:=eJ s9;refine Ah (r:=fI) (ms:=[q]) PJ (s9.at5) rfl cw1 (.cons (a:=[_]) rfl .nil) rfl hap ?_;intro t61 h10 s10;refine AM (s10.at5.cell rfl) ?_;have cw2:=eJ s10.at2;refine Ah (r:=eD (cG .i64)) (ms:=[zz.2]) TG (s10.at6) rfl cw2 (.cons (a:=[_]) ⟨z14.2.1,rfl,k14⟩ .nil) rfl he' ?_;intro t62 h11 s11;refine Cj (b:=c3) (j:=0) (v:=sv t61) (s11.at5) rfl (by simp) ?_;intro h12 s12;refine Cj (b:=c4) (j:=0) (v:=sv t62) (s12.at6) rfl (by simp) ?_;intro h13 s13;exact AB ⟨rfl,ψ7,⟨t61,t62,x.ps++ [q],x.ds++ [zz.1],e',by simp [x.eq]⟩,le07,rfl,QM s13.at4.tail.at4.tail⟩
end
noncomputable def Mp (p:dtP) (A:dtA) (fa:dtF) (steps:List Stp) (num:List (Stp×Int)):Option RdS:=Oz p A (OL p A fa steps num) ([],[])
noncomputable def V9 (p:dtP) (A:dtA) (fa:dtF) (num:List (Stp×Int)) (n:Int) (right:List Int) (i:Int) (z:Int×List (List Int)):Option (Int×List (List Int)):=(idx right i).bind fun sym=>need (0≤i∧i< (right.length:Int))<|(DF fa p (right.drop (i+1).toNat)).bind fun sq=>(cond sq.2 ((BT p sym).bind fun t=>some (!t)) (some false)).bind fun b=>(cond b ((idx z.2 ((BY (z.1,sym) num).getD 0)).bind fun row=>(app row [n]).bind fun row'=>EM z.2 ((BY (z.1,sym) num).getD 0) row') (some z.2)).bind fun E'=>(BM A z.1 sym).bind fun st=>some (st,E')
noncomputable def Gj (p:dtP) (A:dtA) (fa:dtF) (steps:List Stp) (num:List (Stp×Int)):Option (List (List Int)):=(Fp (steps.length:Int) ([]:List Int)).bind fun e0=>forS (σ:=List (List Int)) 0 (steps.length:Int) e0 fun n E=>(idx steps n).bind fun s=>forS (σ:=List (List Int)) 0 (p.2.2.1.length:Int) E fun k E=>(idx p.2.2.1 k).bind fun r=>cond (r.1 !=s.2) (some E) ((forS (σ:=Int×List (List Int)) 0 (r.2.1.length:Int) (s.1,E) (V9 p A fa num n r.2.1)).bind fun z=>some z.2)
section
variable {φ ψ:AE}{h:AH}{F:List Chk}{a:Addr}{t:Slc×Slc×Slc×Slc×Slc×Slc×Unit}{p:dtP}{ap:Option Addr}{A:dtA}{fz:Slc×Slc×Slc×Int×Unit}{sl:Slc}{nm lm b:Nat}{fa:dtF}{steps:List Stp}
theorem Yk (l:Option Addr) (c2 c3 c4:Nat):G7 l c2 c3 c4=XS l 137 fun n s to=>[.agg #[.int .i64 n,.int .i64 s],.int .i64 to,.pointer (some ⟨c2,0,none⟩),.pointer (some ⟨c3,0,none⟩),.pointer (some ⟨c4,0,none⟩)]:=rfl
theorem WA {c2 c3 c4:Nat}(K:LkK φ a t ap fz sl nm lm p A fa steps) (hbox:Dv φ ⟨c2,0,none⟩=some (.pointer (some a))) {num:List (Stp×Int)}{x:RdX}{r:RdS}(hd:Oz p A (OL p A fa steps num) (x.ds,x.es)=some r) (s0:St φ (rdC c3 c4 nm num x++F) h):
 CallsH bW 107 [.pointer (some a),.func (.func 137) #[] #[.pointer (some ⟨c2,0,none⟩),.pointer (some ⟨c3,0,none⟩),.pointer (some ⟨c4,0,none⟩)]] h (Ap fun v h'=>v= .tuple #[] ∧ ∃ψ x',Sub φ ψ∧(x'.ds,x'.es)=r∧St ψ (rdC c3 c4 nm num x'++F) h'):=by
 refine AR mixed Tryz.func107 ?_;rw [J7,Yk];refine TV (φ:=φ) (F:=F) (A:=A) (ap:=ap) (t:=t) (p:=p) (fun x:RdX=>rdC c3 c4 nm num x) (fun x=>(x.ds,x.es)) (OL p A fa steps num) _ _ ?_ ?_ K.kA K.pl hd s0
 ·intro ψ x w Δ le st j v hv;refine (K.mono le).at st ?_;have e:lkV t ap fz sl nm lm=(plV t++ [.pointer ap]) ++ [sv fz.1,sv fz.2.1,sv fz.2.2.1,.int .i64 fz.2.2.2.1,sv sl,.map (some nm),.map (some lm)]:=rfl;rw [e,bX (List.getElem?_eq_some_iff.1 hv).1];exact hv
 ·intro ψ w x s' n s to Δ le st hf;exact Sn (K.mono le) (An le hbox) hf st
theorem UV (K:LkK φ a t ap fz sl nm lm p A fa steps) {num:List (Stp×Int)}{r:RdS}(hd:Mp p A fa steps num=some r) (s0:St φ (cM DA (cG .i64) nm num::F) h):
 CallsH bW 109 [.pointer (some a)] h (Ap fun v h'=>∃(ψ:AE) (y1 y2:Slc) (ps:List (Option Addr)),Sub φ ψ∧v=((.tuple [aS,aS]):Sh).val (y1,y2,())∧ps.length=r.1.length∧Ro.SliceIs fI ψ y1 ps∧Ro.SliceIs (eD (cG .i64)) ψ y2 r.2∧St ψ (AS ps r.1++(cM DA (cG .i64) nm num::F)) h'):=by
 refine AR mixed Tryz.func109 ?_;rw [J9];unfold G8;unfold Mp at hd;refine AT (vs:=[.pointer (some a)]) s0 ?_;intro r1 h1 s1;obtain ⟨φ1,le1,c1,s1⟩:=Dg.St.box s1;refine AT (vs:=[.slice none 0 0]) s1 ?_;intro r2 h2 s2;refine AT (vs:=[.slice none 0 0]) s2 ?_;intro r3 h3 s3;refine AF (x:=some a) (AC s3.sub c1) rfl ?_;have s4:St φ1 (rdC r2 r3 nm num ⟨(none,0,0),(none,0,0),[],[],[],rfl⟩ ++F) h3:=(gP 139 fI (gP 30 (eD (cG .i64)) s3.at1)).at3.at3;refine AJ (WA (K.mono le1) c1 (x:=⟨(none,0,0),(none,0,0),[],[],[],rfl⟩) hd s4) ?_;rintro _ h4 ⟨rfl,ψ2,x',le2,hx,s5⟩;refine ⟨(),rfl,?_⟩;obtain ⟨dl,el,ps,ds,es,eq⟩:=x';obtain rfl:=hx;refine AA (b:=r2) (j:=0) (x:=dl) s5 rfl<|AA (b:=r3) (j:=0) (x:=el) s5.at1 rfl ?_;obtain ⟨ψ3,le3,k1,s6⟩:=dX (t:=dl) s5.at2;obtain ⟨ψ4,le4,k2,s7⟩:=dX (t:=el) s6.at2;exact AB ⟨ψ4,dl,el,ps,((le1.trans le2).trans le3).trans le4,rfl,eq,k1.mono le4,k2,s7.tail.tail.perm (bZ (l₁:=AS ps ds)).symm⟩
end
theorem ZI:PA bW 97 30 (.slice none 0 0):=⟨Tryz.underlying97,⟨Tryz.t30,by kernel_rfl,rfl,⟨_,rfl,rfl⟩,by decide⟩⟩
theorem WB {α:Type}{e:TypeId}{r:Ro α}{φ:AE}{h:AH}{F:List Chk}(st:St φ F h):∀n:Nat,St φ (PB e r (dE n ((none,0,0):Slc)) (dE n []) ++F) h:=by
 intro n
 induction n with
 |zero=>exact st
 |succ n ih=>exact gP e r ih
theorem WC {α:Type}{r:Ro α}{φ:AE}:∀ {ts:List Slc}{E:List (List α)}{vs:List Value},ts.length=E.length→(∀(i:Nat) t l,ts[i]? =some t→E[i]? =some l→Ro.SliceIs r φ t l)→Ro.slc.All φ vs ts→(eD r).All φ vs E:=by
 intro ts
 induction ts with
 |nil=>
  intro E vs hl hk H;cases E with
  |nil=>cases H;exact .nil
  |cons _ _=>cases hl
 |cons t ts ih=>
  intro E vs hl hk H;cases E with
  |nil=>cases hl
  |cons l E=>
   cases H with
   | @cons x v _ _ hx hr=>
    obtain rfl:x= [sv t]:=hx;exact Ro.All.cons (a:=[_]) ⟨t,rfl,hk 0 t l rfl rfl⟩ (ih (by simpa using hl) (fun i t' l' h1 h2=>hk (i+1) t' l' (by simpa using h1) (by simpa using h2)) hr)
theorem So {α:Type}{r:Ro α}{φ:AE}{o:Slc}{ts:List Slc}{E:List (List α)}(hl:ts.length=E.length) (hk:∀(i:Nat) t l,ts[i]? =some t→E[i]? =some l→Ro.SliceIs r φ t l) (H:Ro.SliceIs gQ φ o ts):Ro.SliceIs (eD r) φ o E:=by
 obtain ⟨g1,g2,g3,g4,vs,g5,g6⟩:=H;exact ⟨hl.symm.trans g1,g2,g3,fun hp=>fA (by rw [←hl,g4 hp];rfl),vs,WC hl hk g5,g6⟩
abbrev NJ (o:Slc) (ts:List Slc) (E:List (List Int)) (Δ:List Chk):List Chk:=cR 30 gQ o ts::(PB 3 (cG .i64) ts E++Δ)
section
variable {φ ψ:AE}{h:AH}{F:List Chk}{a:Addr}{t:Slc×Slc×Slc×Slc×Slc×Slc×Unit}{p:dtP}{ap:Option Addr}{A:dtA}{fz:Slc×Slc×Slc×Int×Unit}{sl:Slc}{nm lm b:Nat}{fa:dtF}{steps:List Stp}
theorem XU {o:Slc}{ts:List Slc}{E E':List (List Int)}{Δ:List Chk}{k n:Int}{row row':List Int}{K:T}{P:Bv→AH→Prop}(hl:ts.length=E.length) (h1:idx E k=some row) (h2:app row [n] =some row') (h3:EM E k row'=some E') (st:St φ (NJ o ts E Δ) h)
 (hk:∀ts' h',ts'.length=E'.length→St φ (NJ o ts' E' Δ) h'→K.wp bW P h'):
 (deref o.1 fun a57=>chk (0≤k∧k< (o.2.1:Nat))<|dB .slice (a57.add (cT k *1)) fun (t58:Slc)=>fU (.cells #[(.int .i64 n)] 3 (0,0)) fun r59=>
  dP (cK #[30,30] 30 #[(sv t58),(.slice (some ⟨r59,0,none⟩) 1 1)]) (.one aS) fun (t60:Slc)=>
  deref o.1 fun a61=>chk (0≤k∧k< (o.2.1:Nat))<|fS (a61.add (cT k *1)) (sv t60)<|K).wp bW P h:=by
 obtain ⟨k0,k1,k2⟩:=Ci h1;have hlt:k.toNat<ts.length:=by omega
 have hu:=bR hlt;obtain ⟨u,hu'⟩:∃u,ts[k.toNat] =u:=⟨_,rfl⟩;rw [hu']at hu;have hi:idx ts k=some u:=by rw [KL k0 hlt,hu']
 obtain ⟨A1,cs1,ea1,hi1,r1,cl1⟩:=St.get st hi;refine AG _ ea1 (Ab hi1 ?_);obtain rfl:=r1;refine AF (x:=u) (cl1 0 _ rfl) rfl<|AT (vs:=[.int .i64 n]) st ?_;intro r59 h4 s4;have cw:=eJ s4;obtain ⟨rest,p1,p2⟩:=T6 (f:=cR 3 (cG .i64)) hu k2;have s5:St φ (cR 3 (cG .i64) u row::cW 3 r59 [.int .i64 n]::cR 30 gQ o ts::(rest++Δ)) h4:=
  s4.perm ((cA _ (cA _ (cE Δ p1))).trans (BO 2 (cW 3 r59 [.int .i64 n]::cR 30 gQ o ts::cR 3 (cG .i64) u row::(rest++Δ))))
 refine Ah (r:=cG .i64) (ms:=[n]) V8 s5 rfl cw (.cons (a:=[_]) rfl .nil) rfl h2 ?_;intro t60 h6 s6;obtain ⟨e0,e1,rfl⟩:=EA h3;have hset:EM ts k t60=some (ts.set k.toNat t60):=by unfold EM;rw [if_pos ⟨k0,by omega⟩]
 have s7:=s6.at2;obtain ⟨A2,ea2,q2⟩:=s7.there hset;refine AG _ ea2 (Ab q2 (Iy s7 hset rfl ea2 ?_));intro h8 s8;refine hk (ts.set k.toNat t60) h8 (by simp [hl]) ?_;have s9:=s8.at2.tail;exact s9.perm (cA _ (cE Δ (p2 t60 row').symm))
theorem XV {K:Slc→Slc→Slc→Slc→Slc→Slc→T}{P:Bv→AH→Prop}(hc:∀j v,(plV t)[j]? =some v→Bg h (a.add j)=some v) (H:(K t.1 t.2.1 t.2.2.1 t.2.2.2.1 t.2.2.2.2.1 t.2.2.2.2.2.1).wp bW P h):
 (dB .slice a fun (t3:Slc)=>dB .slice (a.add 1) fun (t4:Slc)=>dB .slice (a.add 2) fun (t5:Slc)=>dB .slice (a.add 3) fun (t6:Slc)=>dB .slice (a.add 4) fun (t7:Slc)=>dB .slice (a.add 5) fun (t8:Slc)=>K t3 t4 t5 t6 t7 t8).wp bW P h:=by
 refine AF (x:=t.1) (by have:=hc 0 _ rfl;rwa [add_zero]at this) rfl<|AF (x:=t.2.1) (hc 1 _ rfl) rfl<|AF (x:=t.2.2.1) (hc 2 _ rfl) rfl<|AF (x:=t.2.2.2.1) (hc 3 _ rfl) rfl<|AF (x:=t.2.2.2.2.1) (hc 4 _ rfl) rfl<|AF (x:=t.2.2.2.2.2.1) (hc 5 _ rfl) rfl H
theorem CF {b:Nat}{vs:List Value}(c:DO φ (some ⟨b,0,none⟩) vs) (st:St φ F h) {j:Nat}{v:Value}(hv:vs[j]? =some v):Bg h ⟨b,j,none⟩=some v:=by
 have:=AC st.sub (c.at j hv)
 rwa [EL,eL]at this
set_option maxHeartbeats 4000000 in
theorem QN (gk:Dg.Glob φ) (K:LkK φ a t ap fz sl nm lm p A fa steps) {num:List (Stp×Int)}{r:List (List Int)}(hd:Gj p A fa steps num=some r) (s0:St φ (cM DA (cG .i64) nm num::F) h):
 CallsH bW 112 [.pointer (some a)] h (Ap fun v h'=>∃(ψ:AE) (y:Slc),Sub φ ψ∧v=((.one aS):Sh).val y∧Ro.SliceIs (eD (cG .i64)) ψ y r∧St ψ (cM DA (cG .i64) nm num::F) h'):=by
 refine AR mixed Tryz.func112 ?_;rw [II];unfold FX;unfold Gj at hd;obtain ⟨e0,he0,hd⟩:=bS hd;obtain ⟨m0,m1,rfl⟩:=Nf he0;have nS:sl.2.1=steps.length:=K.ks.length;have nR:t.2.2.1.2.1=p.2.2.1.length:=K.pl.k2.length;obtain ⟨D0,hD0⟩:∃D0:List Chk,D0=cM DA (cG .i64) nm num::F:=⟨_,rfl⟩;refine AG _ rfl<|AF (x:=sl) (K.at s0 (j:=11) rfl) rfl<|Jc (r:=gQ) (x:=((none,0,0):Slc)) (l:=dE (steps.length:Int).toNat ((none,0,0):Slc)) ZI s0 rfl rfl (by rw [nS];unfold Fp;rw [if_pos ⟨m0,m1⟩]) ?_;intro o h1 s1;have s2:St φ (NJ o (dE (steps.length:Int).toNat ((none,0,0):Slc)) (dE (steps.length:Int).toNat []) D0) h1:=by
  rw [hD0];exact (WB (e:=3) (r:=cG .i64) s1 _).perm (bZ (l₁:=PB 3 (cG .i64) _ _))
 refine AG _ rfl<|AF (x:=sl) (K.at s2 (j:=11) rfl) rfl<|Av (fun (y:Int×Unit) w E=>∃ψ ts,Sub φ ψ∧ts.length=E.length∧St ψ (NJ o ts E D0) w) (g:=r) ?_ ?_
 ·refine Co hd (fun i (y:Int×Unit) w E=>y.1=i∧ ∃ψ ts,Sub φ ψ∧ts.length=E.length∧St ψ (NJ o ts E D0) w) ((0:Int),()) rfl ⟨rfl,φ,_,cP _,by simp,s2⟩ ?_ ?_
  ·rintro i z w E e ⟨rfl,ψ,ts,le,hl,st⟩ he h0 hlt hw;refine Aj (by rw [nS];exact decide_eq_true hlt) ?_;obtain ⟨s,hs,he⟩:=bS he;obtain ⟨A1,cs1,ea1,hi1,q1,cl1⟩:=(K.ks.mono le).get hs;refine AG _ ea1 (Ab hi1 ?_);obtain ⟨_,_,rfl,rfl,rfl⟩:=q1;refine AF (x:=s.1) (AC st.sub (cl1 0 _ rfl)) rfl<|AF (x:=s.2) (by rw [AV];exact AC st.sub (cl1 1 _ rfl)) rfl<|AT (vs:=[.int .i64 0,.int .i64 0]) st ?_;intro r11 h3 s3;refine Cj (b:=r11) (j:=0) (v:=.int .i64 s.1) s3 rfl (by simp) ?_;intro h4 s4;refine Cj (b:=r11) (j:=1) (v:=.int .i64 s.2) s4 rfl (by simp) ?_;intro h5 s5;obtain ⟨ψ1,le1,cB,s6⟩:=St.blk s5;have le01:=le.trans le1;refine AG _ rfl<|AF (x:=t.2.2.1) ((K.mono le01).at s6 (j:=2) rfl) rfl<|Av (fun (y:Int×Unit) w E=>∃ψ ts,Sub φ ψ∧ts.length=E.length∧St ψ (NJ o ts E D0) w) (g:=e) ?_ ?_
   ·refine Co he (fun i (y:Int×Unit) w E=>y.1=i∧ ∃ψ ts,Sub ψ1 ψ∧ts.length=E.length∧St ψ (NJ o ts E D0) w) ((0:Int),()) rfl ⟨rfl,ψ1,ts,cP _,hl,s6⟩ ?_ ?_
    ·rintro i2 z2 w2 E2 e2 ⟨rfl,ψ2,ts2,le2,hl2,st2⟩ he2 h02 hlt2 hw2;have le02:=le01.trans le2;refine Aj (by rw [nR];exact decide_eq_true hlt2) ?_;obtain ⟨ru,hr1,he2⟩:=bS he2;refine Av (fun (_:Unit) w (_:Unit)=>∃ψ ts,Sub ψ1 ψ∧ts.length=e2.length∧St ψ (NJ o ts e2 D0) w) (g:=()) ?_ ?_
     ·refine NO (K.pl.k2.mono le02) hr1 st2 ?_;intro r21 u h7 ku s7;obtain ⟨ψ3,le3,cR1,s8⟩:=St.blk s7;have ku:=ku.mono le3;have le03:=le02.trans le3;have cB3:=cB.mono (le2.trans le3);refine AF (x:=ru.1) (CF cR1 s8 (j:=0) rfl) rfl<|AF (x:=s.2) (CF cB3 s8 (j:=1) rfl) rfl<|AI he2 rfl (fun _ he2=> ?_) (fun _ he2=> ?_)
      ·obtain rfl:=iS he2;exact R8 () rfl ⟨ψ3,ts2,le2.trans le3,hl2,s8⟩
      ·obtain ⟨zz,hzz,he2⟩:=bS he2;obtain rfl:=iS he2;refine AF (x:=s.1) (CF cB3 s8 (j:=0) rfl) rfl<|AF (x:=u) (CF cR1 s8 (j:=1) rfl) rfl ?_;have nu:=ku.length;refine Av (fun (y:Int×Int×Unit) w (g:Int×List (List Int))=>∃ψ ts,Sub ψ1 ψ∧ts.length=g.2.length∧St ψ (NJ o ts g.2 D0) w) (g:=zz) ?_ ?_
       ·refine Co hzz (fun i (y:Int×Int×Unit) w (g:Int×List (List Int))=>y.1=i∧y.2.1=g.1∧ ∃ψ ts,Sub ψ3 ψ∧ts.length=g.2.length∧St ψ (NJ o ts g.2 D0) w) ((0:Int),s.1,()) rfl ⟨rfl,rfl,ψ3,ts2,cP _,hl2,s8⟩ ?_ ?_
        ·rintro i4 z4 w4 ⟨g1,E4⟩ e4 ⟨rfl,hg,ψ4,ts4,le4,hl4,st4⟩ he4 h04 hlt4 hw4;dsimp only at hg hl4 st4 he4;subst hg;have le04:=le03.trans le4;unfold V9 at he4;refine Aj (by rw [nu];exact decide_eq_true hlt4) ?_;obtain ⟨sym,hsy,he4⟩:=bS he4;obtain ⟨_,he4⟩:=Bq he4;obtain ⟨sq,hsq,he4⟩:=bS he4;obtain ⟨bb,hbb,he4⟩:=bS he4;obtain ⟨E',hE',he4⟩:=bS he4;obtain ⟨so,hso,he4⟩:=bS he4;obtain rfl:=iS he4;obtain ⟨A4,cs4,ea4,hi4,q4,cl4⟩:=(ku.mono le4).get hsy;refine AG _ ea4 (Ab hi4 ?_);obtain rfl:=q4;refine AF (x:=sym) (AC st4.sub (cl4 0 _ rfl)) rfl<|AG _ rfl ?_;have K4:=K.mono le04;refine AF (x:=fz.1) (K4.at st4 (j:=7) rfl) rfl<|AF (x:=fz.2.1) (by rw [AV];exact K4.at st4 (j:=8) rfl) rfl<|AF (x:=fz.2.2.1) (by rw [AV];exact K4.at st4 (j:=9) rfl) rfl<|AF (x:=fz.2.2.2.1) (by rw [AV];exact K4.at st4 (j:=10) rfl) rfl<|AG _ rfl (XV (K4.pv st4) ?_);refine AF (x:=u) (CF (cR1.mono le4) st4 (j:=1) rfl) rfl ?_;obtain ⟨q5,kt⟩:=(ku.mono le4).cut (SG (ku.mono le4) (lo:=bT .i64 (z4.1+1)) (by rw [hw4];omega) (by rw [hw4];omega)) (sz:=1) rfl;refine Ab q5 ?_;rw [←hw4]at hsq;refine AJ (Kp (f_0:=fz) (p_1:=t) (gk.mono le04) K4.f0 K4.f1 K4.f2 K4.pl.k0 K4.pl.k1 K4.pl.k2 K4.pl.k3 K4.pl.k4 K4.pl.k5 kt st4 (r:=sq) (by rw [K4.f3];exact hsq)) ?_;rintro _ h9 ⟨ψ5,y5,l5,le5,rfl,e5,k5,st5⟩;refine ⟨y5,rfl,?_⟩;have e5':sq.2=y5.2.1:=by rw [←e5]
         rw [e5']at hbb;have le05:=le04.trans le5;refine Af (fun (y:Bool×Unit) w g=>y.1=g∧ ∃ψ,Sub ψ5 ψ∧St ψ (NJ o ts4 E4 D0) w) (g:=bb) ?_ ?_
         ·refine AI hbb rfl (fun _ hbb=> ?_) (fun _ hbb=> ?_)
          ·obtain ⟨tm,htm,hbb⟩:=bS hbb;obtain rfl:=iS hbb;refine AG _ rfl (QJ ((K.mono le05).pv st5) (K.mono le05).pl st5 htm ?_);intro ψ6 h6 le6 s6;exact AN (!tm,()) rfl ⟨rfl,ψ6,le6,s6⟩
          ·obtain rfl:=iS hbb;exact AN (false,()) rfl ⟨rfl,ψ5,cP _,st5⟩
         ·rintro y h10 ⟨hy,ψ6,le6,s6⟩;obtain rfl:=hy;have le06:=le05.trans le6;refine Af (fun (_:Unit) w g=>∃ts,ts.length=g.length∧St ψ6 (NJ o ts g D0) w) (g:=E') ?_ ?_
          ·refine AI hE' rfl (fun _ hE'=> ?_) (fun _ hE'=> ?_)
           ·obtain ⟨row,hrow,hE'⟩:=bS hE';obtain ⟨row',hrow',hE'⟩:=bS hE';refine AG _ rfl<|AF (x:=some nm) ((K.mono le06).at s6 (j:=12) rfl) rfl ?_;have sM:St ψ6 (cM DA (cG .i64) nm num::(cR 30 gQ o ts4::(PB 3 (cG .i64) ts4 E4++F))) h10:=by
             rw [hD0]at s6;exact s6.perm ((cA _ (bZ (l₁:=PB 3 (cG .i64) ts4 E4))).trans (cN _ _ _))
            refine Gh (kk:=DA) (a:=.int .i64) (k:=(z4.2.1,sym)) (m:=num) (0:Int) fJ QL (i:=Tryz.t3) (by kernel_rfl) rfl sM<|XU hl4 hrow hrow' hE' s6 ?_;intro ts' h11 hl' s11;exact AN () rfl ⟨ts',hl',s11⟩
           ·obtain rfl:=iS hE';exact AN () rfl ⟨ts4,hl4,s6⟩
          ·rintro _ h11 ⟨ts5,hl5,s11⟩;refine AG _ rfl<|AF (x:=ap) ((K.mono le06).at s11 (j:=6) rfl) rfl<|AJ (Cx (K.mono le06).kA s11 hso) ?_;rintro _ h12 ⟨ψ7,y7,le7,rfl,rfl,s12⟩;refine ⟨y7,rfl,?_⟩;exact Ag (bT .i64 (z4.1+(1:Int)),y7,()) _ rfl rfl ⟨hw4,rfl,ψ7,ts5,((le4.trans le5).trans le6).trans le7,hl5,s12⟩
        ·rintro i4 z4 w4 ⟨rfl,hg,ψ4,ts4,le4,H⟩ hge;refine Aa (by rw [nu];exact decide_eq_false (Int.not_lt.2 hge))<|AO (AQ z4 rfl ⟨ψ4,ts4,(le2.trans le3).trans le4,H⟩)
       ·rintro _ h9 H;exact MX () rfl H
     ·rintro _ h9 H;exact Ag (bT .i64 (z2.1+(1:Int)),()) _ rfl rfl ⟨hw2,H⟩
    ·rintro i2 z2 w2 ⟨rfl,ψ2,ts2,le2,H⟩ hge;refine Aa (by rw [nR];exact decide_eq_false (Int.not_lt.2 hge))<|AO (AQ z2 rfl ⟨ψ2,ts2,le01.trans le2,H⟩)
   ·rintro _ h9 H;exact Ag (bT .i64 (z.1+(1:Int)),()) _ rfl rfl ⟨hw,H⟩
  ·rintro i z w ⟨rfl,H⟩ hge;refine Aa (by rw [nS];exact decide_eq_false (Int.not_lt.2 hge))<|AO (AQ z rfl H)
 ·rintro _ h9 ⟨ψ,ts,le,hl,st⟩;obtain ⟨ψ1,le1,k1,st1⟩:=dX (t:=o) st;obtain ⟨ψ2,le2,k2,st2⟩:=St.freezeRows hl st1;rw [hD0]at st2;exact AB ⟨ψ2,o,(le.trans le1).trans le2,rfl,So hl k2 (k1.mono le2),st2⟩
end
abbrev At:Type:=Y3
def mz (ps:List (Option Addr)) (L:List (At×AX)):List (At×Option Addr):=List.zipWith (fun p e=>(e.1,p)) ps L
theorem TW {k:At}:∀ {ps:List (Option Addr)}{L:List (At×AX)},BY k L=none→BY k (mz ps L)=none:=by
 intro ps
 induction ps with
 |nil=>intro L _;rfl
 |cons p ps ih=>
  intro L h;cases L with
  |nil=>rfl
  |cons e L=>
   simp only [BY]at h;split at h
   ·cases h
   ·rename_i hk
    show BY k ((e.1,p)::mz ps L)=none;simp only [BY];rw [if_neg hk];exact ih h
theorem RX {k:At}{s:AX}{p:Option Addr}:∀ {ps:List (Option Addr)}{L:List (At×AX)},ps.length=L.length→BY k L=none→CB k s L=L++ [(k,s)] ∧CB k p (mz ps L)=mz (ps++ [p]) (L++ [(k,s)]):=by
 intro ps
 induction ps with
 |nil=>
  intro L hl _;cases L with
  |nil=>exact ⟨rfl,rfl⟩
  |cons _ _=>cases hl
 |cons q ps ih=>
  intro L hl h;cases L with
  |nil=>cases hl
  |cons e L=>
   simp only [BY]at h;split at h
   ·cases h
   ·rename_i hk
    obtain ⟨h1,h2⟩:=ih (L:=L) (by simpa using hl) h;refine ⟨?_,?_⟩
    ·simp only [CB,if_neg hk,h1];rfl
    ·show CB k p ((e.1,q)::mz ps L)=(e.1,q)::mz (ps++ [p]) (L++ [(k,s)]);simp only [CB,if_neg hk,h2]
theorem NP {k:At}{s:AX}:∀ {ps:List (Option Addr)}{L:List (At×AX)},ps.length=L.length→BY k L=some s→
 ∃(i:Nat) (p:Option Addr),ps[i]? =some p∧(L.map (·.2))[i]? =some s∧BY k (mz ps L)=some p∧(∀s',(CB k s' L).map (·.2)=(L.map (·.2)).set i s'∧mz ps (CB k s' L)=mz ps L∧(CB k s' L).length=L.length)∧ ∀s' p',CB k p' (mz ps L)=mz (ps.set i p') (CB k s' L):=by
 intro ps
 induction ps with
 |nil=>
  intro L hl h;cases L with
  |nil=>cases h
  |cons _ _=>cases hl
 |cons q ps ih=>
  intro L hl h;cases L with
  |nil=>cases hl
  |cons e L=>
   simp only [BY]at h;split at h
   ·rename_i hk
    cases h;refine ⟨0,q,rfl,rfl,?_,fun s'=> ?_,fun s' p'=> ?_⟩
    ·show BY k ((e.1,q)::mz ps L)=some q;simp only [BY,if_pos hk]
    ·simp only [CB,if_pos hk];exact ⟨rfl,rfl,rfl⟩
    ·show CB k p' ((e.1,q)::mz ps L)=mz (p'::ps) (CB k s' (e::L));simp only [CB,if_pos hk];rfl
   ·rename_i hk
    obtain ⟨i,p,h1,h2,h3,h4,h5⟩:=ih (L:=L) (by simpa using hl) h;refine ⟨i+1,p,by simpa using h1,by simpa using h2,?_,fun s'=> ?_,fun s' p'=> ?_⟩
    ·show BY k ((e.1,q)::mz ps L)=some p;simp only [BY,if_neg hk];exact h3
    ·obtain ⟨g1,g2,g3⟩:=h4 s';simp only [CB,if_neg hk,eY,eP,dL];refine ⟨by rw [g1],?_,by rw [g3]⟩;show (e.1,q)::mz ps (CB k s' L)=(e.1,q)::mz ps L;rw [g2]
    ·show CB k p' ((e.1,q)::mz ps L)=mz (q::ps.set i p') (CB k s' (e::L));simp only [CB,if_neg hk];show (e.1,q)::CB k p' (mz ps L)=(e.1,q)::mz (ps.set i p') (CB k s' L);rw [h5 s']
abbrev LkL:Type:=List (At×AX)
noncomputable def RY (p:dtP) (A:dtA) (fo:List AX) (n:Int) (s:Stp) (k:Int) (L:LkL):Option LkL:=(idx p.2.2.1 k).bind fun r=>cond (r.1 !=s.2) (some L) ((B8 A s.1 r.2.1).bind fun w=>(cond (BY (w,k) L).isNone ((B5 (nT p)).bind fun s0=>some (CB (w,k) s0 L)) (some L)).bind fun L'=>(idx fo n).bind fun o=>(BY (w,k) L').bind fun s'=>need (OkS s'∧OkS o)<|some (CB (w,k) (BS s' o) L'))
noncomputable def PV (p:dtP) (A:dtA) (fa:dtF) (steps:List Stp) (fo:List AX):Option LkL:=(forS (σ:=LkL) 0 (steps.length:Int) [] fun n L=>(idx steps n).bind fun s=>forS (σ:=LkL) 0 (p.2.2.1.length:Int) L fun k L=>RY p A fo n s k L).bind fun L=>(Bn A).bind fun m=>forS (σ:=LkL) 0 m L fun n L=>(Bx (lkT p A fa steps none none) n 0).bind fun b=>cond b ((Cu (nT p) [0]).bind fun s=>some (CB (n,0) s L)) (some L)
abbrev giC (lm:Nat) (ps:List (Option Addr)) (L:LkL) (Δ:List Chk):List Chk:=cM DA fI lm (mz ps L)::(AS ps (L.map (·.2)) ++Δ)
section
variable {φ ψ:AE}{h:AH}{F:List Chk}{a:Addr}{t:Slc×Slc×Slc×Slc×Slc×Slc×Unit}{p:dtP}{ap:Option Addr}{A:dtA}{fz:Slc×Slc×Slc×Int×Unit}{sl:Slc}{nm lm b:Nat}{fa:dtF}{steps:List Stp}
theorem PW {φ:AE}{h:AH}{F:List Chk}{p:Option Addr}{s:AX}(H:St φ (Bc p s::F) h):p.isNone=false:=by
 obtain ⟨b,e⟩:=St.ptr H;rw [e];rfl
theorem WD {ps:List (Option Addr)}{L:LkL}{Δ:List Chk}{k:At}{q:Option Addr}{s:AX}(hl:ps.length=L.length) (st:St φ (cM DA fI lm (CB k q (mz ps L))::Bc q s::(AS ps (L.map (·.2)) ++Δ)) h):
 ∃ps',ps'.length=(CB k s L).length∧St φ (giC lm ps' (CB k s L) Δ) h:=by
 cases hg:BY k L with
 |none=>
  obtain ⟨h1,h2⟩:=RX (s:=s) (p:=q) hl hg;refine ⟨ps++ [q],by rw [h1];simp [hl],?_⟩;rw [h2]at st;have e:AS (ps++ [q]) ((CB k s L).map (·.2))=AS ps (L.map (·.2)) ++ [Bc q s]:=by
   rw [h1,eF];exact KP (by simpa using hl) q s
  show St φ (cM DA fI lm (mz (ps++ [q]) (CB k s L))::(AS (ps++ [q]) ((CB k s L).map (·.2)) ++Δ)) h;rw [e,cH,h1];exact st.perm (cA _ (bZ (l₁:=AS ps (L.map (·.2)))).symm)
 |some s0=>
  obtain ⟨i,p0,h1,h2,h3,h4,h5⟩:=NP hl hg;obtain ⟨g1,g2,g3⟩:=h4 s;refine ⟨ps.set i q,by simp [g3,hl],?_⟩;rw [h5 s q]at st;obtain ⟨rest,r1,r2⟩:=Ig h1 h2;show St φ (cM DA fI lm (mz (ps.set i q) (CB k s L))::(AS (ps.set i q) ((CB k s L).map (·.2)) ++Δ)) h;rw [g1];have st2:=st.perm (cA _ (cA _ (cE Δ r1)));have st3:=st2.at2.tail;exact st3.perm (cA _ (cE Δ (r2 q s).symm))
noncomputable def WE (l_0 f_p:Option Addr) (f_n:Nat) (n:Int) (r26:Nat):T:=deref l_0 fun a27=>bP a27 13 fun t28=>aR r26 0 fun t29=>aR r26 1 fun t30=>dP (dW 136 (.map t28) (.agg #[(.int .i64 t29),(.int .i64 t30)]) false) (.one aP) fun (t31:Option Addr)=>dY [] (cond (fN t31) (deref l_0 fun a33=>bP a33 13 fun t34=>aR r26 0 fun t35=>aR r26 1 fun t36=>deref l_0 fun a37=>bM a37 fun t38=>bV 138 [(.int .i64 (t38.2.1:Int))] (.one aP) fun (t39:Option Addr)=>bQ r26 0 t35<|bQ r26 1 t36<|dZ (a33.add 13) (.map t34)<|dP (gJ (eN 136 (.map t34) (.agg #[(.int .i64 t35),(.int .i64 t36)]) (.pointer t39)) fun _=>.pure undef) (.tuple []) fun (_:Unit)=>cF []) (cF [])) fun (_:Unit)=>deref l_0 fun a41=>bP a41 13 fun t42=>aR r26 0 fun t43=>aR r26 1 fun t44=>deref f_p fun a45=>chk (0≤n∧n< (f_n:Nat))<|bJ a45 n 1 fun t46=>dP (dW 136 (.map t42) (.agg #[(.int .i64 t43),(.int .i64 t44)]) false) (.one aP) fun (t47:Option Addr)=>dZ (a45.add (cT n *1)) (.pointer t46)<|bV 139 [(.pointer t47),(.pointer t46)] (.one aB) fun (_:Bool)=>cF []
set_option maxHeartbeats 2000000 in
theorem WF (gk:Dg.Glob φ) (K:LkK φ a t ap fz sl nm lm p A fa steps) {fs:Slc}{qs:List (Option Addr)}{fo:List AX}(kf:Ro.SliceIs fI φ fs qs) (hq:qs.length=fo.length) {n w k:Int}{r26:Nat}(cB:DO φ (some ⟨r26,0,none⟩) [.int .i64 w,.int .i64 k]) {L L':LkL}{o s':AX}{ps:List (Option Addr)}{Δ:List Chk}{P:Bv→AH→Prop}
 (hL:cond (BY (w,k) L).isNone ((B5 (nT p)).bind fun s0=>some (CB (w,k) s0 L)) (some L)=some L') (ho:idx fo n=some o) (hs:BY (w,k) L'=some s') (ok:OkS s'∧OkS o) (hl:ps.length=L.length) (st:St φ (giC lm ps L (AS qs fo++Δ)) h)
 (hk:∀ψ ps' h',Sub φ ψ→ps'.length=(CB (w,k) (BS s' o) L').length→St ψ (giC lm ps' (CB (w,k) (BS s' o) L') (AS qs fo++Δ)) h'→P (.out []) h'):(WE (some a) fs.1 fs.2.1 n r26).wp bW P h:=by
 unfold WE;have n0:t.1.2.1=p.1.length:=K.pl.k0.length;refine AG _ rfl<|AF (x:=some lm) (K.at st (j:=13) rfl) rfl<|AF (x:=w) (CF cB st (j:=0) rfl) rfl<|AF (x:=k) (CF cB st (j:=1) rfl) rfl<|Gh (kk:=DA) (a:=.pointer) (k:=(w,k)) (m:=mz ps L) (none:Option Addr) fK RW (i:=Tryz.t139) (by kernel_rfl) rfl st<|Af (fun (_:Unit) wd g=>∃ψ ps',Sub φ ψ∧ps'.length=g.length∧St ψ (giC lm ps' g (AS qs fo++Δ)) wd) (g:=L') ?_ ?_
 ·cases hg:BY (w,k) L with
  |none=>
   rw [hg]at hL;obtain ⟨s0,h0,hL⟩:=bS (show ((B5 (nT p)).bind fun s0=>some (CB (w,k) s0 L))=some L' from hL);obtain rfl:=iS hL;rw [TW hg];refine Aj rfl<|AG _ rfl<|AF (x:=some lm) (K.at st (j:=13) rfl) rfl<|AF (x:=w) (CF cB st (j:=0) rfl) rfl<|AF (x:=k) (CF cB st (j:=1) rfl) rfl<|AG _ rfl<|AF (x:=t.1) (by have:=K.at st (j:=0) rfl;rwa [add_zero]at this) rfl ?_;rw [n0];refine AJ (D4 st h0) ?_;rintro _ h2 ⟨ψ2,q,l2,le2,rfl,rfl,s2⟩;refine ⟨q,rfl,?_⟩;refine AM (CF (cB.mono le2) s2 (j:=0) rfl)<|AM (CF (cB.mono le2) s2 (j:=1) rfl)<|AM ((K.mono le2).at s2 (j:=13) rfl)<|Ja (kk:=DA) (k:=(w,k)) (y:=q) fK RW s2.at1 rfl ?_;intro h3 s3;obtain ⟨ps',g1,g2⟩:=WD hl s3;exact AN () rfl ⟨ψ2,ps',le2,g1,g2⟩
  |some s0=>
   rw [hg]at hL;obtain rfl:=iS (show some L=some L' from hL);obtain ⟨i,p0,h1,h2,h3,h4,h5⟩:=NP hl hg;obtain ⟨rest,r1,_⟩:=Ig h1 h2;have hp:p0.isNone=false:=PW (st.tail.perm (cE (AS qs fo++Δ) r1));rw [h3];refine Aa hp<|AN () rfl ⟨φ,ps,cP _,hl,st⟩
 ·rintro _ h4 ⟨ψ4,ps',le4,hl',s4⟩;obtain ⟨i0,i1,i2⟩:=Ci ho;have hlt:n.toNat<qs.length:=by omega
  have hqn:=bR hlt;obtain ⟨i,p0,h1,h2,h3,h5,h6⟩:=NP hl' hs;refine AG _ rfl<|AF (x:=some lm) ((K.mono le4).at s4 (j:=13) rfl) rfl<|AF (x:=w) (CF (cB.mono le4) s4 (j:=0) rfl) rfl<|AF (x:=k) (CF (cB.mono le4) s4 (j:=1) rfl) rfl ?_;obtain ⟨A1,cs1,ea1,hi1,r1,cl1⟩:=(kf.mono le4).get (KL i0 hlt);refine AG _ ea1 (Ab hi1 ?_);obtain rfl:=r1;refine AF (x:=qs[n.toNat]) (AC s4.sub (cl1 0 _ rfl)) rfl<|Gh (kk:=DA) (a:=.pointer) (k:=(w,k)) (m:=mz ps' L') (none:Option Addr) fK RW (i:=Tryz.t139) (by kernel_rfl) rfl s4 ?_;rw [h3];refine AM (AC s4.sub (cl1 0 _ rfl)) ?_;obtain ⟨rq,b1,_⟩:=EW hqn i2;obtain ⟨M,hM⟩:∃M:Chk,M=cM DA fI lm (mz ps' L'):=⟨_,rfl⟩;have s5:St ψ4 (Bc qs[n.toNat] o::(AS ps' (L'.map (·.2)) ++(M::(rq++Δ)))) h4:=by
   have s4':St ψ4 (M::(AS ps' (L'.map (·.2)) ++(AS qs fo++Δ))) h4:=by rw [hM];exact s4
   refine s4'.perm<|(cA M (eT _ (cE Δ b1))).trans<|(cA M (bZ (l₁:=AS ps' (L'.map (·.2))))).trans ((cN _ _ _).trans (cA _ (bZ (l₁:=AS ps' (L'.map (·.2)))).symm))
  refine AJ (RC (gk.mono le4) h2 h1 ok s5) ?_;rintro _ h7 ⟨ψ7,le7,rfl,s7⟩;refine ⟨_,rfl,?_⟩;obtain ⟨g1,g2,g3⟩:=h5 (BS s' o);refine hk ψ7 ps' h7 (le4.trans le7) (by rw [g3];exact hl') ?_;show St ψ7 (cM DA fI lm (mz ps' (CB (w,k) (BS s' o) L'))::(AS ps' ((CB (w,k) (BS s' o) L').map (·.2)) ++(AS qs fo++Δ))) h7;rw [g1,g2,←hM];refine s7.perm<|((cA _ (bZ (l₁:=AS ps' ((L'.map (·.2)).set i (BS s' o))))).trans (cN _ _ _)).trans (cA M ?_);exact (bZ (l₁:=AS ps' ((L'.map (·.2)).set i (BS s' o)))).symm.trans (eT _ (cE Δ b1.symm))
end
end Go.Proofs.YteolcjbobmpdiaaGreatDoor
