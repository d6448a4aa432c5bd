/-
  Sorts, DgLays2, DgVisitD, DgClone, SimB, DgBits, DgSets, DgLow, DgTz, EngR, EngQ, DgEach, DgCollect, DgList, DgApart, DgUnion, DgFrom, DgVisit, DgSetsB, DgObjs, DgWalk, SimW, DgSolveF, LaysS, Str, SetsL, Laws, Clone, Sim3, Sim4, Cmp, SortItems, Sim5, Add, BuildL, G3, G4, P1, put together.
  Conditions: none; each part tells its own.
-/
import Derived.Test.YteolcjbobmpdiaaGreatDoorKg2
import Derived.Shelf.Slices.In.SortNone
import Derived.Shelf.SlSortCmp.NoneTotal
import Derived.Shelf.Slices.CompactI
import Derived.Test.YteolcjbobmpdiaaGreatDoorProg
import Derived.Shelf.SlicesE.DeleteFunc
import Derived.KernelRfl
import Derived.Lib.TrailingZeros
import Derived.Test.YteolcjbobmpdiaaGreatDoorKg1
import Derived.WalkKit
import Derived.ProofKit
import Derived.OpenShut
import Derived.ShutString
import Derived.ChangeOld
import Derived.Below
import Derived.RangeFuncNested
import Derived.RangeFuncBound
import Derived.RangeFuncCalls
import Derived.RangeFuncLeaves
import Derived.Shelf.Abstract
import Derived.Shelf.RegionOpen
import Derived.OwnWalkIn
import Derived.TacticsInMore
import Derived.LoopNIn
import Derived.LoopIn
import Derived.RangeFuncBox
import Derived.Maps.AppendAt
import Derived.Shelf.GgClosure.Gives
import Derived.Shelf.Strconv.AppendIntPublic10
import Derived.Lib.ItoaLen
import Derived.Test.YteolcjbobmpdiaaGreatDoorRows
import Derived.MakeChecks
import Derived.Stop.LaidErr
import Derived.Lib.LaidTab
import Derived.Lib.Walk
import Derived.StillTailTactics
import Derived.Sort.Grow
open List renaming getElem?_eq_getElem → bR,append_assoc → bV,length_cons → cA,perm_append_comm → cF,getElem?_append_left → cG,length_nil → cI,getElem_mem → cK,getElem?_eq_none → cP,length_append → cS,size_toArray → cU,mem_of_getElem? → cV,getElem?_append_right → cZ,perm_middle → dE,append_toArray → dG,eq_nil_of_length_eq_zero → dH,nil_append → dJ,cons_append → dK,push_toArray → dL,replicate → dM,getElem?_of_mem → dO,mem_append_left → dU,getElem?_take → dX,length_pos_of_mem → dY,length_map → dZ,range → eF,length_set → eJ,map_append → eK,foldl_cons → eL,filter_eq_nil_iff → eN,length_filter_le → eR,length_take → eS,length → eX,range' → eY,take_add_one → fL,getElem?_map → fM,flatMap_cons → fN,take_length → fP,getElem?_cons_zero → fQ,take_of_length_le → fT,mem_append_right → fZ,range_eq_range' → gG,zipWith_append → gH,flatMap_append → gI,contains_cons → gL,filter_append → gN,getElem?_set → gY,ext_getElem? → hU,filter_cons → iE,not_mem_nil → iF
open Go.Proofs.Tryz renaming prog → bT,underlying5 → dR,underlying22 → dS,underlying30 → eB,underlying67 → eQ,underlying3 → eT,underlying9 → eU,underlying235 → fG,func149 → fU,zeroValue3 → fX,underlying195 → gP,underlying237 → gQ,underlying285 → gR,underlying251 → gS,underlying213 → gT,underlying129 → gU,underlying185 → gV,sizeOf3 → gW,underlying97 → iA,underlying54 → iB,underlying0 → iC,underlying4 → iD,isAgg3 → iG,t3 → iV
open Go.IntKind renaming wrap → bU,bits → bY,signed → fH
open Go.Eng.Ro renaming int → bW,list → eV,bool → fV,pt → hZ,prod → iP
open Go.Eng.Sub renaming refl → bX,trans → iN
open Array renaming getElem?_eq_getElem → bZ,replicate_succ → dB,replicate_zero → dC,getElem?_push → eH,getElem?_eq_none → eO,getElem?_append_left → fF,getElem?_modify → fY
open List.Perm renaming append_right → cC,cons → cE,swap → dD,append_left → eA,trans → fB,refl → iK
open Int renaming toNat → cD,toNat_natCast → cT,fdiv_eq_ediv_of_nonneg → fI,tdiv_eq_ediv_of_nonneg → fJ,tdiv → gB,tmod → gC,fdiv → gX
open Go.Eng.Rep renaming row → cH,raw → cN,ro → dP
open Nat renaming beq → cJ,lt_or_ge → dI,le_refl → dN,lt_succ_self → dQ,mul_le_mul_right → eW,testBit_two_pow → fC,pow_lt_pow_right → gD,lt_of_le_of_lt → gK,pow_succ → gZ,lt_trichotomy → hQ,mul_one → iH,zero_le → iI,mod_lt → iJ
open Option renaming bind_some → cL,isNone_some → eM,map → gO
open Go.Value renaming int → cQ
open BitVec renaming ofInt → cY,toNat → eG
open Bool renaming or_false → dV,not_eq_true' → eC,true_and → eI,and_eq_true → fO,or_eq_true → fW,and_false → gE,false_and → gF,and_true → gJ,false_ne_true → gM
open Classical renaming propDecidable → dW
open Go.Eng.BT renaming int → eD
open Go.Eng.Ro.SliceIs renaming nil → eP
open Go.Eng.St renaming cells → eZ,get → fA,cell → fD,freezeRow → fE,openR → iL,shutR → iM,there → iQ,lit → iT,nil → iU
open Go.World renaming cell? → fK
open Go.Eng.Ab renaming done → fR,next → fS
open Go.Eng.Ro.All renaming cons → gA
open Go.Addr renaming add → hO
open Go.Eng.Bl renaming refl → iO
open Prod renaming ext → iR
open Go.Eng.Ok renaming eq → iW
namespace Go.Proofs.YteolcjbobmpdiaaGreatDoor
open Go Go.Eng Go.RowKit Go.Shelf Go.Sort
set_option linter.unusedVariables false
set_option maxRecDepth 100000
theorem Em {k:IntKind}{φ:AD}(l:List Int):(bW k).All φ (l.map (eD k).val) l:=by
 induction l with
 |nil=>exact .nil
 |cons x l ih=>exact gA (a:=[(eD k).val x]) rfl ih
def ins {α:Type}(le:α→α→Bool) (x:α):List α→List α
 | [] =>[x]
 |y::l=>if le x y then x::y::l else y::ins le x l
def N5 {α:Type}(le:α→α→Bool):List α→List α
 | [] =>[]
 |x::l=>ins le x (N5 le l)
theorem PX {α:Type}(le:α→α→Bool) (x:α) (l:List α):(ins le x l).Perm (x::l):=by
 induction l with
 |nil=>exact .refl _
 |cons y l ih=>
  unfold ins;split
  ·exact .refl _
  ·exact (ih.cons y).trans (.swap x y l)
theorem Cz {α:Type}(le:α→α→Bool) (l:List α):(N5 le l).Perm l:=by
 induction l with
 |nil=>exact .refl _
 |cons x l ih=>exact (PX le x _).trans (ih.cons x)
theorem Wn {α:Type}{le:α→α→Bool}(ht:∀a b c,le a b=true→le b c=true→le a c=true) (hl:∀a b,(le a b || le b a)=true) (x:α) {l:List α}(h:l.Pairwise fun a b=>le a b=true):(ins le x l).Pairwise fun a b=>le a b=true:=by
 induction l with
 |nil=>exact List.pairwise_singleton _ _
 |cons y l ih=>
  unfold ins;rw [List.pairwise_cons]at h;split
  ·rename_i hxy
   refine List.pairwise_cons.2 ⟨fun z hz=> ?_,List.pairwise_cons.2 h⟩;rcases List.mem_cons.1 hz with rfl | hz
   ·exact hxy
   ·exact ht _ _ _ hxy (h.1 z hz)
  ·rename_i hxy
   refine List.pairwise_cons.2 ⟨fun z hz=> ?_,ih h.2⟩;rcases List.mem_cons.1 ((PX le x l).mem_iff.1 hz) with rfl | hz
   ·have:=hl z y
    rw [fW]at this;rcases this with g | g
    ·exact absurd g hxy
    ·exact g
   ·exact h.1 z hz
theorem Mt {α:Type}{le:α→α→Bool}(ht:∀a b c,le a b=true→le b c=true→le a c=true) (hl:∀a b,(le a b || le b a)=true) (l:List α):(N5 le l).Pairwise fun a b=>le a b=true:=by
 induction l with
 |nil=>exact .nil
 |cons x l ih=>exact Wn ht hl x ih
theorem PY {α:Type}{le:α→α→Bool}(ht:∀a b c,le a b=true→le b c=true→le a c=true) (hl:∀a b,(le a b || le b a)=true) (ha:∀a b,le a b=true→le b a=true→a=b) (l:List α):N5 le l=l.mergeSort le:=
 List.Perm.eq_of_pairwise (fun a b _ _ h1 h2=>ha a b h1 h2) (Mt ht hl l) (List.pairwise_mergeSort ht hl l) ((Cz le l).trans (List.mergeSort_perm l le).symm)
def JM (l:List Int):List Int:=N5 (fun x y=>decide (x≤y)) l
theorem Tf (l:List Int):JM l=l.mergeSort fun x y=>decide (x≤y):=
 PY (fun a b c h1 h2=>by simp only [decide_eq_true_eq]at *;omega) (fun a b=>by simp only [fW,decide_eq_true_eq];omega) (fun a b h1 h2=>by simp only [decide_eq_true_eq]at *;omega) l
theorem Om {k:IntKind}{a b:List Int}(h:a.map (cQ k)=b.map (cQ k)):a=b:=
 (List.map_inj_right (f:=cQ k) fun x y hxy=>by cases hxy;rfl).1 h
def Rb (l:List Int):Option (List Int):=if l.length<4611686018427387904 then some (JM l) else none
def LC (l:List Int):Option (List Int):=if l.length<4611686018427387904 then some (Lib.compact l) else none
theorem St.rowTake {α:Type}{φ:AD}{h:AH}{Γ:List Chk}{ty:TypeId}{r:Ro α}{t:Slc}{l:List α}(H:St φ (⟨cH ty r,[.slice t.1 t.2.1 t.2.2],l⟩::Γ) h) {k:Nat}(hk:k≤l.length):
 St φ (⟨cH ty r,[.slice t.1 k t.2.2],l.take k⟩::Γ) h:=by
 obtain ⟨F,⟨p,n,c,vs,e,hn,hc,hfu,ho,hall,hF⟩,h2,H⟩:=H;have hn:l.length=n:=hn;simp only [List.cons.injEq,Value.slice.injEq,and_true]at e;obtain ⟨e1,e2,e3⟩:=e;refine ⟨F,⟨p,k,c,vs.take (k *r.sz),by rw [e1,e3],by rw [eS];omega,hc,hfu,?_,hall.take k,hF⟩,h2,H⟩;rcases ho with ⟨hp,hn0,hc0,hv0⟩|⟨b,off,arr,hp,hb0,g1,g2,g3,g4⟩
 ·exact .inl ⟨hp,by omega,hc0,by rw [hv0];exact List.take_nil⟩
 ·refine .inr ⟨b,off,arr,hp,hb0,?_,by omega,g3,fun i v hv=> ?_⟩
  ·rw [eS,g1];exact Nat.min_eq_left (eW _ (by omega))
  ·rw [dX]at hv;split at hv
   ·exact g4 i v hv
   ·cases hv
theorem St.rowCap {α:Type}{φ:AD}{h:AH}{Γ:List Chk}{ty:TypeId}{r:Ro α}{t:Slc}{l:List α}(H:St φ (⟨cH ty r,[.slice t.1 t.2.1 t.2.2],l⟩::Γ) h):l.length≤t.2.2:=by
 obtain ⟨F,⟨p,n,c,vs,e,hn,hc,hfu,ho,hall,hF⟩,h2,H⟩:=H;have hn:l.length=n:=hn;simp only [List.cons.injEq,Value.slice.injEq,and_true]at e;obtain ⟨e1,e2,e3⟩:=e;rcases ho with ⟨hp,hn0,hc0,hv0⟩|⟨b,off,arr,hp,hb0,g1,g2,g3,g4⟩ <;>omega
theorem St.rowHoldsF {α:Type}{φ:AD}{w:World}{Γ:List Chk}{ty:TypeId}{r:Ro α}{t:Slc}{l:List α}(H:St φ (⟨cH ty r,[.slice t.1 t.2.1 t.2.2],l⟩::Γ) w.heap):
 (l= [] ∧t.2.1=0)∨ ∃(b off:Nat) (vs:List Value),t.1=some ⟨b,off,none⟩∧r.All φ vs l∧t.2.1=l.length∧b<w.heap.size∧(∀arr,w.heap[b]? =some (.cells arr ty (0,0))→off+vs.length≤arr.size)∧Sort.Holds id w b off vs.toArray:=by
 obtain ⟨F,⟨p,n,c,vs,e,hn,hc,hfu,ho,hall,hF⟩,h2,H⟩:=H;have hn:l.length=n:=hn;simp only [List.cons.injEq,Value.slice.injEq,and_true]at e;obtain ⟨e1,e2,e3⟩:=e;rcases ho with ⟨hp,hn0,hc0,hv0⟩|⟨b,off,arr,hp,hb0,g1,g2,g3,g4⟩
 ·exact .inl ⟨dH (by omega),by omega⟩
 ·right
  refine ⟨b,off,vs,by rw [e1,hp],hall,by omega,Au hb0,fun arr' ha=> ?_,fun j hj=> ?_⟩
  ·rw [hb0]at ha;cases ha
   have:=eW r.sz g2
   omega
  have hj':j<vs.length:=by simpa using hj
  have hc:=g4 j vs[j] (bR hj');refine ⟨?_,?_⟩
  ·unfold fK;dsimp only;rw [hb0];dsimp only;rw [getElem!_pos _ j hj];simpa using hc
  ·unfold World.frozen?;dsimp only;rw [hb0];simp
theorem St.rowSortedF {α:Type}{φ:AD}{w:World}{Γ:List Chk}{ty:TypeId}{r:Ro α}{t:Slc}{l m:List α}(H:St φ (⟨cH ty r,[.slice t.1 t.2.1 t.2.2],l⟩::Γ) w.heap)
 {b off:Nat} (ht:t.1=some ⟨b,off,none⟩) (ms:List Value) (hall:r.All φ ms m) (hm:m.length=l.length) (hfit:∀arr,w.heap[b]? =some (.cells arr ty (0,0))→off+ms.length≤arr.size) (k:Nat) (os:Array Obj):
 St φ (⟨cH ty r,[.slice t.1 t.2.1 t.2.2],m⟩::Γ) (grow (putRow id (Sort.ahead w k) b off ms.toArray) os).heap:=by
 have hheap:(grow (putRow id (Sort.ahead w k) b off ms.toArray) os).heap=w.heap.modify b (onCells (putCells id off ms.toArray)) ++os:=rfl;rw [hheap];refine H.rowPut hall hm (fun b' off' he arr harr=> ?_) fun j hj hne=> ?_
 ·rw [ht]at he;cases he;have hlt:=Au harr;refine ⟨putCells id off ms.toArray arr,?_,by simp [putCells],fun i v hv=> ?_⟩
  ·rw [fF (by simpa using hlt),fY,if_pos rfl,harr];rfl
  ·have hi:i<ms.length:=by
    rcases dI i ms.length with g | g
    ·exact g
    ·rw [cP g]at hv;cases hv
   have hf:=hfit arr harr;unfold putCells;rw [Array.getElem?_mapIdx,bZ (by omega)];have hc:off≤off+i∧off+i<off+ms.toArray.size:=by simp;exact hi
   simp only [Option.map_some];rw [if_pos hc,Nat.add_sub_cancel_left,getElem!_pos _ i (by simpa using hi)];rw [bR hi]at hv;cases hv;simp
 ·rw [fF (by simpa using hj),fY,if_neg fun e=>hne b off ht e.symm]
section
variable {φ:AD}{h:AH}{F:List Chk}
theorem SW {t:Slc}{l r:List Int}(s0:St φ (cR 3 (bW .i64) t l::F) h) (hd:Rb l=some r):
 CallsH bT 130 [.slice t.1 t.2.1 t.2.2] h (Ar fun v h'=>∃ψ:AD,∃y:Unit,∃l1:List Int,Sub φ ψ∧v=((.tuple []):Sh).val y∧l1=r∧St ψ (cR 3 (bW .i64) t l1::F) h'):=by
 unfold Rb at hd;split at hd
 ·rename_i hb
  cases hd;intro w hw;subst hw;rcases s0.rowHolds rfl (cQ .i64) (fun vs ha=>⟨l,C5 ha⟩) with ⟨hl,hn⟩|⟨b,off,bs,ht,hall,hn,hlen,hlt,hfit,hH⟩
  ·subst hl;rw [hn];have hc:=Any.slices_Sort_int_none K9 t.1 t.2.2 w;refine (show Calls bT 130 #[.slice t.1 0 t.2.2] w _ from hc).mono ?_;rintro e w' ⟨rfl,rfl⟩;exact ⟨iO _,_,rfl,φ,(),_,bX _,rfl,rfl,by rw [show JM [] = [] from rfl];exact s0⟩
  ·have hbl:bs=l:=Om (C5 hall);subst hbl;rw [ht,hn];have hc:=Any.slices_Sort_int K9 b off t.2.2 bs w hH hlt hb;rw [←Tf]at hc;refine (show Calls bT 130 #[.slice (some ⟨b,off,none⟩) bs.length t.2.2] w _ from hc).mono ?_;rintro e w' ⟨rfl,k,os,rfl⟩;refine ⟨⟨rfl,rfl,rfl,by rw [Go.Sort.size_grow,Go.Sort.size_putRow];exact Nat.le_add_right _ _⟩,_,rfl,φ,(),_,bX _,rfl,rfl,?_⟩;exact s0.rowSorted ht (cQ .i64) (JM bs) (Em _) (Cz _ _).length_eq (Cz _ _).length_eq hfit k os
 ·cases hd
theorem Mu (l:List Int):(Lib.compact l).length≤l.length:=by
 unfold Lib.compact Lib.compactUpTo;rw [dZ];refine Nat.le_trans (eR _ _) ?_;simp
theorem PZ {t:Slc}{l r:List Int}(s0:St φ (cR 3 (bW .i64) t l::F) h) (hd:LC l=some r):
 CallsH bT 131 [.slice t.1 t.2.1 t.2.2] h (Ar fun v h'=>∃ψ:AD,∃y:Slc,∃l1:List Int,Sub φ ψ∧v=((.one aS):Sh).val y∧l1=r∧St ψ (cR 3 (bW .i64) y l1::F) h'):=by
 unfold LC at hd;split at hd
 ·rename_i hb
  cases hd;intro w hw;subst hw;have hcap:=St.rowCap s0;rcases s0.rowHolds rfl (cQ .i64) (fun vs ha=>⟨l,C5 ha⟩) with ⟨hl,hn⟩|⟨b,off,bs,ht,hall,hn,hlen,hlt,hfit,hH⟩
  ·subst hl;rw [hn];have hc:=Any.slices_Compact_int_empty LA t.1 t.2.2 w;refine (show Calls bT 131 #[.slice t.1 0 t.2.2] w _ from hc).mono ?_;rintro e w' ⟨rfl,rfl⟩;rw [show t=(t.1,t.2.1,t.2.2) from rfl,hn]at s0;exact ⟨iO _,_,rfl,φ,(t.1,0,t.2.2),_,bX _,rfl,rfl,s0⟩
  ·have hbl:bs=l:=Om (C5 hall);subst hbl;rw [ht,hn];have hc:=Any.slices_Compact_int LA b off t.2.2 bs w hH (by omega) hcap;refine (show Calls bT 131 #[.slice (some ⟨b,off,none⟩) bs.length t.2.2] w _ from hc).mono ?_;rintro e w' ⟨rfl,k,rfl⟩;have hle:=Mu bs;have hlz:(Lib.compact bs++dM (bs.length - (Lib.compact bs).length) 0).length=bs.length:=by simp;omega
   have s1:=s0.rowSorted ht (cQ .i64) (Lib.compact bs++dM (bs.length - (Lib.compact bs).length) 0) (Em _) hlz hlz hfit k #[];have s2:=St.rowTake s1 (k:=(Lib.compact bs).length) (by rw [hlz];exact hle);rw [List.take_left,grow_empty]at s2;refine ⟨⟨rfl,rfl,rfl,by rw [Go.Sort.size_putRow];exact dN _⟩,_,rfl,φ,(t.1,(Lib.compact bs).length,t.2.2),_,bX _,by rw [ht];rfl,rfl,s2⟩
 ·cases hd
end
end Go.Proofs.YteolcjbobmpdiaaGreatDoor
namespace Go.Proofs.YteolcjbobmpdiaaGreatDoor
open Go Go.Shelf Go.Proofs
set_option maxRecDepth 100000
def Nk:Ren:=⟨fun x=>bif cJ x 6 then 204 else bif cJ x 10 then 190 else 0,fun x=>bif cJ x 0 then 0 else bif cJ x 3 then 3 else bif cJ x 4 then 4 else bif cJ x 22 then 30 else bif cJ x 23 then 3 else bif cJ x 25 then 161 else 0,fun _=>0⟩
theorem Mv:SlLaysH.n10 bT Nk where
 mixed:=by kernel_rfl
 f6:=⟨ "slices.IndexFunc[[]int,int]",by decide,Tryz.func204.trans (congrArg some (by kernel_rfl))⟩
 f10:=⟨ "slices.DeleteFunc[[]int,int]",by decide,Tryz.func190.trans (congrArg some (by kernel_rfl))⟩
 t0:=iC
 a0:=Tryz.isAgg0
 z0:=Tryz.sizeOf0
 v0:=Tryz.zeroValue0
 t3:=eT
 a3:=iG
 z3:=gW
 v3:=fX
 t4:=iD
 a4:=Tryz.isAgg4
 z4:=Tryz.sizeOf4
 v4:=Tryz.zeroValue4
 t22:=eB
 a22:=Tryz.isAgg30
 z22:=Tryz.sizeOf30
 v22:=Tryz.zeroValue30
 a23:=iG
 z23:=gW
 t25:=Tryz.underlying161
 a25:=Tryz.isAgg161
 z25:=Tryz.sizeOf161
 v25:=Tryz.zeroValue161
end Go.Proofs.YteolcjbobmpdiaaGreatDoor
namespace Go.Proofs.YteolcjbobmpdiaaGreatDoor.Dg
open Go Go.Eng
set_option linter.unusedVariables false
def JN (n x:Int):Bool:=decide (x<0) || decide (n≤x)
def Cj (ll:List (List Int)) (x n:Int):List Int:=if x≥ (ll.length:Int) then [] else (ll[x.toNat]?.getD []).filter fun y=> !JN n y
section
variable {A:Type}(ll:List (List Int)) (n:Int) (ledA:A→Int→Int→Option A) (partA:A→List Int→Option A)
abbrev DJ (A:Type):=List Int×List Int×A
noncomputable def toD (rec:DJ A→Int→Option (DJ A)) (x to:Int) (st:DJ A):Option (DJ A):=(idx st.1 to).bind fun e=>(cond (e==0) (rec st to) (some st)).bind fun st=>(idx st.1 x).bind fun p=>(idx st.1 to).bind fun q=>(DL st.1 x (if q<p then q else p)).bind fun low=>(ledA st.2.2 x to).bind fun a=>some (low,st.2.1,a)
noncomputable def Tg (x:Int) (deep:Nat) (st:DJ A):Option (DJ A):=(idx st.1 x).bind fun e=>cond (e !=(deep:Int)) (some st)<|need (1≤deep∧deep - 1≤st.2.1.length∧st.2.1.length≤1073741824)<|(forS 0 ((st.2.1.drop (deep - 1)).length:Int) st.1 fun i low=>(idx (st.2.1.drop (deep - 1)) i).bind fun y=>DL low y 9223372036854775807).bind fun low=>(partA st.2.2 (st.2.1.drop (deep - 1))).bind fun a=>some (low,st.2.1.take (deep - 1),a)
noncomputable def Mw (rec:DJ A→Int→Option (DJ A)) (st:DJ A) (x:Int):Option (DJ A):=(app st.2.1 [x]).bind fun stk=>(DL st.1 x (stk.length:Int)).bind fun low=>need (∀l∈ll,l.length≤1073741824)<|(forS 0 ((Cj ll x n).length:Int) ((low,stk,st.2.2):DJ A) fun i st=>(idx (Cj ll x n) i).bind fun to=>toD ledA rec x to st).bind fun st=>Tg partA x stk.length st
noncomputable def JO:Nat→DJ A→Int→Option (DJ A)|0=>fun _ _=>none | k+1=>Mw ll n ledA partA (JO k)
end
noncomputable def N6 {A:Type}(ll:List (List Int)) (n:Int) (ledA:A→Int→Int→Option A) (partA:A→List Int→Option A) (fuel:Nat) (a:A):Option (DJ A):=need (0≤n∧n≤1073741824)<|forS 0 n ((dM n.toNat 0,[],a):DJ A) fun i st=>(idx st.1 i).bind fun e=>cond (e==0) (JO ll n ledA partA fuel st i) (some st)
set_option maxRecDepth 100000
def cloneD (l:List Int):Option (List Int):=if l.length≤1073741824 then some l else none
theorem FW {l r:List Int}(h:cloneD l=some r):l.length≤1073741824∧r=l:=by
 unfold cloneD at h;split at h
 ·rename_i g;exact ⟨g,(Option.some.inj h).symm⟩
 ·cases h
theorem Th:HG bT 30 30 3 1:=⟨eB,.inl eB,⟨iV,by kernel_rfl,rfl,⟨_,rfl,rfl⟩,by decide,by decide⟩,by decide⟩
theorem Xa:HG bT 235 235 237 1:=⟨fG,.inl fG,⟨Tryz.t237,by kernel_rfl,rfl,⟨_,rfl,rfl⟩,by decide,by decide⟩,by decide⟩
theorem Em {k:IntKind}{φ:AD}(l:List Int):(bW k).All φ (l.map (eD k).val) l:=by
 induction l with
 |nil=>exact .nil
 |cons x l ih=>exact gA (a:=[(eD k).val x]) rfl ih
section
variable {φ:AD}{h:AH}{F:List Chk}
theorem LD {t:Slc}{l:List Int}(s0:St φ F h) (hl:l.length=t.2.1) (hc:∀h',St φ F h'→CH h' t.1 (l.map (eD .i64).val)) (hn:t.1=none→l= []) (hb:l.length≤1073741824):
 CallsH bT 84 [.slice t.1 t.2.1 t.2.2] h (Ar fun v h'=>∃y:Slc,v=((.one aS):Sh).val y∧St φ (⟨cH 3 (bW .i64),[.slice y.1 y.2.1 y.2.2],l⟩::F) h'):=by
 refine AO mixed Tryz.func84 ?_;rw [HL];unfold Eg;cases hp:t.1 with
 |none=>
  rw [hn hp];exact AB ⟨(none,0,0),rfl,s0.nil _ _⟩
 |some a=>
  rw [eM];refine AV (vs:=[]) s0 fun r h1 s1=> ?_;have s2:=iT (r:=bW .i64) (l:=[]) (n:=0) s1 .nil rfl (by decide);refine Am (r:=bW .i64) (ms:=l) (l':=l) Th s2 rfl (by rw [←hp];exact hc h1 s1.tail) (Em l) hl (by unfold app;rw [if_pos (by simpa using hb)];rfl) fun y h2 s3=>AB ⟨y,rfl,s3⟩
theorem On {t:Slc}{l:List Int}(s0:St φ F h) (hl:l.length=t.2.1) (hc:∀h',St φ F h'→CH h' t.1 (l.map (eD .u64).val)) (hn:t.1=none→l= []) (hb:l.length≤1073741824):
 CallsH bT 148 [.slice t.1 t.2.1 t.2.2] h (Ar fun v h'=>∃y:Slc,v=((.one aS):Sh).val y∧St φ (⟨cH 237 (bW .u64),[.slice y.1 y.2.1 y.2.2],l⟩::F) h'):=by
 refine AO mixed Tryz.func148 ?_;rw [FE];unfold DH;cases hp:t.1 with
 |none=>
  rw [hn hp];exact AB ⟨(none,0,0),rfl,s0.nil _ _⟩
 |some a=>
  rw [eM];refine AV (vs:=[]) s0 fun r h1 s1=> ?_;have s2:=iT (r:=bW .u64) (l:=[]) (n:=0) s1 .nil rfl (by decide);refine Am (r:=bW .u64) (ms:=l) (l':=l) Xa s2 rfl (by rw [←hp];exact hc h1 s1.tail) (Em l) hl (by unfold app;rw [if_pos (by simpa using hb)];rfl) fun y h2 s3=>AB ⟨y,rfl,s3⟩
theorem Wo {k:IntKind}{t:Slc}{l:List Int}(H:Ro.SliceIs (bW k) φ t l):t.1=none→l= []:=H.2.2.2.1
theorem Ti {k:IntKind}{t:Slc}{l:List Int}(H:Ro.SliceIs (bW k) φ t l) {h':AH}(s:St φ F h'):CH h' t.1 (l.map (eD k).val):=by
 obtain ⟨vs,ha,hc⟩:=H.heap s.sub;rw [C5 ha]at hc;exact hc
theorem VO {k:IntKind}{ty:TypeId}{t:Slc}{l:List Int}(H:St φ (⟨cH ty (bW k),[.slice t.1 t.2.1 t.2.2],l⟩::F) h):t.1=none→l= []:=by
 intro hp;obtain ⟨vs,ha,hc⟩:=H.all;cases l with
 |nil=>rfl
 |cons x l=>
  have e:=C5 ha;obtain ⟨a,ha',_⟩:=hc 0 ((eD k).val x) (by rw [e];rfl);rw [hp]at ha';cases ha'
theorem Li {k:IntKind}{ty:TypeId}{t:Slc}{l:List Int}{h':AH}(s:St φ (⟨cH ty (bW k),[.slice t.1 t.2.1 t.2.2],l⟩::F) h'):CH h' t.1 (l.map (eD k).val):=by
 obtain ⟨vs,ha,hc⟩:=s.all;rw [C5 ha]at hc;exact hc
theorem Qr {t:Slc}{l:List Int}(k:Ro.SliceIs (bW .i64) φ t l) (s0:St φ F h) {r:List Int}(hd:cloneD l=some r):CallsH bT 84 [.slice t.1 t.2.1 t.2.2] h
 (Ar fun v h'=>∃ψ:AD,∃y:Slc,∃l1:List Int,Sub φ ψ∧v=((.one aS):Sh).val y∧l1=r∧St ψ (⟨cH 3 (bW .i64),[.slice y.1 y.2.1 y.2.2],l1⟩::F) h'):=by
 obtain ⟨hb,rfl⟩:=FW hd;refine (LD s0 k.length.symm (fun h' s=>Ti k s) (Wo k) hb).mono fun e h' ⟨v,hv,y,h1,h2⟩=>⟨v,hv,φ,y,_,bX _,h1,rfl,h2⟩
theorem clone53_own {t:Slc}{l:List Int}(s0:St φ (⟨cH 237 (bW .u64),[.slice t.1 t.2.1 t.2.2],l⟩::F) h) {r:List Int}(hd:cloneD l=some r):CallsH bT 148 [.slice t.1 t.2.1 t.2.2] h
 (Ar fun v h'=>∃ψ:AD,∃y:Slc,∃l1:List Int,Sub φ ψ∧v=((.one aS):Sh).val y∧l1=r∧St ψ (⟨cH 237 (bW .u64),[.slice y.1 y.2.1 y.2.2],l1⟩::⟨cH 237 (bW .u64),[.slice t.1 t.2.1 t.2.2],l⟩::F) h'):=by
 obtain ⟨hb,rfl⟩:=FW hd;refine (On s0 s0.rowLen.symm (fun h' s=>Li s) (VO s0) hb).mono fun e h' ⟨v,hv,y,h1,h2⟩=>⟨v,hv,φ,y,_,bX _,h1,rfl,h2⟩
end
end Go.Proofs.YteolcjbobmpdiaaGreatDoor.Dg
namespace Go.Proofs.YteolcjbobmpdiaaGreatDoor
open Go Go.Eng
set_option linter.unusedVariables false
set_option maxRecDepth 100000
section
variable {φ:AD}{h:AH}{F:List Chk}
theorem SX:N4 bT 235 237 (.int .u64 (0:Int)):=⟨fG,⟨Tryz.t237,by kernel_rfl,rfl,⟨_,rfl,rfl⟩,by decide⟩⟩
noncomputable def En (s_0:List Int) (v_1:Int):Option Int:=
 (C2 (σ:=Unit) (β:=Int) 0 (s_0.length:Int) () fun i_z2 z2=>
  (idx s_0 i_z2).bind fun e17=>
  cond (v_1==e17)
  (some (fR i_z2))
  (some (fS ()))).bind fun e_z1=>match e_z1 with
 |.next z1=>
  some (-1:Int)
 |.done q30=>some q30
noncomputable def Dz (s_0:List Int) (v_1:Int):Option Bool:=(En s_0 v_1).bind fun t1=>some (decide (t1≥ 0))
noncomputable def Cn (s_0:Ci) (i_1:Int):Option Bool:=(cond (decide (i_1≥ 0)) (some (decide (i_1< (s_0.1)))) (some false)).bind fun z1=>some z1
theorem G4 {s_0:Option Addr}{a:Ci}{i_1:Int}(s0:St φ (cO 239 Dx s_0 a::F) h) {r:Bool}(hd:Cn a i_1=some r):
 CallsH bT 162 [(.pointer s_0),(.int .i64 i_1)] h (Ar fun v h'=>∃ψ:AD,∃y:Bool,Sub φ ψ∧v=((.one aB):Sh).val y∧y=r∧St ψ (cO 239 Dx s_0 a::F) h'):=by
 refine AO mixed Tryz.func162 ?_;rw [K0];unfold IX;unfold Cn at hd;obtain ⟨d,b,hd⟩:=bS hd;refine Aj (fun (y:Bool×Unit) w_ g=>∃ψ:AD,Sub φ ψ∧y.1=g∧St ψ (cO 239 Dx s_0 a::F) w_) (g:=d) ?_ ?_
 ·refine AK b rfl (fun _ b=> ?_) (fun _ b=> ?_)
  ·obtain ⟨k,l,rfl,c⟩:=Ku s0;refine AF _ rfl<|AA (x:=(a.1)) c.at1 rfl ?_;obtain rfl:=iS b;exact AQ ((decide (i_1< (a.1))),()) rfl ⟨φ,(bX _),rfl,(H0 (x0:=(a.1)) c.at1.at1)⟩
  obtain rfl:=iS b;exact AQ (false,()) rfl ⟨φ,(bX _),rfl,s0⟩
 rintro z1 m ⟨f,i,rfl,j⟩;try dsimp only at hd
 obtain rfl:=iS hd;exact AB ⟨f,z1.1,i,rfl,rfl,j⟩
noncomputable def C6 (s_0:Ci) (i_1:Int):Option Bool:=((Cn s_0 i_1).bind fun t2=>cond t2 (need ((64:Int)≠0)<|(idx s_0.2 (bU .i64 (gB i_1 64))).bind fun e17=>need ((64:Int)≠0)<|need (0≤(gC i_1 64))<|some ((bU .u64 (eG (cY (bY .u64) (gX e17 (2 ^ (min (cD (gC i_1 64)) (bY .u64)))) &&& (cY (bY .u64) 1)):Nat))==1)) (some false)).bind fun z1=>some z1
theorem Kh {s_0:Option Addr}{b:Ci}{i_1:Int}(s0:St φ (cO 239 Dx s_0 b::F) h) {r:Bool}(hd:C6 b i_1=some r):
 CallsH bT 163 [(.pointer s_0),(.int .i64 i_1)] h (Ar fun v h'=>∃ψ:AD,∃y:Bool,Sub φ ψ∧v=((.one aB):Sh).val y∧y=r∧St ψ (cO 239 Dx s_0 b::F) h'):=by
 refine AO mixed Tryz.func163 ?_;rw [Kd];unfold Ha;unfold C6 at hd;obtain ⟨i,a,hd⟩:=bS hd;refine Aj (fun (y:Bool×Unit) w_ g=>∃ψ:AD,Sub φ ψ∧y.1=g∧St ψ (cO 239 Dx s_0 b::F) w_) (g:=i) ?_ ?_
 ·obtain ⟨s,j,a⟩:=bS a;refine AI (G4 s0 j) ?_;rintro _ t ⟨d,t2,e,rfl,rfl,f⟩;refine ⟨t2,rfl,?_⟩;refine AK a rfl (fun _ a=> ?_) (fun _ a=> ?_)
  ·obtain ⟨u,k,rfl,c⟩:=Ku f;refine AF _ rfl<|AA (x:=k) c.at1 rfl<|Ch a id fun w a=> ?_;obtain ⟨m,n,a⟩:=bS a;refine EK c n<|Ch a id fun z a=>Ch a id fun a0 a=> ?_;obtain rfl:=iS a;exact AQ (((bU .u64 (eG (cY (bY .u64) (gX m (2 ^ (min (cD (gC i_1 (64:Int))) (bY .u64)))) &&& (cY (bY .u64) (1:Int))):Nat))==(1:Int)),()) rfl ⟨d,e,rfl,(H0 (x0:=(b.1)) c.at1.at1)⟩
  obtain rfl:=iS a;exact AQ (false,()) rfl ⟨d,e,rfl,f⟩
 rintro z1 a1 ⟨o,p,rfl,q⟩;try dsimp only at hd
 obtain rfl:=iS hd;exact AB ⟨o,z1.1,p,rfl,rfl,q⟩
noncomputable def Aq (s_0:Ci) (i_1:Int):Option (Bool×Ci):=((Cn s_0 i_1).bind fun t2=>cond (!t2) (some true) ((C6 s_0 i_1).bind fun t3=>some t3)).bind fun z1=>cond z1 (some (false,s_0)) (need ((64:Int)≠0)<|(idx s_0.2 (bU .i64 (gB i_1 64))).bind fun e30=>need ((64:Int)≠0)<|need (0≤(gC i_1 64))<|(DL s_0.2 (bU .i64 (gB i_1 64)) (bU .u64 (eG (cY (bY .u64) e30 ||| (cY (bY .u64) (bU .u64 (1 *2 ^ (min (cD (gC i_1 64)) (bY .u64)))))):Nat))).bind fun m45=>some (true,((s_0.1),m45)))
theorem CF {s_0:Option Addr}{b:Ci}{i_1:Int}(s0:St φ (cO 239 Dx s_0 b::F) h) {r:(Bool×Ci)}(hd:Aq b i_1=some r):
 CallsH bT 134 [(.pointer s_0),(.int .i64 i_1)] h (Ar fun v h'=>∃ψ:AD,∃y:Bool,∃d:Ci,Sub φ ψ∧v=((.one aB):Sh).val y∧(y,d)=r∧St ψ (cO 239 Dx s_0 d::F) h'):=by
 refine AO mixed Tryz.func134 ?_;rw [Kc];unfold HZ;unfold Aq at hd;obtain ⟨n,a,hd⟩:=bS hd;refine Aj (fun (y:Bool×Unit) w_ g=>∃ψ:AD,Sub φ ψ∧y.1=g∧St ψ (cO 239 Dx s_0 b::F) w_) (g:=n) ?_ ?_
 ·obtain ⟨a4,o,a⟩:=bS a;refine AI (G4 s0 o) ?_;rintro _ a5 ⟨p,t2,e,rfl,rfl,f⟩;refine ⟨t2,rfl,?_⟩;refine AK a rfl (fun _ a=> ?_) (fun _ a=> ?_)
  ·obtain rfl:=iS a;exact AQ (true,()) rfl ⟨p,e,rfl,f⟩
  obtain ⟨a6,q,a⟩:=bS a;refine AI (Kh f q) ?_;rintro _ a7 ⟨s,t3,t,rfl,rfl,u⟩;refine ⟨t3,rfl,?_⟩;obtain rfl:=iS a;exact AQ (t3,()) rfl ⟨s,(e.trans t),rfl,u⟩
 rintro z1 a8 ⟨i,j,rfl,k⟩;try dsimp only at hd
 refine AK hd rfl (fun _ hd=> ?_) (fun _ hd=> ?_)
 ·obtain rfl:=iS hd;exact AB ⟨i,false,b,j,rfl,rfl,k⟩
 obtain ⟨a9,w,rfl,c⟩:=Ku k;refine AF _ rfl<|AA (x:=w) c.at1 rfl<|Ch hd id fun aa hd=> ?_;obtain ⟨ab,a0,hd⟩:=bS hd;refine EK c a0<|Ch hd id fun ac hd=>Ch hd id fun ad hd=> ?_;obtain ⟨a1,l,hd⟩:=bS hd;obtain ⟨ae,m,a2⟩:=c.there l;refine AF _ m (AY a2 (FO c l rfl m ?_));intro af a3;obtain rfl:=iS hd;exact AB ⟨i,true,((b.1),a1),j,rfl,rfl,(H0 (x0:=(b.1)) a3.at1.at1)⟩
noncomputable def Bm (n_0:Int):Option Ci:=need ((64:Int)≠0)<|(Dw (bU .i64 (gB (bU .i64 ((bU .i64 ((if (if 1000 <n_0 then 1000 else n_0) >0 then (if 1000 <n_0 then 1000 else n_0) else 0)+64)) - 1)) 64)) 0).bind fun t1=>some ((if (if 1000 <n_0 then 1000 else n_0) >0 then (if 1000 <n_0 then 1000 else n_0) else 0),t1)
theorem Df {n_0:Int}(s0:St φ (F) h) {r:Ci}(hd:Bm n_0=some r):
 CallsH bT 138 [(.int .i64 n_0)] h (Ar fun v h'=>∃ψ:AD,∃y:Option Addr,∃a:Ci,Sub φ ψ∧v=((.one aP):Sh).val y∧a=r∧St ψ (cO 239 Dx y a::F) h'):=by
 refine AO mixed Tryz.func138 ?_;rw [Mr];unfold Kz;unfold Bm at hd;refine Ch hd id fun g hd=> ?_;obtain ⟨b,c,hd⟩:=bS hd;refine FA (r:=(bW .u64)) (x:=(0:Int)) SX s0 rfl rfl c ?_;intro t1 i d;refine AV (vs:=[.int .i64 (if (if (1000:Int) <n_0 then (1000:Int) else n_0) >(0:Int) then (if (1000:Int) <n_0 then (1000:Int) else n_0) else (0:Int)),sv t1]) d fun r2 j e=> ?_;have f:=H0 (x0:=(if (if (1000:Int) <n_0 then (1000:Int) else n_0) >(0:Int) then (if (1000:Int) <n_0 then (1000:Int) else n_0) else (0:Int))) e.at1.at1.at1;obtain rfl:=iS hd;exact AB ⟨φ,(some ⟨r2,0,none⟩),((if (if (1000:Int) <n_0 then (1000:Int) else n_0) >(0:Int) then (if (1000:Int) <n_0 then (1000:Int) else n_0) else (0:Int)),b),(bX _),rfl,rfl,f⟩
noncomputable def Cd (n_0:Int) (l_1:List Int):Option Ci:=(Bm n_0).bind fun t1=>(forS (σ:=Ci) 0 (l_1.length:Int) t1 fun i_z3 z3=>(idx l_1 i_z3).bind fun e28=>(Aq z3 e28).bind fun t6=>some t6.2).bind fun z2=>some z2
theorem EC {n_0:Int}{l_1:Slc}{b:List Int}(c:Ro.SliceIs (bW .i64) φ l_1 b) (s0:St φ (F) h) {r:Ci}(hd:Cd n_0 b=some r):
 CallsH bT 140 [(.int .i64 n_0),(sv l_1)] h (Ar fun v h'=>∃ψ:AD,∃y:Option Addr,∃d:Ci,Sub φ ψ∧v=((.one aP):Sh).val y∧d=r∧St ψ (cO 239 Dx y d::F) h'):=by
 refine AO mixed Tryz.func140 ?_;rw [Nj];unfold MH;unfold Cd at hd;have e:l_1.2.1=eX b:=c.length;obtain ⟨ac,o,hd⟩:=bS hd;refine AI (Df s0 o) ?_;rintro _ ad ⟨f,t1,p,i,rfl,rfl,q⟩;refine ⟨t1,rfl,?_⟩;obtain ⟨ae,s,hd⟩:=bS hd;refine B9 s (fun t (y:Int×Unit) w_ g=>∃ψ:AD,∃j:Ci,Sub f ψ∧y.1=t∧j=g∧St ψ (cO 239 Dx t1 j::F) w_) ((0:Int),()) rfl ⟨f,p,(bX _),rfl,rfl,q⟩ ?_ ?_ ?_
 ·rintro _ z3 af _ _ ⟨ag,ah,k,rfl,rfl,l⟩ a u m n;try dsimp only at a u m n
  refine Aa (dT e m) ?_;obtain ⟨ai,w,a⟩:=bS a;refine Ce c w (iN (i.trans k) l.sub) ?_;obtain ⟨aj,x,a⟩:=bS a;refine AI (CF l x) ?_;rintro _ ak ⟨z,t6,a0,a1,rfl,rfl,a2⟩;refine ⟨t6,rfl,?_⟩;try dsimp only at a
  obtain rfl:=iS a;exact Ad ((wN z3.1),()) _ rfl rfl ⟨z,a0,(k.trans a1),n,rfl,a2⟩
 ·rintro _ z3 al ⟨a3,a4,a5,rfl,rfl,a6⟩ a7;refine AT (dF e a7)<|AJ (AL (z3.1,()) rfl ⟨_,a3,a4,a5,rfl,rfl,a6⟩)
 rintro z2 am ⟨_,a8,a9,aa,_,rfl,ab⟩;try dsimp only at hd
 obtain rfl:=iS hd;exact AB ⟨a8,t1,a9,(i.trans aa),rfl,rfl,ab⟩
noncomputable def CU (s_0:Ci):Option Ci:=(Dg.cloneD s_0.2).bind fun t5=>some ((s_0.1),t5)
theorem J8 {s_0:Option Addr}{a:Ci}(s0:St φ (cO 239 Dx s_0 a::F) h) {r:Ci}(hd:CU a=some r):
 CallsH bT 145 [(.pointer s_0)] h (Ar fun v h'=>∃ψ:AD,∃y:Option Addr,∃d:Ci,Sub φ ψ∧v=((.one aP):Sh).val y∧d=r∧St ψ (cO 239 Dx y d::cO 239 Dx s_0 a::F) h'):=by
 refine AO mixed Tryz.func145 ?_;rw [J3];unfold G0;unfold CU at hd;obtain ⟨f,g,rfl,c⟩:=Ku s0;refine AF _ rfl<|AA (x:=(a.1)) c.at1 rfl<|AF _ rfl<|AA (x:=g) c.at1 rfl ?_;obtain ⟨p,k,hd⟩:=bS hd;refine AI (Dg.clone53_own c k) ?_;rintro _ q ⟨l,t5,m,n,rfl,rfl,e⟩;refine ⟨t5,rfl,?_⟩;refine AM (fD (b:=f) (j:=0) e.at2 rfl)<|AV (vs:=[.int .i64 (a.1),sv t5]) e fun r6 s o=> ?_;obtain rfl:=iS hd;exact AB ⟨l,(some ⟨r6,0,none⟩),((a.1),m),n,rfl,rfl,((H0 (x0:=(a.1)) ((H0 (x0:=(a.1)) o.at1.at1.at1).at1).at2.at1).at1)⟩
end
end Go.Proofs.YteolcjbobmpdiaaGreatDoor
namespace Go.Proofs.YteolcjbobmpdiaaGreatDoor.Dg
open Go Go.Eng
set_option linter.unusedVariables false
theorem Wp {n:Nat}(h:n<18446744073709551616):bU .u64 (n:Int)=(n:Int):=by
 unfold bU;simp only [bY,fH]
 have:(n:Int) % 18446744073709551616=(n:Int):=by omega
 simp;omega
theorem SY {n:Int}(h0: -9223372036854775808≤n) (h1:n≤9223372036854775807):bU .i64 n=n:=by
 unfold bU;simp only [bY,fH];simp;omega
theorem Jm {w:Nat}(hw:w<18446744073709551616):(cY (bY .u64) (w:Int)).toNat=w:=by
 rw [BitVec.toNat_ofInt];have e:((2 ^ bY .u64:Nat):Int)=18446744073709551616:=by decide
 rw [e];omega
theorem Tj {k:Nat}(hk:k<64):bU .u64 ((1:Int) *2 ^ (min k (bY .u64)))=((2 ^ k:Nat):Int):=by
 have h1:min k (bY .u64)=k:=by simp only [bY];omega
 have h2:(1:Int) *2 ^ k=((2 ^ k:Nat):Int):=by simp
 rw [h1,h2];exact Wp (by
  have:2 ^ k<2 ^ 64:=gD (by decide) hk
  simpa using this)
theorem Pa {k:Nat}(hk:k<64):(2:Nat) ^ k<18446744073709551616:=by
 have:2 ^ k<2 ^ 64:=gD (by decide) hk
 simpa using this
theorem WL {a b:Nat}(ha:a<18446744073709551616) (hb:b<18446744073709551616):a ||| b<18446744073709551616:=by
 have:=Nat.or_lt_two_pow (n:=64) (x:=a) (y:=b) (by simpa using ha) (by simpa using hb)
 simpa using this
theorem Wq {a b:Nat}(ha:a<18446744073709551616):a &&& b<18446744073709551616:=gK Nat.and_le_left ha
theorem VQ {w v:Nat}(hw:w<18446744073709551616) (hv:v<18446744073709551616):
 bU .u64 (eG (cY (bY .u64) (w:Int) ||| (cY (bY .u64) (v:Int))):Nat)=((w ||| v:Nat):Int):=by
 rw [BitVec.toNat_or,Jm hw,Jm hv];exact Wp (WL hw hv)
theorem Mx {w v:Nat}(hw:w<18446744073709551616) (hv:v<18446744073709551616):
 bU .u64 (eG (cY (bY .u64) (w:Int) &&& (cY (bY .u64) (v:Int))):Nat)=((w &&& v:Nat):Int):=by
 rw [BitVec.toNat_and,Jm hw,Jm hv];exact Wp (Wq hw)
theorem Pb {w j:Nat}(hw:w<18446744073709551616) (hj:64≤j):w.testBit j=false:=Nat.testBit_lt_two_pow (Nat.lt_of_lt_of_le hw (by
 have:2 ^ 64≤2 ^ j:=Nat.pow_le_pow_right (by decide) hj
 simpa using this))
theorem Tl {w k:Nat}(hw:w<18446744073709551616) (hk:k<64):
 ((bU .u64 (eG (cY (bY .u64) (gX (w:Int) (2 ^ (min k (bY .u64)))) &&& (cY (bY .u64) (1:Int))):Nat))==(1:Int))=w.testBit k:=by
 have h1:min k (bY .u64)=k:=by simp only [bY];omega
 have h2:gX (w:Int) (2 ^ k)=((w / 2 ^ k:Nat):Int):=by
  rw [fI _ (Int.pow_nonneg (by decide))];simp
 have h3:(1:Int)=((1:Nat):Int):=rfl;rw [h1,h2,h3,Mx (gK (Nat.div_le_self _ _) hw) (by decide)];have h4:w / 2 ^ k &&& 1=(w / 2 ^ k) % 2:=Nat.and_one_is_mod _;rw [h4,Nat.testBit_eq_decide_div_mod_eq];by_cases h:w / 2 ^ k % 2=1
 ·rw [h];rfl
 ·have:w / 2 ^ k % 2=0:=by omega
  rw [this];rfl
abbrev AU:=Int×List Int
def Il (ws:List Int) (i:Nat):Bool:=((ws[i / 64]?).getD 0).toNat.testBit (i % 64)
def mem (s:AU) (i:Int):Bool:=decide (0≤i) && Il s.2 i.toNat
structure OkS (s:AU):Prop where
 lo:0≤s.1
 hi:s.1≤1000
 len:s.2.length=(s.1.toNat+63) / 64
 word:∀x∈s.2,0≤x∧x<18446744073709551616
 top:∀i:Nat,s.1≤(i:Int)→Il s.2 i=false
def okB (s:AU):Bool:=decide (0≤s.1) && decide (s.1≤1000) && decide (s.2.length=(s.1.toNat+63) / 64) && s.2.all (fun x=>decide (0≤x) && decide (x<18446744073709551616)) && (eF (64 *s.2.length - s.1.toNat)).all fun k=> !Il s.2 (s.1.toNat+k)
theorem VR (s:AU):okB s=true↔OkS s:=by
 unfold okB;simp only [fO,decide_eq_true_eq,List.all_eq_true,eC,List.mem_range];constructor
 ·rintro ⟨⟨⟨⟨h1,h2⟩,h3⟩,h4⟩,h5⟩;refine ⟨h1,h2,h3,h4,fun i hi=> ?_⟩;by_cases hl:i<64 *s.2.length
  ·have:=h5 (i - s.1.toNat) (by omega)
   rwa [show s.1.toNat+(i - s.1.toNat)=i by omega]at this
  ·unfold Il;rw [cP (by omega)];simp
 ·rintro ⟨h1,h2,h3,h4,h5⟩;exact ⟨⟨⟨⟨h1,h2⟩,h3⟩,h4⟩,fun k _=>h5 _ (by omega)⟩
instance (s:AU):Decidable (OkS s):=decidable_of_iff _ (VR s)
theorem OkS.at {s:AU}(H:OkS s) {k:Nat}(hk:(k:Int) <s.1):∃w:Nat,∃h:k / 64<s.2.length,s.2[k / 64] =(w:Int)∧w<18446744073709551616∧Il s.2 k=w.testBit (k % 64):=by
 have h1:=H.len;have h:k / 64<s.2.length:=by omega
 have h2:=H.word _ (cK h);refine ⟨s.2[k / 64].toNat,h,by omega,by omega,?_⟩;unfold Il;rw [bR h];rfl
theorem Rc {s:AU}(H:OkS s) {i:Int}(h:i<0∨s.1≤i):mem s i=false:=by
 unfold mem;rcases h with h | h
 ·rw [decide_eq_false (by omega)];rfl
 ·rw [H.top i.toNat (by omega),gE]
theorem Lj {s:AU}(H:OkS s) {i:Int}(h:mem s i=true):0≤i∧i<s.1:=by
 by_cases h1:i<0∨s.1≤i
 ·rw [Rc H h1]at h;cases h
 ·omega
theorem LE (s:AU) (k:Nat):mem s (k:Int)=Il s.2 k:=by
 unfold mem;rw [decide_eq_true (by omega),cT,eI]
theorem Tm (k:Nat) (hk:k<1000):bU .i64 (gB (k:Int) 64)=((k / 64:Nat):Int):=by
 rw [fJ (by omega),SY (by omega) (by omega)];omega
theorem Tn (k:Nat):gC (k:Int) 64=((k % 64:Nat):Int):=by
 rw [Int.tmod_eq_emod_of_nonneg (by omega)];omega
theorem WM (s:AU) (i:Int):Cn s i=some (decide (0≤i∧i<s.1)):=by
 unfold Cn;by_cases h:0≤i
 ·rw [decide_eq_true (show i≥0 from h),cond_true,cL];by_cases h2:i<s.1
  ·rw [decide_eq_true h2,decide_eq_true ⟨h,h2⟩]
  ·rw [decide_eq_false h2,decide_eq_false fun g=>h2 g.2]
 ·rw [decide_eq_false (show ¬i≥0 from h),cond_false,cL,decide_eq_false fun g=>h g.1]
theorem Wr {s:AU}(H:OkS s) (i:Int):C6 s i=some (mem s i):=by
 unfold C6;rw [WM,cL];by_cases h:0≤i∧i<s.1
 ·obtain ⟨k,rfl⟩:∃k:Nat,i=(k:Int):=⟨i.toNat,by omega⟩;obtain ⟨w,hk,e1,e2,e3⟩:=H.at h.2
  have:=H.hi
  rw [decide_eq_true h,cond_true,Tm k (by omega),Tn,FH hk,Ej (by decide)];simp only [cL];rw [Ej (by decide),Ej (by omega),e1,cT,Tl e2 (iJ _ (by decide)),LE,e3];rfl
 ·rw [decide_eq_false h,Rc H (by omega)];rfl
theorem Rd {ws:List Int}{k:Nat}(hk:k / 64<ws.length) (v:Nat) (j:Nat):Il (ws.set (k / 64) (v:Int)) j=if j / 64=k / 64 then v.testBit (j % 64) else Il ws j:=by
 unfold Il;rw [gY];by_cases h:j / 64=k / 64
 ·rw [if_pos h.symm,if_pos hk,if_pos h];rfl
 ·rw [if_neg fun e=>h e.symm,if_neg h]
theorem Pc {j k:Nat}(h:j / 64=k / 64):(decide (k % 64=j % 64))=decide (j=k):=by
 by_cases e:j=k
 ·subst e;simp
 ·rw [decide_eq_false e,decide_eq_false (by omega)]
theorem OkS.set {s:AU}(H:OkS s) {k v:Nat}(hk:(k:Int) <s.1) (hv:v<18446744073709551616) (ht:∀j:Nat,s.1≤(j:Int)→j / 64=k / 64→v.testBit (j % 64)=false):OkS (s.1,s.2.set (k / 64) (v:Int)):=by
 obtain ⟨w,h,_⟩:=H.at hk;refine ⟨H.lo,H.hi,?_,?_,?_⟩
 ·show (s.2.set _ _).length=_;rw [eJ];exact H.len
 ·intro x hx;rcases List.mem_or_eq_of_mem_set hx with hx | hx
  ·exact H.word x hx
  ·subst hx;omega
 ·intro j hj;show Il (s.2.set _ _) j=false;rw [Rd h];by_cases e:j / 64=k / 64
  ·rw [if_pos e];exact ht j hj e
  ·rw [if_neg e];exact H.top j hj
theorem add_ok {s:AU}(H:OkS s) (i:Int):∃s',Aq s i=some (decide (0≤i∧i<s.1) && !mem s i,s')∧OkS s'∧s'.1=s.1∧ ∀j,mem s' j=(mem s j || decide (j=i∧0≤i∧i<s.1)):=by
 unfold Aq;rw [WM,Wr H];simp only [cL];by_cases h:0≤i∧i<s.1
 ·rw [decide_eq_true h];simp only [Bool.not_true,cond_false,cL,eI];cases hm:mem s i with
  |true=>
   refine ⟨s,rfl,H,rfl,fun j=> ?_⟩;by_cases hj:j=i
   ·subst hj;rw [hm];rfl
   ·rw [decide_eq_false fun g=>hj g.1,dV]
  |false=>
   obtain ⟨k,rfl⟩:∃k:Nat,i=(k:Int):=⟨i.toNat,by omega⟩;obtain ⟨w,hk,e1,e2,e3⟩:=H.at h.2
   have:=H.hi
   have h64:k % 64<64:=iJ _ (by decide);have hor:=WL e2 (Pa h64);refine ⟨(s.1,s.2.set (k / 64) ((w ||| 2 ^ (k % 64):Nat):Int)),?_,H.set h.2 hor ?_,rfl,fun j=> ?_⟩
   ·rw [cond_false,Tm k (by omega),Tn,FH hk,Ej (by decide)];simp only [cL];rw [Ej (by decide),Ej (by omega),e1,cT,Tj h64,VQ e2 (Pa h64),G3 (by omega) (by omega),cT];rfl
   ·intro j hj e;have ht:=H.top j hj
    have:Il s.2 j=w.testBit (j % 64):=by
     unfold Il;rw [e,bR hk,e1];rfl
    rw [this]at ht;rw [Nat.testBit_or,ht,fC,Pc e,decide_eq_false (by omega)];rfl
   ·by_cases hj:0≤j
    ·obtain ⟨j,rfl⟩:∃q:Nat,j=(q:Int):=⟨j.toNat,by omega⟩;rw [LE,LE];show Il (s.2.set _ _) j=_;rw [Rd hk];have ed:decide (((j:Nat):Int)=(k:Int)∧(0:Int) ≤(k:Int)∧(k:Int) <s.1)=decide (j=k):=by
      by_cases e:j=k
      ·rw [decide_eq_true e,decide_eq_true ⟨by omega,h.1,h.2⟩]
      ·rw [decide_eq_false e,decide_eq_false (by omega)]
     rw [ed];by_cases e:j / 64=k / 64
     ·rw [if_pos e,Nat.testBit_or,fC,Pc e];unfold Il;rw [e,bR hk,e1];rfl
     ·rw [if_neg e,decide_eq_false (by intro g;subst g;exact e rfl),dV]
    ·unfold mem;rw [decide_eq_false hj,decide_eq_false (by omega)];rfl
 ·rw [decide_eq_false h];refine ⟨s,rfl,H,rfl,fun j=> ?_⟩;rw [decide_eq_false fun g=>h g.2,dV]
theorem Pd (n j:Nat):Il (dM n 0) j=false:=by
 unfold Il;rw [List.getElem?_replicate]
 split<;>simp
def J9 (n:Int):Int:=if n<0 then 0 else if 1000<n then 1000 else n
theorem new_ok (n:Int):∃s,Bm n=some s∧OkS s∧s.1=J9 n∧ ∀j,mem s j=false:=by
 have hc:(if (if (1000:Int) <n then (1000:Int) else n) >(0:Int) then (if (1000:Int) <n then (1000:Int) else n) else (0:Int))=J9 n:=by
  unfold J9
  split<;>split<;>(try split) <;>omega
 have h0:0≤J9 n∧J9 n≤1000:=by
  unfold J9;split
  ·omega
  ·split<;>omega
 unfold Bm;rw [hc];obtain ⟨k,hk⟩:∃k:Nat,J9 n=(k:Int):=⟨(J9 n).toNat,by omega⟩;rw [hk]at h0 ⊢;have e1:bU .i64 ((k:Int)+64)=((k+64:Nat):Int):=by rw [SY (by omega) (by omega)];omega
 have e2:bU .i64 (((k+64:Nat):Int) - 1)=((k+63:Nat):Int):=by rw [SY (by omega) (by omega)];omega
 have e3:bU .i64 (gB ((k+63:Nat):Int) 64)=(((k+63) / 64:Nat):Int):=by
  rw [fJ (by omega),SY (by omega) (by omega)];omega
 rw [e1,e2,e3,Ej (by decide)];have hm:Dw (((k+63) / 64:Nat):Int) (0:Int)=some (dM ((k+63) / 64) 0):=by
  unfold Dw;rw [if_pos ⟨by omega,by omega⟩,cT]
 rw [hm];refine ⟨_,rfl,⟨h0.1,h0.2,?_,?_,?_⟩,rfl,?_⟩
 ·simp
 ·intro x hx
  have:=List.eq_of_mem_replicate hx
  subst this;decide
 ·intro i _;exact Pd _ _
 ·intro j;unfold mem;rw [Pd,gE]
theorem of_ok (n:Int) (l:List Int) (hl:l.length≤9223372036854775807):∃s,Cd n l=some s∧OkS s∧s.1=J9 n∧ ∀j,mem s j=(decide (0≤j∧j<J9 n) && l.contains j):=by
 obtain ⟨s0,h1,h2,h3,h4⟩:=new_ok n;unfold Cd;rw [h1];simp only [cL];obtain ⟨s,e1,e2,e3,e4⟩:=Bw (σ:=AU) (n:=l.length) (fun k s=>OkS s∧s.1=J9 n∧ ∀j,mem s j=(decide (0≤j∧j<J9 n) && (l.take k).contains j)) hl (s:=s0) (f:=fun i_z3 z3=>
  (idx l i_z3).bind fun e25=>
  (Aq z3 e25).bind fun t8=>
  some t8.2) ⟨h2,h3,fun j=>by rw [h4];simp⟩ (fun k s hk ⟨i1,i2,i3⟩=>by
   obtain ⟨s',g1,g2,g3,g4⟩:=add_ok i1 l[k];refine ⟨s',?_,g2,g3.trans i2,fun j=> ?_⟩
   ·rw [FH hk,cL,g1];rfl
   ·rw [g4,i3,i2,fL,bR hk];simp only [Option.toList_some,List.contains_append,gL,List.contains_nil,dV];by_cases hj:j=l[k]
    ·rw [←hj];simp;intro a b _;exact ⟨a,b⟩
    ·have e1:(j==l[k])=false:=by simpa using hj
     have e2:decide (j=l[k] ∧0≤l[k] ∧l[k] <J9 n)=false:=decide_eq_false fun g=>hj g.1;rw [e1,e2,dV,dV])
 rw [fP]at e4;refine ⟨s,?_,e2,e3,e4⟩;rw [e1];rfl
theorem To:∀w:Nat,w≠0→ ∃k m,w=2 ^ k *(2 *m+1):=by
 intro w
 induction w using Nat.strongRecOn with
 |ind w ih=>
  intro hw;by_cases h:w % 2=1
  ·exact ⟨0,w / 2,by rw [Nat.pow_zero,Nat.one_mul];omega⟩
  ·obtain ⟨k,m,e⟩:=ih (w / 2) (by omega) (by omega);refine ⟨k+1,m,?_⟩;rw [gZ,Nat.mul_comm (2 ^ k) 2,Nat.mul_assoc,←e];omega
def FX (w:Nat):List Nat:=(eF 64).filter w.testBit
theorem My:FX 0= []:=by
 unfold FX;rw [eN];intro a _;simp
theorem Ll {w j:Nat}:j∈FX w↔j<64∧w.testBit j=true:=by
 unfold FX;rw [List.mem_filter,List.mem_range]
theorem Re {w:Nat}(hw:w≠0) (hlt:w<18446744073709551616):∃k,k<64∧w.testBit k=true∧(∀j,j<k→w.testBit j=false)∧(∀j,(w &&& (w - 1)).testBit j=(w.testBit j && !decide (j=k)))∧w &&& (18446744073709551616 - w)=2 ^ k:=by
 obtain ⟨k,m,e⟩:=To w hw;have hbit:∀j,w.testBit j=(decide (k≤j) && (2 *m+1).testBit (j - k)):=fun j=>by rw [e,Nat.testBit_two_pow_mul]
 have hk:w.testBit k=true:=by
  rw [hbit,Nat.sub_self,decide_eq_true (dN k),eI,Nat.testBit_zero];simp
 have hk64:k<64:=by
  rcases dI k 64 with h | h
  ·exact h
  ·rw [Pb hlt h]at hk;cases hk
 have hlow:∀j,j<k→w.testBit j=false:=fun j hj=>by rw [hbit,decide_eq_false (by omega),gF]
 have hpow:0<2 ^ k:=Nat.two_pow_pos k;have epred:w - 1=2 ^ (k+1) *m+(2 ^ k - 1):=by
  rw [e,Nat.mul_add,iH,gZ,←Nat.mul_assoc];omega
 have hpred:∀j,(w - 1).testBit j=if j<k then true else if j=k then false else w.testBit j:=fun j=>by
  rw [epred,Nat.testBit_two_pow_mul_add _ (by rw [gZ];omega),Nat.testBit_two_pow_sub_one];by_cases h1:j<k
  ·rw [if_pos (by omega),if_pos h1,decide_eq_true h1]
  ·by_cases h2:j=k
   ·rw [if_pos (by omega),if_neg h1,if_pos h2,decide_eq_false h1]
   ·rw [if_neg (by omega),if_neg h1,if_neg h2,hbit,decide_eq_true (by omega),eI,show j - k=(j - (k+1))+1 by omega,Nat.testBit_succ];rw [show (2 *m+1) / 2=m by omega]
 refine ⟨k,hk64,hk,hlow,fun j=> ?_,?_⟩
 ·rw [Nat.testBit_and,hpred];by_cases h1:j<k
  ·rw [if_pos h1,hlow j h1];rfl
  ·rw [if_neg h1];by_cases h2:j=k
   ·subst h2;simp
   ·rw [if_neg h2,decide_eq_false h2,Bool.and_self,Bool.not_false,gJ]
 ·apply Nat.eq_of_testBit_eq;intro j;rw [Nat.testBit_and,fC];have e2:18446744073709551616 - w=2 ^ 64 - ((w - 1)+1):=by omega
  rw [e2,Nat.testBit_two_pow_sub_succ (by omega),hpred];by_cases hj:j<64
  ·rw [decide_eq_true hj,eI];by_cases h1:j<k
   ·rw [if_pos h1,hlow j h1,decide_eq_false (by omega)];rfl
   ·rw [if_neg h1];by_cases h2:j=k
    ·rw [if_pos h2,h2,hk];simp
    ·rw [if_neg h2,decide_eq_false (fun h=>h2 h.symm)];cases w.testBit j<;>rfl
  ·rw [Pb hlt (by omega),gF];exact (decide_eq_false (by omega)).symm
theorem Ki {w k:Nat}(hk:k<64) (h1:w.testBit k=true) (h2:∀j,j<k→w.testBit j=false) {v:Nat}(hv:∀j,v.testBit j=(w.testBit j && !decide (j=k))):FX w=k::FX v:=by
 unfold FX;have er:eF 64=eF k++k::eY (k+1) (63 - k):=by
  rw [gG,gG];have h:eY 0 64=eY 0 k++eY (0+1 *k) (64 - k):=by
   rw [List.range'_append,show k+(64 - k)=64 by omega]
  rw [h,show 64 - k=(63 - k)+1 by omega,List.range'_succ];simp
 have e1:(eF k).filter w.testBit= []:=by
  rw [eN];intro j hj;rw [h2 j (List.mem_range.1 hj)];exact gM
 have e2:(eF k).filter v.testBit= []:=by
  rw [eN];intro j hj;rw [hv,h2 j (List.mem_range.1 hj)];exact gM
 have e3:(eY (k+1) (63 - k)).filter w.testBit=(eY (k+1) (63 - k)).filter v.testBit:=by
  refine List.filter_congr fun j hj=> ?_;rw [List.mem_range'_1]at hj;rw [hv,decide_eq_false (by omega),Bool.not_false,gJ]
 have e4:v.testBit k=false:=by rw [hv,h1];simp
 rw [er,gN,gN,e1,e2,dJ,dJ,iE,iE,h1,e4,e3];rfl
set_option maxRecDepth 100000
def Glob (φ:AD):Prop:= ∃t f,φ 0=some (.cells (Lib.deBruijn64tab.map fun (z:Nat)=>cQ .u8 (z:Int)).toArray t f)
theorem Glob.mono {φ ψ:AD}(H:Glob φ) (hs:Sub φ ψ):Glob ψ:=by
 obtain ⟨t,f,h⟩:=H;exact ⟨t,f,hs _ _ h⟩
def tzN (w:Nat):Nat:=(FX w).headD 64
def tzD (x:Int):Option Int:=if 0≤x∧x<18446744073709551616 then some (tzN x.toNat:Nat) else none
theorem Tp {w:Nat}(h0:w≠0) (h:w<18446744073709551616):bU .u64 (0 - (w:Int))=((18446744073709551616 - w:Nat):Int):=by
 unfold bU;simp only [bY,fH]
 have:(0 - (w:Int)) % 18446744073709551616=((18446744073709551616 - w:Nat):Int):=by omega
 simp;omega
theorem Tq (n:Nat):bU .u64 (n:Int)=((n % 18446744073709551616:Nat):Int):=by
 unfold bU;simp only [bY,fH];simp
theorem Ts {w k:Nat}(h0:w≠0) (h:w<18446744073709551616) (he:w &&& (18446744073709551616 - w)=2 ^ k):
 gX (bU .u64 ((bU .u64 (eG (cY (bY .u64) (w:Int) &&& (cY (bY .u64) (bU .u64 (0 - (w:Int))))):Nat)) *(285870213051353865:Int))) (2 ^ (min (cD (58:Int)) (bY .u64)))=((2 ^ k *285870213051353865 % 18446744073709551616 / 288230376151711744:Nat):Int):=by
 rw [Tp h0 h,Mx h (by omega),he];have e1:((2 ^ k:Nat):Int) *(285870213051353865:Int)=((2 ^ k *285870213051353865:Nat):Int):=by
  rw [Int.natCast_mul]
  have:((285870213051353865:Nat):Int)=285870213051353865:=rfl
  rw [this]
 rw [e1,Tq];have e2:(2:Int) ^ (min (cD (58:Int)) (bY .u64))=((288230376151711744:Nat):Int):=by decide
 rw [e2,fI _ (by omega)]
 generalize 2 ^ k *285870213051353865 % 18446744073709551616=q
 omega
theorem Tt {l:List Nat}{i k:Nat}(h:i<l.length) (hk:l.getD i 0=k):l[i]? =some k:=by
 rw [List.getD_eq_getElem?_getD,bR h]at hk;rw [bR h];exact congrArg some hk
theorem Qs:Lib.deBruijn64tab.length=64:=by decide
theorem Tu {l:List Nat}{φ:AD}{t:TypeId}{f:Nat×Nat}(hg:φ 0=some (.cells (l.map fun (z:Nat)=>cQ .u8 (z:Int)).toArray t f)) {i k:Nat}(h:l[i]? =some k):DY φ (hO ⟨0,0,none⟩ (cD (i:Int) *1))=some (.int .u8 (k:Int)):=by
 rw [DX,cT,iH,Nat.zero_add];unfold DY;rw [hg];simp [h]
theorem Ws {φ:AD}{h:AH}{F:List Chk}{x:Int}(gk:Glob φ) (s0:St φ F h) {r:Int}(hd:tzD x=some r):CallsH bT 150 [.int .u64 x] h
 (Ar fun v h'=>∃ψ:AD,∃y:Int,Sub φ ψ∧v=((.one aI):Sh).val y∧y=r∧St ψ F h'):=by
 unfold tzD at hd;split at hd
 ·rename_i hx
  cases hd;obtain ⟨w,rfl⟩:∃w:Nat,x=(w:Int):=⟨x.toNat,by omega⟩;rw [cT];refine AO mixed Tryz.func150 ?_;rw [FU];unfold DO;refine Wd (fun hb=> ?_) (fun hb=> ?_)
  ·have hw:w=0:=by
    have:(w:Int)=0:=by simpa using hb
    omega
   subst hw;unfold tzN;rw [My];exact AB ⟨φ,64,bX _,rfl,rfl,s0⟩
  ·have hw:w≠0:=by
    intro e;subst e;cases hb
   obtain ⟨k,k1,k2,k3,k4,k5⟩:=Re hw (by omega);have hk:tzN w=k:=by
    unfold tzN;rw [Ki k1 k2 k3 k4];rfl
   obtain ⟨d1,d2⟩:=Lib.deBruijn64_at k k1;rw [Ts hw (by omega) k5,hk]
   generalize 2 ^ k *285870213051353865 % 18446744073709551616 / 288230376151711744=i at d1 d2
   refine AY (by decide) (AY ⟨by omega,by omega⟩ ?_);obtain ⟨t,f,hg⟩:=gk;have hi:i<Lib.deBruijn64tab.length:=by rw [Qs];exact d1
   have hcell:=Tu hg (Tt hi d2);refine AC (x:=(k:Int)) (AE s0.sub hcell) rfl ?_;rw [SY (by omega) (by omega)];exact AB ⟨φ,(k:Int),bX _,rfl,rfl,s0⟩
 ·cases hd
end Go.Proofs.YteolcjbobmpdiaaGreatDoor.Dg
namespace Go.Eng
open Go Go.RowKit
def Fz (P:Program) (h:AH):Nat→TypeId→List Value→Prop
 | 0,_,_=>False
 |n+1,t,cs=>match P.underlying t with
  |some .bool=>∃b,cs= [.bool b]
  |some (.int k)=>∃x,cs= [.int k x] ∧(Lit.int k x).wf=true
  |some .string=>∃s,cs= [.string s] ∧s.size≤maxLen
  |some (.slice e)=>∃p len cap,cs= [.slice p len cap] ∧len≤cap∧cap≤maxLen∧(p=none→len=0∧cap=0)∧
   ∀i,i<len→ ∃cs',cs'.length=P.cellsOf e∧(∀j v,cs'[j]? =some v→ ∃a,p=some a∧BI h (a.add (i *P.cellsOf e+j))=some v)∧Fz P h n e cs'
  |some (.struct fs)=>cs.length=P.cellsOf t∧ ∀f∈fs.toList,Fz P h n f.type ((cs.drop f.offset).take (P.cellsOf f.type))
  |_=>True
theorem Nn {α β:Type}{f:α→Option β}:∀ {l:List α}{r:List β},l.mapM f=some r→ ∀a∈l,∃b,f a=some b:=by
 intro l
 induction l with
 |nil=>intro r _ a ha;cases ha
 |cons x l ih=>
  intro r h a ha;rw [List.mapM_cons]at h;cases hx:f x with
  |none=>simp [hx]at h
  |some b=>
   cases hl:l.mapM f with
   |none=>simp [hx,hl]at h
   |some bs=>
    rcases List.mem_cons.1 ha with rfl | ha
    ·exact ⟨b,hx⟩
    ·exact ih hl a ha
theorem No {H:Type}{enc:TypeId×Value→H}{P:Program}{w:World}{base:Nat}{spare:Nat→Bool}{held:Bool}:∀(fuel:Nat) (t:TypeId) (cs:List Value) (x:DataW H×List MemPlace),
 DataW.trod enc P w base spare held fuel t cs=some x→Fz P w.heap fuel t cs:=by
 intro fuel
 induction fuel with
 |zero=>intro t cs x h;simp [DataW.trod]at h
 |succ n ih=>
  intro t cs x h;have h0:=h;rw [DataW.trod_step]at h;unfold DataW.trodStep at h;unfold Fz
  split<;>rename_i hd<;>try trivial
  ·rw [hd]at h;split at h<;>first | cases h | skip
   all_goals rename_i h1;first | cases h1 | skip
   all_goals first | exact ⟨_,rfl⟩|skip
  ·rw [hd]at h;split at h<;>first | cases h | skip
   all_goals rename_i h1;first | cases h1 | skip
   split at h
   ·rename_i hk;obtain ⟨rfl,hw⟩:=hk;exact ⟨_,rfl,hw⟩
   ·cases h
  ·rw [hd]at h;split at h<;>first | cases h | skip
   all_goals rename_i h1;first | cases h1 | skip
   split at h
   ·rename_i hs;exact ⟨_,rfl,hs⟩
   ·cases h
  ·rename_i e
   rcases DataW.trod_slice hd h0 with ⟨rfl,_⟩|⟨a,len,cap,elems,rest,m,hm,rfl,_,_,hl,hc,hlen,hel,_⟩
   ·exact ⟨none,0,0,rfl,dN _,iI _,fun _=>⟨rfl,rfl⟩,fun i hi=>by omega⟩
   ·cases hm;refine ⟨some a,len,cap,rfl,hl,hc,(fun h=>by cases h),fun i hi=> ?_⟩;have h2:=hel i hi;rw [bR (by omega),Option.bind_eq_some_iff]at h2;obtain ⟨cs',h3,h4⟩:=h2;obtain ⟨_,h5,h6⟩:=World.cells?_some h3;refine ⟨cs',h5,fun j v hj=>⟨a,rfl,?_⟩,ih _ _ _ h4⟩;have hjl:j<P.cellsOf e:=by
     rcases dI j cs'.length with g | g
     ·omega
     ·rw [cP g]at hj;cases hj
    have:=h6 j hjl
    rw [hj,Ah]at this;exact this
  ·rename_i fs
   rw [hd]at h;dsimp only at h;by_cases hlen:cs.length=P.cellsOf t
   ·rw [if_pos hlen,Option.map_eq_some_iff]at h;obtain ⟨xs,h2,_⟩:=h;refine ⟨hlen,fun f hf=> ?_⟩;obtain ⟨y,hy⟩:=Nn h2 f hf;exact ih _ _ _ hy
   ·rw [if_neg hlen]at h;cases h
theorem reads_of_Trod {H:Type}{enc:TypeId×Value→H}{P:Program}{w:World}{base:Nat}{spare:Nat→Bool}{held:Bool}{t:TypeId}{v:Value}{d:DataW H}{ps:List MemPlace}
 (h:DataW.Trod enc P w base spare held t v d ps):∃n,Fz P w.heap n t v.cells.toList:=by
 obtain ⟨fuel,hf⟩:=h;exact ⟨fuel,No fuel t _ _ hf⟩
def Tv (h:AH) (v:Value) (h':AH):Prop:=v= .bool true∧Ic [] h h'
theorem law_walk {P:Program}{f:FuncId}{args:Array Value}{w:World}(H:CallsH P f args.toList w.heap (Ar (Tv w.heap))):
 Calls P f args w fun e w'=>e= .returned (.bool true)∧Below w.heap.size w w':=by
 have:=H w rfl
 rw [Array.toArray_toList]at this;refine this.mono fun e w' he=> ?_;obtain ⟨hs,he⟩:=he;cases e with
 |returned v=>
  obtain ⟨v',hv,rfl,hk⟩:=he;cases hv;exact ⟨rfl,hs.os,hs.tape,hs.output,hk.1,fun k hk'=>hk.2 k hk' (by simp)⟩
 |panicked c=>obtain ⟨v',hv,_⟩:=he;cases hv
 |outgrown=>exact he.elim
section
variable {P:Program}{h:AH}
theorem Lm {n:Nat}{t:TypeId}{k:IntKind}{cs:List Value}(ht:P.underlying t=some (.int k)) (H:Fz P h n t cs):∃x,cs= [.int k x] ∧(Lit.int k x).wf=true:=by
 cases n with
 |zero=>exact H.elim
 |succ n=>unfold Fz at H;rw [ht]at H;exact H
theorem Pe {n:Nat}{t e:TypeId}{cs:List Value}(ht:P.underlying t=some (.slice e)) (H:Fz P h n t cs):
 ∃m p len cap,cs= [.slice p len cap] ∧len≤cap∧cap≤maxLen∧(p=none→len=0∧cap=0)∧
  ∀i,i<len→ ∃cs',cs'.length=P.cellsOf e∧(∀j v,cs'[j]? =some v→ ∃a,p=some a∧BI h (a.add (i *P.cellsOf e+j))=some v)∧Fz P h m e cs':=by
 cases n with
 |zero=>exact H.elim
 |succ n=>
  unfold Fz at H;rw [ht]at H;obtain ⟨p,len,cap,h1,h2⟩:=H;exact ⟨n,p,len,cap,h1,h2⟩
theorem Pf {α:Type}{p:Nat→α→Prop}:∀(n:Nat),(∀i,i<n→ ∃x,p i x)→ ∃l:List α,l.length=n∧ ∀i x,l[i]? =some x→p i x:=by
 intro n
 induction n with
 |zero=>intro _;exact ⟨[],rfl,fun i x hx=>by simp at hx⟩
 |succ n ih=>
  intro H;obtain ⟨l,hl,hp⟩:=ih fun i hi=>H i (by omega);obtain ⟨x,hx⟩:=H n (by omega);refine ⟨l++ [x],by simp [hl],fun i y hy=> ?_⟩;rcases hQ i l.length with g | g | g
  ·rw [cG g]at hy;exact hp i y hy
  ·subst g;simp at hy;subst hy;rw [hl];exact hx
  ·rw [cP (by simp;omega)]at hy;cases hy
end
end Go.Eng
namespace Go.Eng
open Go
def ReadsTo {α:Type}(P:Program) (h:AH) (t:TypeId) (r:Ro α) (G:α→Prop):Prop:= ∀n cs,Fz P h n t cs→ ∃x,r.is (BR h) cs x∧G x
theorem MK {P:Program}{h:AH}{t:TypeId}{k:IntKind}(ht:P.underlying t=some (.int k)):ReadsTo P h t (bW k) fun x=>(Lit.int k x).wf=true:=fun n cs H=>by
 obtain ⟨x,rfl,hx⟩:=Lm ht H;exact ⟨x,rfl,hx⟩
theorem HM {α:Type}{P:Program}{h:AH}{t e:TypeId}{r:Ro α}{G:α→Prop}(ht:P.underlying t=some (.slice e)) (hc:P.cellsOf e=r.sz) (he:ReadsTo P h e r G):
 ReadsTo P h t (eV r) fun l=>l.length≤maxLen∧ ∀x∈l,G x:=fun n cs H=>by
 obtain ⟨m,p,len,cap,rfl,h1,h2,h3,h4⟩:=Pe ht H;obtain ⟨l,hl,hp⟩:=Pf (p:=fun i (x:List Value×α)=>r.is (BR h) x.1 x.2∧G x.2∧ ∀j v,x.1[j]? =some v→ ∃a,p=some a∧BI h (a.add (i *r.sz+j))=some v) len (fun i hi=>by
  obtain ⟨cs',g1,g2,g3⟩:=h4 i hi;obtain ⟨x,hx,hG⟩:=he m cs' g3;exact ⟨(cs',x),hx,hG,fun j v hv=>by have:=g2 j v hv;rw [hc]at this;exact this⟩)
 have key:∀k,k≤len→ ∃vs,r.All (BR h) vs ((l.take k).map (·.2))∧vs.length=k *r.sz∧CV (BR h) p vs:=fun k=>by
  induction k with
  |zero=>intro _;exact ⟨[],.nil,by simp,fun i v hv=>by simp at hv⟩
  |succ k ih=>
   intro hk;obtain ⟨vs,a1,a2,a3⟩:=ih (by omega);have hkl:k<l.length:=by omega
   obtain ⟨b1,b2,b3⟩:=hp k l[k] (bR hkl);refine ⟨vs++l[k].1,?_,by rw [cS,a2,r.len b1,Nat.add_mul,Nat.one_mul],fun i v hv=> ?_⟩
   ·rw [fL,bR hkl,eK];exact a1.append (.one b1)
   ·rcases dI i vs.length with g | g
    ·rw [cG g]at hv;exact a3 i v hv
    ·rw [cZ g]at hv;obtain ⟨a,ha,hcell⟩:=b3 _ v hv;refine ⟨a,ha,?_⟩;rw [KV,show i=k *r.sz+(i - vs.length) by omega];exact hcell
 obtain ⟨vs,a1,a2,a3⟩:=key len (dN _);rw [fT (by omega)]at a1;refine ⟨l.map (·.2),⟨(p,len,cap),rfl,by simp [hl],h1,h2,fun hp0=> ?_,vs,a1,a3⟩,by simp;omega,fun x hx=> ?_⟩
 ·have:=(h3 hp0).1
  have:l= []:=dH (by omega)
  rw [this];rfl
 ·obtain ⟨y,hy,rfl⟩:=List.mem_map.1 hx;obtain ⟨i,hi⟩:=dO hy;exact (hp i y hi).2.1
theorem St.start (h:AH):St (BR h) [] h:=bX _
theorem Tw {P:Program}{f:FuncId}{args:List Value}{h:AH}
 (H:CallsH P f args h (Ar fun v h'=>∃ψ:AD,∃y:Bool,Sub (BR h) ψ∧v=((.one (.atom .bool)):Sh).val y∧y=true∧St ψ [] h')):CallsH P f args h (Ar (Tv h)):=by
 refine H.mono fun e h' he=> ?_;obtain ⟨v,hv,ψ,y,hs,hv2,hy,s1⟩:=he;subst hy;refine ⟨v,hv,hv2,?_⟩;have hs':=hs.trans s1.sub;refine ⟨?_,fun i hi _=> ?_⟩
 ·rcases dI h'.size h.size with g | g
  ·have h1:BR h h'.size=some h[h'.size]:=bZ g
   have:=Au (hs' _ _ h1)
   omega
  ·exact g
 ·have h1:BR h i=some h[i]:=bZ hi;have h2:h'[i]? =some h[i]:=hs' _ _ h1;rw [h2,bZ hi]
end Go.Eng
namespace Go.Proofs.YteolcjbobmpdiaaGreatDoor.Dg
open Go Go.Eng Go.RowKit Go.Shelf
set_option linter.unusedVariables false
attribute [local go_sem] Oper.semAt_some
def KpL (L:List Nat) (W W':World):Prop:= ∀b∈L,∀o,W.heap[b]? =some o→W'.heap[b]? =some o
theorem KpL.refl (L:List Nat) (W:World):KpL L W W:=fun _ _ _ h=>h
theorem KpL.trans {L:List Nat}{A B C:World}(h:KpL L A B) (k:KpL L B C):KpL L A C:=fun b hb o ho=>k b hb o (h b hb o ho)
theorem KpL.cell {L:List Nat}{b off:Nat}{A B:World}(h:KpL L A B) (hb:b∈L) {v:Value}(hc:A.cell? ⟨b,off,none⟩=some v):B.cell? ⟨b,off,none⟩=some v:=by
 unfold fK at hc ⊢;dsimp only at hc ⊢;cases ho:A.heap[b]? with
 |none=>rw [ho]at hc;cases hc
 |some o=>rw [h b hb o ho];rw [ho]at hc;exact hc
theorem KpL.glob {L:List Nat}{A B:World}(h:KpL L A B) (hb:0∈L) (gk:Glob (BR A.heap)):Glob (BR B.heap):=by
 obtain ⟨t,f,hg⟩:=gk;exact ⟨t,f,h 0 hb _ hg⟩
theorem KpL.grown {L:List Nat}{A B:World}(h:A.grownBy B none):KpL L A B:=fun b _ o ho=>by
 have hlt:b<A.heap.size:=by
  rcases dI b A.heap.size with g | g
  ·exact g
  ·rw [eO g]at ho;cases ho
 obtain ⟨_,_,_,_,hk⟩:=h;rw [hk b hlt (by simp)];exact ho
def DP (ws:List Nat) (k:Nat):List Int:=((eF k).map fun (i:Nat)=>(FX (ws[i]?.getD 0)).map fun (j:Nat)=>((i:Int) *64+(j:Int))).flatten
theorem Mz (ws:List Nat):DP ws 0= []:=rfl
theorem Gd (ws:List Nat) (k:Nat):DP ws (k+1)=DP ws k++(FX (ws[k]?.getD 0)).map fun (j:Nat)=>((k:Int) *64+(j:Int)):=by
 unfold DP;rw [List.range_succ,eK,List.flatten_append];simp
theorem Xb (m:Nat) {W:World}{u:Nat}(gk:Glob (BR W.heap)) (hu:u<18446744073709551616):CallsIn Fence.wide m bT 150 #[.int .u64 (u:Int)] W fun e W'=>e= .returned (.int .i64 ((tzN u:Nat):Int))∧W.grownBy W' none:=by
 refine callsIn_wide.2 ?_;have h:=Ws (x:=(u:Int)) gk (St.start W.heap) (r:=((tzN u:Nat):Int)) (by unfold tzD;rw [if_pos (by omega),cT]) W rfl;refine h.mono fun e W' ⟨hs,he⟩=> ?_;cases e with
 |returned v=>
  obtain ⟨v',hv,ψ,y,h1,h2,h3,h4⟩:=he;cases hv;refine ⟨by rw [h2,h3];rfl,hs.os,hs.tape,hs.output,?_,?_⟩
  ·rcases dI W'.heap.size W.heap.size with g | g
   ·have e1:BR W.heap W'.heap.size=some W.heap[W'.heap.size]:=bZ g
    have:=Au ((h1.trans h4.sub) _ _ e1)
    omega
   ·exact g
  ·intro k hk _;have e1:BR W.heap k=some W.heap[k]:=bZ hk;have e2:W'.heap[k]? =some W.heap[k]:=(h1.trans h4.sub) _ _ e1;rw [e2,bZ hk]
 |panicked c=>obtain ⟨v',hv,_⟩:=he;cases hv
 |outgrown=>exact he.elim
theorem Tx {a b:Nat}(ha:a<18446744073709551616) (hb:b<18446744073709551616):bits BinOp.and IntKind.u64 (a:Int) (b:Int)=((a &&& b:Nat):Int):=Mx ha hb
theorem Tz (ws:List Nat) {k m:Nat}(h:k≤m):∃r,DP ws m=DP ws k++r:=by
 induction h with
 |refl=>exact ⟨[],by simp⟩
 |step _ ih=>
  obtain ⟨r,e⟩:=ih;exact ⟨r++_,by rw [Nat.succ_eq_add_one,Gd,e,bV]⟩
set_option maxRecDepth 100000 in
set_option maxHeartbeats 2000000 in
theorem T0 (n:Nat) (hn:3≤n) (l bx ba off cap:Nat) (ws:List Nat) (hws:∀w∈ws,w<18446744073709551616) (hlen:ws.length≤1000) (J Jx:List Int→World→Prop) (W:World) (gk:Glob (BR W.heap)) (hJ:AbidesFrom W.heap.size J)
 (hY:∀pre x W1,J pre W1→pre.length< (DP ws ws.length).length→YieldAt Fence.wide (n - 1) bT l #[.int .i64 x] W1 fun e W'=>
  (e= .returned (.bool true)∧J (pre++ [x]) W'∧KpL [bx,ba,0] W1 W')∨(e= .returned (.bool false)∧Jx (pre++ [x]) W'))
 (hbx:W.cell? ⟨bx,0,none⟩=some (.slice (some ⟨ba,off,none⟩) ws.length cap)) (hc:∀j,j<ws.length→W.cell? ⟨ba,off+j,none⟩=some (.int .u64 ((ws[j]?.getD 0:Nat):Int))) (h0:J [] W):
 CallsIn Fence.wide n bT 149 #[.func (.yield l) #[] #[],.pointer (some ⟨bx,0,none⟩)] W fun e W'=>(∃v,e= .returned v)∧
  ((∃xs,xs=DP ws ws.length∧J xs W')∨(∃pre,pre<+:DP ws ws.length∧Jx pre W')):=by
 refine callsIn_of_wp fU rfl trivial ?_ rfl;simp only [Tryz.ntmps149,cU,cA,cI,Nat.reduceAdd,Nat.reduceSub,dB,dC,dL,dG,dJ,dK]
 gi_wp2
 gi_loopw [7] (fun i wr=>∃k:Nat,k≤ws.length∧i= .int .i64 k∧J (DP ws k) wr∧KpL [bx,ba,0] W wr)
  (fun i _=>ws.length - (intOf i).toNat)
 case atStart=>exact ⟨0,iI _,rfl,h0,KpL.refl _ _⟩
 case round=>
  obtain ⟨k,hk,rfl,hJs,hnx⟩:=hrel;by_cases hlt:k<ws.length
  ·have hcx:wr.cell? ⟨ba,off+k,none⟩=some (.int .u64 ((ws[k]?.getD 0:Nat):Int)):=hnx.cell (by simp) (hc k hlt);obtain ⟨x0,hx0⟩:∃x0,ws[k]?.getD 0=x0:=⟨_,rfl⟩;have hw0:x0<18446744073709551616:=by
    rw [←hx0,bR hlt];exact hws _ (cK hlt)
   have hsucc:=Gd ws k;rw [hx0]at hcx hsucc;obtain ⟨rest,hrest⟩:=Tz ws (k:=k+1) (m:=ws.length) (by omega)
   gi_wp2
   gi_loopw [4] (fun x wr2=>∃(u:Nat) (p:List Nat),x= .int .u64 (u:Int)∧u<18446744073709551616∧FX x0=p++FX u∧J (DP ws k++p.map fun (j:Nat)=>((k:Int) *64+(j:Int))) wr2∧KpL [bx,ba,0] wr wr2)
    (fun x _=>(intOf x).toNat)
   case atStart=>exact ⟨_,[],rfl,hw0,rfl,by simpa using hJs,KpL.refl _ _⟩
   case round=>
    obtain ⟨u,p,rfl,hu,hp,hJ2,hn2⟩:=hrel;by_cases hu0:u=0
    ·subst hu0
     gi_wp2
     exact ⟨⟨k+1,by omega,rfl,by rw [hsucc,hp,My,List.append_nil];exact hJ2,hnx.trans hn2⟩,by simp only [intOf];omega⟩
    ·obtain ⟨z,z1,z2,z3,z4,z5⟩:=Re hu0 hu;have hz:tzN u=z:=by
      unfold tzN;rw [Ki z1 z2 z3 z4];rfl
     have hst:=Ki z1 z2 z3 z4;have hgk:=(hnx.trans hn2).glob (by simp) gk
     gi_wp2
     refine ⟨trivial,fun _=>by omega,(Xb _ hgk hu).mono ?_⟩;rintro e W1 ⟨rfl,hg⟩;have hJ3:=hJ _ _ W1 none hJ2 hg (fun r e=>by cases e);rw [hz];have hlen3:(DP ws k++p.map fun (j:Nat)=>((k:Int) *64+(j:Int))).length< (DP ws ws.length).length:=by
      rw [hrest,hsucc,hp,hst];simp only [cS,dZ,cA];omega
     obtain ⟨fn,tmps,assign,body,hy,hR⟩:=hY _ ((k:Int) *64+(z:Int)) W1 hJ3 hlen3
     gi_wp2
     refine ⟨fun _=>by omega,hR.mono ?_⟩;rintro e W3 (⟨rfl,hJ4,hk4⟩|⟨rfl,hx4⟩)
     ·gi_wp2
      have hu1:(u:Int) - 1=((u - 1:Nat):Int):=by omega
      have hle:u &&& (u - 1) ≤u - 1:=Nat.and_le_right;have hJ5:J (DP ws k++(p++ [z]).map fun (j:Nat)=>((k:Int) *64+(j:Int))) W3:=by
       rw [eK,←bV];exact hJ4
      rw [hu1,Tx hu (by omega)];exact ⟨⟨_,p++ [z],rfl,by omega,by rw [hp,hst,bV];rfl,hJ5,(hn2.trans (KpL.grown hg)).trans hk4⟩,by simp only [intOf];omega⟩
     ·gi_wp2
      refine bodyPost_ret (results_none rfl _ _ _) rfl ?_;refine ⟨⟨_,rfl⟩,.inr ⟨_,?_,hx4⟩⟩;rw [hrest,hsucc,hp,hst,eK,List.map_cons];exact ⟨((FX (u &&& (u - 1))).map fun (j:Nat)=>((k:Int) *64+(j:Int))) ++rest,by simp⟩
  ·obtain rfl:k=ws.length:=by omega
   gi_wp2
   go_end0
   exact ⟨⟨_,rfl⟩,.inl ⟨_,rfl,hJs⟩⟩
attribute [local go_sem] Oper.semAt_some
theorem KpL.of_below {L:List Nat}{n₀:Nat}(hL:∀b∈L,b<n₀) {A B:World}(h:Below n₀ A B):KpL L A B:=fun b hb o ho=>(h.block b (hL b hb)).trans ho
theorem KpL.putObj {L:List Nat}{n₀:Nat}(hL:∀b∈L,b<n₀) (W:World) (l:Nat) (o o':Obj) (hl:n₀≤l) (h:W.heap[l]? =some o) (h1:o.isCells=false) (h2:o.isWalk=false):KpL L W (W.putObj l o'):=fun b hb q hq=>by
 have:=hL b hb
 rw [World.putObj_heap_other (by omega)];exact hq
theorem VS:(Tryz.prog.info? 3).map (fun i=>(i.zero,i.size,i.bytes))=some (some (.int .i64 0),1,8):=by kernel_rfl
abbrev VT (x:Int):Array Value:=#[.int .i64 x]
set_option maxRecDepth 100000 in
set_option maxHeartbeats 2000000 in
theorem Oo (n:Nat) (hn:3≤n) (g:Nat) (lb:Array Value) (eg:∀args w,(callFunc g args).run bT w= .ok (.enter g args) w) (L:List Nat) (xs:List Int) (Sp:List Int→Prop) (hlen:xs.length≤1000000) (w:World) (hL:∀b∈L,b<w.heap.size)
 (hseq:SeqStopsK Fence.wide (n - 1) bT g lb VT (KpL L) (fun ys=>ys=xs) Sp xs.length w):
 CallsIn Fence.wide n bT 147 #[.slice none 0 0,.func (.func g) #[] lb] w fun e W'=>∃v,e= .returned v∧W'.ownsRow w.heap.size 3 1 v xs.length (xs.map (cQ .i64))∧(v= .slice none 0 0↔xs= [])∧Below w.heap.size w W':=by
 have h1:1≤n:=by omega
 obtain ⟨i0,hi,hz0,hz1,hz2⟩:=info_parts VS;refine callsIn_of_wp_marks Tryz.func147 rfl trivial ?_ rfl;simp only [Tryz.ntmps147,cU,cA,cI,Nat.reduceAdd,Nat.reduceSub,dB,dC,dL,dG,dJ,dK]
 gi_wp2
 have bO:=Boxed.new w 30 (.slice none 0 0);have hB0:Below w.heap.size w (w.alloc (.cells #[.slice none 0 0] 30)):=(Below.refl _ w).alloc (dN _) _;refine wpIn_rangeFunc_ownG rfl h1 (gf:=g) (lb:=lb) rfl trivial eg hseq (fun h k=>h.trans k) (KpL.putObj (fun b hb=>by have:=hL b hb;simp;omega)) hB0 (fun _=>rfl)
  (fun pre W=>(∃v,Boxed W w.heap.size 30 v∧W.ownsRow w.heap.size 3 1 v pre.length (pre.map (cQ .i64))∧(v= .slice none 0 0↔pre= []))∧Below w.heap.size w W)
  (fun _ _ _=>False)
  (OwnFrom.and (Own.from (holdsRow_own w.heap.size w.heap.size 30 3 1 (fun pre=>pre.length) (fun pre=>pre.map (cQ .i64)) (fun pre v=>v= .slice none 0 0↔pre= [])) _) (ownFrom_below (dN _) (by simp)))
  (fun _ _ _ _ _ hs _ _=>hs)
  ⟨⟨_,bO,World.ownsRow_nil _ _ _ _,by simp⟩,hB0⟩
  (fun x=>{tmps:=#[.slice none 0 0,.func (.func g) #[] lb,.pointer (some ⟨w.heap.size,0,none⟩),undef,.slice none 0 0,.int .i64 x,.func (.func g) #[] lb,.int .i64 x,undef,undef,undef,undef,undef],defers:=[]}) ?assign ?body ?done ?stop
 case assign=>
  intro l x W K hK
  gi_wp2
  exact hK
 case body=>
  rintro l pre x W ⟨⟨v,hv,hrow,hnil⟩,hB⟩ hlt;have hc:=hv.cell
  gi_wp2_with (gi_at_builtin;refine wpListIn_append_own _ rfl _ _ 30 rfl w.heap.size 3 i0 (.int .i64 0) 1 8 eB hi hz0 hz1 hz2 rfl (by decide) _ _ _ rfl (hrow.alloc _) ⟨W.heap.size,0,none⟩ 1 1 [.int .i64 x] rfl rfl (cell_one_new _ _ _) (by simp [Value.oneCell']) (by unfold maxLen;omega) (by omega) (by have:=hB.size;simp;omega) ?_;intro v' w1 hown' hgrow _;obtain ⟨g',cap',rfl⟩:=ownsRow_succ hown';obtain ⟨hv1,hv2,hr2,hk2,hb2⟩:=hv.appended (by decide) hrow hB.size (dN _) hown' hgrow;have hc1:=hv1.cell;have hf1:=hv1.frozen)
  exact ⟨hk2.from _,KpL.of_below hL hb2,⟨_,hv2,by simpa using hr2,by simp⟩,hB.trans hb2⟩
 case done=>
  rintro D ys W hD rfl ⟨⟨v,hv,hrow,hnil⟩,hB⟩ hK;have hc:=hv.cell
  gi_wp2
  refine ⟨by simp,.inl ⟨_,_,rfl,run_takeDeferred hK,?_⟩⟩;exact ⟨_,results_tmp rfl _ _ _,v,rfl,ownsRow_putObj hrow _ hK rfl,hnil,hB.trans (belowK_b (w:=w) (dN _) W D _ _ (by simp at hD;omega) hK rfl rfl)⟩
 case stop=>
  rintro D c pre W _ _ h _;exact h.elim
set_option maxHeartbeats 2000000 in
theorem Qt (n:Nat) (hn:4≤n) (g:Nat) (lb:Array Value) (eg:∀args w,(callFunc g args).run bT w= .ok (.enter g args) w) (L:List Nat) (xs:List Int) (Sp:List Int→Prop) (hlen:xs.length≤1000000) (w:World) (hL:∀b∈L,b<w.heap.size)
 (hseq:SeqStopsK Fence.wide (n - 1 - 1) bT g lb VT (KpL L) (fun ys=>ys=xs) Sp xs.length w):
 CallsIn Fence.wide n bT 113 #[.func (.func g) #[] lb] w fun e W'=>∃v,e= .returned v∧W'.ownsRow w.heap.size 3 1 v xs.length (xs.map (cQ .i64))∧(v= .slice none 0 0↔xs= [])∧Below w.heap.size w W':=by
 refine callsIn_of_wp Tryz.func113 rfl trivial ?_ rfl;simp only [Tryz.ntmps113,cU,cA,cI,Nat.reduceAdd,Nat.reduceSub,dB,dC,dL,dG,dJ,dK]
 gi_wp2
 refine ⟨trivial,fun _=>by omega,(Oo (n - 1) (by omega) g lb eg L xs Sp hlen w hL hseq).mono ?_⟩;rintro e W' ⟨v,rfl,h1,h2,h3⟩
 gi_wp2
 go_ret
 exact ⟨v,rfl,h1,h2,h3⟩
attribute [local go_sem] Oper.semAt_some
set_option maxRecDepth 100000
section
variable {φ:AD}{h:AH}{F:List Chk}
theorem St.ofOwns {α:Type}{φ:AD}{Γ:List Chk}{w W':World}{e:TypeId}{r:Ro α}{v:Value}{l:List α}{vs:List Value}(H:St φ Γ w.heap) (hB:Below w.heap.size w W') (ho:W'.ownsRow w.heap.size e 1 v l.length vs) (ha:r.All φ vs l) (hsz:r.sz=1):
 ∃t:Slc,v= .slice t.1 t.2.1 t.2.2∧St φ (⟨cH e r,[.slice t.1 t.2.1 t.2.2],l⟩::Γ) W'.heap:=by
 have hs:=H.sub;have hs':Sub φ (BR W'.heap):=fun k o hk=>by
  have h1:=hs k o hk
  have:=Au h1
  show W'.heap[k]? =some o;rw [hB.block k this];exact h1
 have H1:StX φ w.heap Γ fun k=>w.heap.size≤k:=StX.more H fun k hk=>.inl hk;have H2:StX φ W'.heap Γ fun k=>w.heap.size≤k:=StX.heap H1 (fun k hk _=>hB.block k hk) hs';obtain ⟨hl,⟨rfl,hn⟩|⟨g,cap,cur,rfl,hg,hcur,hc1,hc2,hc3,hc4⟩⟩:=ho
 ·have:l= []:=dH hn
  subst this;exact ⟨(none,0,0),rfl,iU _ _ (H2.less fun k hk=>hk.elim)⟩
 ·refine ⟨(some ⟨g,0,none⟩,l.length,cap),rfl,fun k=>k=g,⟨some ⟨g,0,none⟩,l.length,cap,vs,rfl,rfl,hc2,?_,.inr ⟨g,0,cur,rfl,hcur,?_,hc1,?_,fun i u hu=> ?_⟩,ha,fun i=>by simp [blk]⟩,fun k hk=>⟨?_,fun q=>q⟩,H2.less fun k hk=> ?_⟩
  ·intro b off s q;cases q;exact ⟨rfl,fun arr ty f harr=>by rw [hcur]at harr;cases harr;rw [hsz];exact hc3⟩
  ·rw [hsz];omega
  ·rw [hsz];omega
  ·rw [←hc4,dX]at hu;split at hu
   ·rw [Nat.zero_add];simpa using hu
   ·cases hu
  ·subst hk;cases hφ:φ k with
   |none=>rfl
   |some o=>have:=Au (hs k o hφ);omega
  ·rcases hk with hk | hk
   ·exact hk.elim
   ·subst hk;exact hg
set_option maxHeartbeats 1000000 in
theorem Oq (n:Nat) (l bx:Nat) (p:Option Addr) (cap:Nat) (J:List Int→World→Prop) (W:World) (hbx:W.cell? ⟨bx,0,none⟩=some (.slice p 0 cap)) (h0:J [] W):
 CallsIn Fence.wide n bT 149 #[.func (.yield l) #[] #[],.pointer (some ⟨bx,0,none⟩)] W fun e W'=>(∃v,e= .returned v)∧J [] W':=by
 refine callsIn_of_wp fU rfl trivial ?_ rfl;simp only [Tryz.ntmps149,cU,cA,cI,Nat.reduceAdd,Nat.reduceSub,dB,dC,dL,dG,dJ,dK]
 gi_wp2
 gi_loopw [7] (fun i wr=>i= .int .i64 0∧J [] wr) (fun _ _=>0)
 case atStart=>exact ⟨rfl,h0⟩
 case round=>
  obtain ⟨rfl,hJs⟩:=hrel
  gi_wp2
  go_end0
  exact ⟨⟨_,rfl⟩,hJs⟩
theorem M0 (n:Nat) (hn:3≤n) {w:World}{bx:Nat}{t:Slc}{l:List Int}(gk:Glob (BR w.heap)) (hws:∀x∈l,0≤x∧x<18446744073709551616) (hlen:l.length≤1000)
 (hbx:w.cell? ⟨bx,0,none⟩=some (.slice t.1 t.2.1 t.2.2)) (hl:l.length=t.2.1) (hc:CH w.heap t.1 (l.map (eD .u64).val)) (hpl:∀a,t.1=some a→a.spot=none) (hlt:bx<w.heap.size) (hg0:0<w.heap.size):
 ∃L:List Nat,(∀b∈L,b<w.heap.size∧(b=bx∨b=0∨ ∃a,t.1=some a∧b=a.block))∧SeqStopsK Fence.wide n bT 149 #[.pointer (some ⟨bx,0,none⟩)] VT (KpL L) (fun ys=>ys=DP (l.map cD) l.length) (fun pre=>pre<+:DP (l.map cD) l.length) (DP (l.map cD) l.length).length w:=by
 cases l with
 |nil=>
  refine ⟨[],(fun b hb=>by cases hb),fun q J Jx W hW hJ hJx hY h0=> ?_⟩;have h1:=(hW.cell (p:=⟨bx,0,none⟩) hlt).trans hbx;have hz:t.2.1=0:=hl.symm;rw [hz]at h1;exact (Oq n q bx t.1 t.2.2 J W h1 h0).mono fun e W' ⟨he,hj⟩=>⟨he,.inl ⟨[],rfl,hj⟩⟩
 |cons x l=>
  obtain ⟨⟨ba,off,sp⟩,ha,_⟩:=hc 0 ((eD .u64).val x) rfl
  have:sp=none:=hpl _ ha
  subst this;have hcell:∀j v,(((x::l).map (eD .u64).val))[j]? =some v→w.cell? ⟨ba,off+j,none⟩=some v:=fun j v hv=>by
   obtain ⟨a',ha',hc'⟩:=hc j v hv;rw [ha]at ha';cases ha';rw [DX]at hc';exact hc'
  have hba:ba<w.heap.size:=by
   have:=hcell 0 _ rfl
   unfold fK at this;dsimp only at this;cases ho:w.heap[ba]? with
   |none=>rw [ho]at this;cases this
   |some o=>exact Au ho
  refine ⟨[bx,ba,0],fun b hb=> ?_,fun q J Jx W hW hJ hJx hY h0=> ?_⟩
  ·simp only [List.mem_cons,iF,or_false]at hb;rcases hb with rfl | rfl | rfl
   ·exact ⟨hlt,.inl rfl⟩
   ·exact ⟨hba,.inr (.inr ⟨_,ha,rfl⟩)⟩
   ·exact ⟨hg0,.inr (.inl rfl)⟩
  ·have h1:=(hW.cell (p:=⟨bx,0,none⟩) hlt).trans hbx;have hn':((x::l).map cD).length=t.2.1:=by rw [dZ];exact hl
   have hl1:((x::l).map cD).length=(x::l).length:=dZ _;have h2:=T0 n hn q bx ba off t.2.2 ((x::l).map cD) (fun u hu=>by
    obtain ⟨y,hy,rfl⟩:=List.mem_map.1 hu
    have:=hws y hy
    omega) (by rw [hl1];exact hlen) J Jx W (KpL.glob (L:=[0]) (KpL.of_below (fun b hb=>by simp at hb;omega) hW) (by simp) gk) hJ (by rw [hl1];exact hY) (by rw [hn',←ha];exact h1) (fun j hj=>by
    rw [hl1]at hj;have hv:((x::l).map (eD .u64).val)[j]? =some (.int .u64 (x::l)[j]):=by
     rw [fM,bR hj];rfl
    have h3:=(hW.cell (p:=⟨ba,off+j,none⟩) hba).trans (hcell j _ hv);have h4:=hws _ (cK hj);have h5:((((x::l).map cD)[j]?.getD 0:Nat):Int)=(x::l)[j]:=by
     rw [fM,bR hj];show (((x::l)[j].toNat:Nat):Int)=_;omega
    rw [h5];exact h3) h0
   rw [hl1]at h2;exact h2
def IZ (s:AU):Option (List Int):=if s.2.length≤1000∧ ∀x∈s.2,0≤x∧x<18446744073709551616 then some (DP (s.2.map cD) s.2.length) else none
theorem SZ (w:Nat):(FX w).length≤64:=by
 unfold FX
 have:=eR w.testBit (eF 64)
 simpa using this
theorem N7 (ws:List Nat) (k:Nat):(DP ws k).length≤64 *k:=by
 induction k with
 |zero=>exact dN _
 |succ k ih=>
  rw [Gd,cS,dZ]
  have:=SZ (ws[k]?.getD 0)
  omega
abbrev BM (p:Option Addr) (x:AU):Chk:=⟨Rep.obj 239 (Rep.prod (dP (bW .i64)) (cH 237 (bW .u64))),[.pointer p],x⟩
theorem Pg {p:Option Addr}{s:AU}(s0:St φ (BM p s::F) h) (hb:s.2.length≤1073741824):CallsH bT 114 [.pointer p] h
 (Ar fun v h'=>∃ψ:AD,∃r:Nat,∃y:Slc,Sub φ ψ∧v= .func (.func 149) #[] #[.pointer (some ⟨r,0,none⟩)] ∧St ψ (⟨cN 235,[.pointer (some ⟨r,0,none⟩)],[.slice y.1 y.2.1 y.2.2]⟩::⟨cH 237 (bW .u64),[.slice y.1 y.2.1 y.2.2],s.2⟩::BM p s::F) h'):=by
 refine AO mixed Tryz.func114 ?_;rw [J2];unfold Gz;obtain ⟨b2,vs3,e4,hl5,s6⟩:=s0.open;obtain rfl:p=some ⟨b2,0,none⟩:=by simpa using e4
 clear e4;have s7:=s6.at1;obtain ⟨v8,w9,rfl,hl11,s10⟩:=s7.pair;obtain ⟨g12,s13⟩:=s10.ro;subst g12;obtain ⟨t15,e16⟩:=s13.rowCs;subst e16;have s18:St φ (⟨cH 237 (bW .u64),[.slice t15.1 t15.2.1 t15.2.2],s.2⟩::⟨cN 239,[.pointer (some ⟨b2,0,none⟩)],[.int .i64 s.1,.slice t15.1 t15.2.1 t15.2.2]⟩::F) _:=s13;refine AF _ rfl<|AA (b:=b2) (j:=1) (x:=t15) s18.at1 rfl<|AI (clone53_own s18 (r:=s.2) (by unfold cloneD;rw [if_pos hb])) ?_;rintro _ h1 ⟨ψ,y,l1,le1,rfl,rfl,s23⟩;refine ⟨y,rfl,?_⟩;refine AV (vs:=[.slice none 0 0]) s23 ?_;intro r h2 s27;refine CS (b:=r) (j:=0) (v:=.slice y.1 y.2.1 y.2.2) s27 rfl (by decide) ?_;intro h3 s28;have s34:=s28.at 2;have s36:=St.unro (r:=(bW .i64)) (cs:=[.int .i64 s.1]) (x:=s.1) s34 rfl;have s37:=St.unpair s36;have s38:St ψ (BM (some ⟨b2,0,none⟩) (s.1,s.2)::⟨cN 235,[.pointer (some ⟨r,0,none⟩)],[.slice y.1 y.2.1 y.2.2]⟩::⟨cH 237 (bW .u64),[.slice y.1 y.2.1 y.2.2],s.2⟩::F) h3:=St.shut (s37.at 3);exact AB ⟨ψ,r,y,le1,rfl,(s38.at 2).at 2⟩
theorem Ph {k:IntKind}{ty:TypeId}{t:Slc}{l:List Int}(s:St φ (⟨cH ty (bW k),[.slice t.1 t.2.1 t.2.2],l⟩::F) h):∀a,t.1=some a→a.spot=none:=by
 intro a ha;obtain ⟨F,⟨p,n,c,vs,e,hn,hc,hfu,ho,hall,hF⟩,h2,H⟩:=s;simp only [List.cons.injEq,Value.slice.injEq,and_true]at e;rw [ha]at e;rcases ho with ⟨hp,_⟩|⟨b,off,arr,hp,_⟩
 ·rw [hp]at e;cases e.1
 ·rw [hp]at e;cases e.1;rfl
theorem T1 {p:Option Addr}{s:AU}(gk:Glob φ) (s0:St φ (BM p s::F) h) {r:List Int}(hd:IZ s=some r):CallsH bT 70 [.pointer p] h
 (Ar fun v h'=>∃ψ:AD,∃y:Slc,∃l1:List Int,Sub φ ψ∧v=((.one aS):Sh).val y∧l1=r∧St ψ (⟨cH 3 (bW .i64),[.slice y.1 y.2.1 y.2.2],l1⟩::BM p s::F) h'):=by
 unfold IZ at hd;split at hd
 ·rename_i hg
  cases hd;obtain ⟨hlen,hws⟩:=hg;refine AO mixed Tryz.func70 ?_;rw [J1];unfold Gy;refine AI (Pg s0 (by omega)) ?_;rintro _ h1 ⟨ψ,bx,y,le1,rfl,s1⟩;refine ⟨some (.func 149,#[],#[.pointer (some ⟨bx,0,none⟩)]),rfl,?_⟩;have gk1:=(gk.mono le1).mono s1.sub;have hbox:BI h1 ⟨bx,0,none⟩=some (.slice y.1 y.2.1 y.2.2):=s1.cell rfl;have hlt:bx<h1.size:=by
   unfold BI D3 fK at hbox;dsimp only at hbox;cases ho:h1[bx]? with
   |none=>rw [ho]at hbox;cases hbox
   |some o=>exact Au ho
  have hg0:0<h1.size:=by
   obtain ⟨t,f,hg⟩:=gk1;exact Au hg
  have hcol:CallsH bT 113 [.func (.func 149) #[] #[.pointer (some ⟨bx,0,none⟩)]] h1 (Ar fun v h'=>∃t:Slc,v=((.one aS):Sh).val t∧
   St ψ (⟨cH 3 (bW .i64),[.slice t.1 t.2.1 t.2.2],DP (s.2.map cD) s.2.length⟩::⟨cN 235,[.pointer (some ⟨bx,0,none⟩)],[.slice y.1 y.2.1 y.2.2]⟩::⟨cH 237 (bW .u64),[.slice y.1 y.2.1 y.2.2],s.2⟩::BM p s::F) h'):=by
   intro w hw;subst hw;obtain ⟨L,hL,hseq⟩:=M0 8 (by decide) gk1 hws hlen hbox (s1.at 1).rowLen.symm (Li (s1.at 1)) (Ph (s1.at 1)) hlt hg0;have hbl:=N7 (s.2.map cD) s.2.length;have hc:=callsIn_wide.1 (Qt 10 (by decide) 149 #[.pointer (some ⟨bx,0,none⟩)] (enters_of fU (by kernel_rfl) rfl) L (DP (s.2.map cD) s.2.length) _ (by omega) w (fun b hb=>(hL b hb).1) hseq);refine hc.mono ?_;rintro e W' ⟨v,rfl,hown,_,hB⟩;obtain ⟨t,hv,s2⟩:=St.ofOwns s1 hB hown (Em (k:=.i64) _) rfl;exact ⟨⟨hB.os,hB.tape,hB.output,hB.size⟩,v,rfl,t,hv,s2⟩
  refine AI hcol ?_;rintro _ h2 ⟨t,rfl,s2⟩;refine ⟨t,rfl,?_⟩;have s3:=(s2.at 1).tail;have s4:=(s3.at 1).tail;exact AB ⟨ψ,t,_,le1,rfl,rfl,s4⟩
 ·cases hd
end
end Go.Proofs.YteolcjbobmpdiaaGreatDoor.Dg
namespace Go.Proofs.YteolcjbobmpdiaaGreatDoor.Dg
open Go Go.Eng
set_option linter.unusedVariables false
def Os (c:Chk):Prop:=(∀φ φ' h F,c.on φ h F→c.on φ' h F)∧ ∀φ h F,c.on φ h F→ ∀k,F k→ ∃cs ty f,h[k]? =some (.cells cs ty f)
theorem Pi (ty:TypeId) (b:Nat) (vs:List Value):Os ⟨cN ty,[.pointer (some ⟨b,0,none⟩)],vs⟩:=by
 refine ⟨fun φ φ' h F H=>H,fun φ h F H k hk=> ?_⟩;obtain ⟨b',e,hb,hF⟩:=H;have hkb:=(hF k).1 hk;subst hkb;exact ⟨_,_,_,hb⟩
theorem VU {k:IntKind}{φ φ':AD}{vs:List Value}{l:List Int}(h:(bW k).All φ vs l):(bW k).All φ' vs l:=by
 rw [C5 h];exact Em l
theorem Sa (p:Option Addr) (s:AU):Os (BM p s):=by
 constructor
 ·rintro φ φ' h F ⟨b,vs,G,e,hb,⟨a,c,A,B,e2,ha,hc,g1,g2⟩,hG,hF⟩;refine ⟨b,vs,G,e,hb,⟨a,c,A,B,e2,ha,?_,g1,g2⟩,hG,hF⟩;obtain ⟨q,n,cp,us,e3,h1,h2,h3,h4,h5,h6⟩:=hc;exact ⟨q,n,cp,us,e3,h1,h2,h3,h4,VU h5,h6⟩
 ·rintro φ h F ⟨b,vs,G,e,hb,⟨a,c,A,B,e2,ha,hc,g1,g2⟩,hG,hF⟩ k hk;rcases (hF k).1 hk with rfl | hk
  ·exact ⟨_,_,_,hb⟩
  ·rcases (g2 k).1 hk with hk | hk
   ·exact absurd hk (ha.1 k)
   ·obtain ⟨q,n,cp,us,e3,h1,h2,h3,h4,h5,h6⟩:=hc;obtain ⟨arr,harr⟩:=h4.ty k ((h6 k).1 hk);exact ⟨_,_,_,harr⟩
theorem StX.frame {ψ:AD}{h:AH}:∀ {Γ Δ:List Chk}{X:Ev},StX ψ h (Γ++Δ) X→ ∃Y:Ev,(∀k,Y k→ψ k=none∧ ¬X k∧k<h.size)∧StX ψ h Δ (fun k=>X k∨Y k)∧
 ∀Δ' (h':AH),Sub ψ (BR h')→(∀k,Y k→h'[k]? =h[k]?)→StX ψ h' Δ' (fun k=>X k∨Y k)→StX ψ h' (Γ++Δ') X:=by
 intro Γ
 induction Γ with
 |nil=>intro Δ X H;exact ⟨fun _=>False,fun k hk=>hk.elim,H.less fun k hk=>hk.elim id False.elim,fun Δ' h' _ _ H'=>H'.less fun k hk=>.inl hk⟩
 |cons c Γ ih=>
  intro Δ X ⟨F,h1,h2,H⟩;obtain ⟨Y,y1,y2,y3⟩:=ih H;refine ⟨fun k=>F k∨Y k,fun k hk=> ?_,y2.less fun k hk=> ?_,fun Δ' h' hs hy H'=>⟨F,c.R.loc (fun i hi=>hy i (.inl hi)) h1,h2,y3 Δ' h' hs (fun k hk=>hy k (.inr hk)) (H'.less fun k hk=> ?_)⟩⟩
  ·rcases hk with hk | hk
   ·exact ⟨(h2 k hk).1,(h2 k hk).2,c.R.lt h1 k hk⟩
   ·exact ⟨(y1 k hk).1,fun g=>(y1 k hk).2.1 (.inl g),(y1 k hk).2.2⟩
  ·rcases hk with hk | hk | hk
   ·exact .inl (.inl hk)
   ·exact .inl (.inr hk)
   ·exact .inr hk
  ·rcases hk with (hk | hk)|hk
   ·exact .inl hk
   ·exact .inr (.inl hk)
   ·exact .inr (.inr hk)
theorem StX.alone {ψ:AD}{h:AH}:∀ {Δ:List Chk}{X:Ev},(∀c∈Δ,Os c)→StX ψ h Δ X→ ∃Z:Ev,(∀k,Z k→ψ k=none∧ ¬X k)∧(∀k,Z k→ ∃cs ty f,h[k]? =some (.cells cs ty f))∧ ∀(φ0:AD) (X0:Ev),(∀k,Z k→φ0 k=none∧ ¬X0 k)→Sub φ0 (BR h)→StX φ0 h Δ X0:=by
 intro Δ
 induction Δ with
 |nil=>intro X _ H;exact ⟨fun _=>False,fun k hk=>hk.elim,fun k hk=>hk.elim,fun φ0 X0 _ hs=>hs⟩
 |cons c Δ ih=>
  intro X hf ⟨F,h1,h2,H⟩;obtain ⟨Z,z1,z3,z2⟩:=ih (fun c hc=>hf c (by simp [hc])) H;refine ⟨fun k=>F k∨Z k,fun k hk=> ?_,fun k hk=>hk.elim (fun g=>(hf c (by simp)).2 _ _ _ h1 k g) (z3 k),fun φ0 X0 hz hs=>⟨F,(hf c (by simp)).1 _ _ _ _ h1,fun k hk=>hz k (.inl hk),z2 φ0 _ (fun k hk=>⟨(hz k (.inr hk)).1,fun g=> ?_⟩) hs⟩⟩
  ·rcases hk with hk | hk
   ·exact h2 k hk
   ·exact ⟨(z1 k hk).1,fun g=>(z1 k hk).2 (.inl g)⟩
  ·rcases g with g | g
   ·exact (hz k (.inr hk)).2 g
   ·exact (z1 k hk).2 (.inr g)
theorem St.apart {ψ:AD}{h:AH}{Γ Δ:List Chk}(H:St ψ (Γ++Δ) h) (hf:∀c∈Δ,Os c):∃φ0:AD,(∀k,φ0 k≠none→k<h.size)∧St φ0 Δ h∧Sub ψ φ0∧(∀k o,h[k]? =some o→φ0 k=some o∨ ∃cs ty f,o= .cells cs ty f)∧
 ∀Δ' (h':AH),(∀c∈Δ',Os c)→St φ0 Δ' h'→St ψ (Γ++Δ') h':=by
 classical
 have hs:Sub ψ (BR h):=H.sub;obtain ⟨Y,y1,y2,y3⟩:=StX.frame H;obtain ⟨Z,z1,z3,z2⟩:=StX.alone hf y2;have hdef:∀k,¬Z k→(fun k=>if Z k then none else h[k]? :AD) k=h[k]? :=fun k hk=>if_neg hk;refine ⟨fun k=>if Z k then none else h[k]?,fun k hk=> ?_,z2 _ _ (fun k hk=>⟨if_pos hk,fun g=>g⟩) (fun k o ho=> ?_),fun k o ho=> ?_,fun k o ho=> ?_,fun Δ' h' hf' H'=> ?_⟩
 ·rcases dI k h.size with g | g
  ·exact g
  ·exfalso;apply hk
   show (if Z k then none else h[k]?)=none;split
   ·rfl
   ·exact eO g
 ·have ho:(if Z k then none else h[k]?)=some o:=ho;split at ho
  ·cases ho
  ·exact ho
 ·show (if Z k then none else h[k]?)=some o;rw [if_neg]
  ·exact hs k o ho
  ·intro hz;rw [(z1 k hz).1]at ho;cases ho
 ·by_cases hz:Z k
  ·obtain ⟨cs,ty,f,e⟩:=z3 k hz;rw [ho]at e;exact .inr ⟨cs,ty,f,Option.some.inj e⟩
  ·exact .inl (by show (if Z k then none else h[k]?)=some o;rw [if_neg hz];exact ho)
 ·obtain ⟨Z',w1,_,w2⟩:=StX.alone hf' H';have hs':=H'.sub;have hno:∀k,Z' k→ψ k=none∧ ¬Y k:=fun k hk=>by
   have h0:(if Z k then none else h[k]?)=none:=(w1 k hk).1;split at h0
   ·rename_i hz
    exact ⟨(z1 k hz).1,fun g=>(z1 k hz).2 (.inr g)⟩
   ·constructor
    ·cases hψ:ψ k with
     |none=>rfl
     |some o=>have:=hs k o hψ;rw [show BR h k=h[k]? from rfl,h0]at this;cases this
    ·intro g
     have:=(y1 k g).2.2
     rw [bZ this]at h0;cases h0
  have hsψ:Sub ψ (BR h'):=fun k o ho=>hs' k o (by
   show (if Z k then none else h[k]?)=some o;rw [if_neg]
   ·exact hs k o ho
   ·intro hz;rw [(z1 k hz).1]at ho;cases ho)
  refine y3 Δ' h' hsψ (fun k hk=> ?_) (w2 ψ _ (fun k hk=>⟨(hno k hk).1,fun g=>g.elim id (hno k hk).2⟩) hsψ);have hlt:=(y1 k hk).2.2
  have:(if Z k then none else h[k]?)=some h[k]:=by
   rw [if_neg]
   ·exact bZ hlt
   ·intro hz;exact (z1 k hz).2 (.inr hk)
  rw [show h'[k]? =some h[k] from hs' k _ this,bZ hlt]
theorem St.abide {φ0:AD}{h h':AH}:∀ {Δ:List Chk}{X:Ev},(∀c∈Δ,Os c)→StX φ0 h Δ X→(∀k,k<h.size→(∃cs ty f,h[k]? =some (.cells cs ty f))→h'[k]? =h[k]?)→Sub φ0 (BR h')→StX φ0 h' Δ X:=by
 intro Δ
 induction Δ with
 |nil=>intro X _ _ _ hs;exact hs
 |cons c Δ ih=>
  intro X hf ⟨F,h1,h2,H⟩ hk hs;exact ⟨F,c.R.loc (fun i hi=>hk i (c.R.lt h1 i hi) ((hf c (by simp)).2 _ _ _ h1 i hi)) h1,h2,ih (fun c hc=>hf c (by simp [hc])) H hk hs⟩
theorem St.back {φ ψ:AD}{h:AH}{Δ:List Chk}(hf:∀c∈Δ,Os c) (le:Sub φ ψ) (H:St ψ Δ h):St φ Δ h:=by
 obtain ⟨Z,z1,_,z2⟩:=StX.alone hf H;have hn:∀k,Z k→φ k=none:=fun k hk=>by
  cases hφ:φ k with
  |none=>rfl
  |some o=>have:=le k o hφ;rw [(z1 k hk).1]at this;cases this
 exact z2 φ _ (fun k hk=>⟨hn k hk,fun g=>g⟩) fun k o ho=>H.sub k o (le k o ho)
theorem St.hide {φ:AD}{h:AH}{c:Chk}{Γ:List Chk}(H:St φ (c::Γ) h):∃(ψ:AD) (F:Ev),Sub φ ψ∧c.on φ h F∧(∀k,F k→ψ k=h[k]?)∧St ψ Γ h:=by
 classical
 obtain ⟨F,h1,h2,H⟩:=H;have hs:=H.sub;have le:Sub φ (fun i=>if F i then h[i]? else φ i):=fun i o ho=>by
  show (if F i then h[i]? else φ i)=some o;rw [if_neg]
  ·exact ho
  ·intro hF;have e:=(h2 i hF).1;rw [e]at ho;cases ho
 refine ⟨fun i=>if F i then h[i]? else φ i,F,le,h1,fun i hi=>if_pos hi,?_⟩;refine StX.less (StX.grow H le (fun i o ho=> ?_) fun k hk hn=> ?_) fun k hk=>hk.elim
 ·split at ho
  ·exact ho
  ·exact hs i o ho
 ·split at hk
  ·exact .inr (by assumption)
  ·exact absurd hn hk
theorem Wt {φ:AD}{h:AH}{p:Option Addr}{s:AU}{F:List Chk}(H:St φ (BM p s::F) h):∃b,p=some ⟨b,0,none⟩∧BI h ⟨b,0,none⟩=some (.int .i64 s.1):=by
 obtain ⟨b,vs,e,hl,s1⟩:=St.open H;obtain ⟨c,d,rfl,hc,s2⟩:=St.pair (s1.at1);obtain ⟨hr,_⟩:=St.ro s2;cases hr;refine ⟨b,by cases e;rfl,s1.cell rfl⟩
end Go.Proofs.YteolcjbobmpdiaaGreatDoor.Dg
namespace Go.Proofs.YteolcjbobmpdiaaGreatDoor.Dg
open Go Go.Eng Go.RowKit Go.Shelf
set_option linter.unusedVariables false
attribute [local go_sem] Oper.semAt_some
set_option maxRecDepth 100000
noncomputable def He (a:AU×Bool) (i:Int):AU×Bool:=if a.2 then a else if a.1.1≤i then (a.1,true) else (((Aq a.1 i).getD (false,a.1)).2,false)
noncomputable def Xc (s:AU) (l:List Int):AU×Bool:=l.foldl He (s,false)
def DQ (s:AU):List Int:=DP (s.2.map cD) s.2.length
noncomputable def BC (s o:AU):AU:=(Xc s (DQ o)).1
noncomputable def stepG (a:AU×Bool×Bool) (i:Int):AU×Bool×Bool:=if a.2.1 then a else if a.1.1≤i then (a.1,true,a.2.2) else (((Aq a.1 i).getD (false,a.1)).2,false,((Aq a.1 i).getD (false,a.1)).1 || a.2.2)
noncomputable def Im (s:AU) (l:List Int):AU×Bool×Bool:=l.foldl stepG (s,false,false)
noncomputable def Eo (s o:AU):Bool:=(Im s (DQ o)).2.2
theorem N8 (s:AU) (l:List Int) (i:Int):Im s (l++ [i])=stepG (Im s l) i:=by simp [Im]
theorem VW (l:List Int):∀(a:AU×Bool×Bool),((l.foldl stepG a).1,(l.foldl stepG a).2.1)=l.foldl He (a.1,a.2.1):=by
 induction l with
 |nil=>intro a;rfl
 |cons i l ih=>
  intro a;rw [eL,eL,ih];congr 1;unfold stepG He;dsimp only;by_cases h:a.2.1=true
  ·rw [if_pos h,if_pos h]
  ·rw [if_neg h,if_neg h];by_cases h2:a.1.1≤i
   ·rw [if_pos h2,if_pos h2]
   ·rw [if_neg h2,if_neg h2]
theorem Wu (s:AU) (l:List Int):((Im s l).1,(Im s l).2.1)=Xc s l:=VW l (s,false,false)
theorem T2 (l:List Int) {a:AU×Bool×Bool}(h:a.2.1=true):l.foldl stepG a=a:=by
 induction l with
 |nil=>rfl
 |cons i l ih=>
  rw [eL]
  have:stepG a i=a:=if_pos h
  rw [this,ih]
theorem Wv {s:AU}{l pre:List Int}(hp:pre<+:l) (h:(Im s pre).2.1=true):Im s l=Im s pre:=by
 obtain ⟨r,rfl⟩:=hp;unfold Im at h ⊢;rw [List.foldl_append,T2 r h]
theorem T3 (s o:AU):(Im s (DQ o)).1=BC s o:=(Prod.mk.inj (Wu s (DQ o))).1
theorem Ww (l:List Int) {a:AU×Bool}(h:a.2=true):l.foldl He a=a:=by
 induction l with
 |nil=>rfl
 |cons i l ih=>
  rw [eL]
  have:He a i=a:=if_pos h
  rw [this,ih]
abbrev G5 (bs bg:Nat) (p:Option Addr) (g:Bool) (s:AU):List Chk:=[⟨cN 139,[.pointer (some ⟨bs,0,none⟩)],[.pointer p]⟩,⟨cN 4,[.pointer (some ⟨bg,0,none⟩)],[.bool g]⟩,BM p s]
theorem DD (bs bg:Nat) (p:Option Addr) (g:Bool) (s:AU):∀c∈G5 bs bg p g s,Os c:=by
 intro c hc;simp only [List.mem_cons,iF,or_false]at hc;rcases hc with rfl | rfl | rfl
 ·exact Pi _ _ _
 ·exact Pi _ _ _
 ·exact Sa _ _
theorem Jn {φ0:AD}{B:Nat}{W W':World}{row:Option Nat}{Δ:List Chk}(hB:∀k,φ0 k≠none→k<B) (hf:∀c∈Δ,Os c) (H:St φ0 Δ W.heap) (hg:W.grownBy W' row) (hr:∀r,row=some r→B≤r∧ ∃o:Obj,W.heap[r]? =some o∧o.isCells=false):St φ0 Δ W'.heap:=by
 obtain ⟨_,_,_,hsz,hk⟩:=hg;refine St.abide hf H (fun k hk' ⟨cs,ty,f,hc⟩=>hk k hk' fun e=> ?_) fun k o ho=> ?_
 ·obtain ⟨_,o,h1,h2⟩:=hr k e.symm;rw [hc]at h1;cases h1;cases h2
 ·have h1:=H.sub k o ho
  have:=Au h1
  show W'.heap[k]? =some o;rw [hk k this fun e=>by have:=hB k (by rw [ho];simp);have:=(hr k e.symm).1;omega];exact h1
theorem Wx {φ0:AD}{bs bg:Nat}{p:Option Addr}{g:Bool}{s:AU}{x:Int}{W:World}(H:OkS s) (h0:St φ0 (G5 bs bg p g s) W.heap):
 Calls bT 134 #[.pointer p,.int .i64 x] W fun e W'=>Bl W W'∧W.heap.size≤W'.heap.size∧(∀(k:Nat) (o:Obj),W.heap[k]? =some o→o.isCells=false→W'.heap[k]? =some o)∧
  ∃y:Bool,e= .returned (.bool y)∧y=((Aq s x).getD (false,s)).1∧St φ0 (G5 bs bg p g ((Aq s x).getD (false,s)).2) W'.heap∧OkS ((Aq s x).getD (false,s)).2∧((Aq s x).getD (false,s)).2.1=s.1:=by
 obtain ⟨s',hd,h1,h2,_⟩:=add_ok H x;rw [hd];obtain ⟨φ1,_,k2,k3,k4,k5⟩:=St.apart (Γ:=[]) h0 (DD bs bg p g s);have hc:=CF (k2.at 2) hd W rfl;refine (show Calls bT 134 #[.pointer p,.int .i64 x] W _ from hc).mono ?_;rintro e W' ⟨hs,he⟩;cases e with
 |returned v=>
  obtain ⟨v',hv,ψ,y,l,le,rfl,hr,s3⟩:=he;cases hv;obtain ⟨rfl,rfl⟩:=Prod.mk.inj hr;refine ⟨hs,hs.size,fun k o hk ho=> ?_,_,rfl,rfl,?_,h1,h2⟩
  ·rcases k4 k o hk with g | ⟨cs,ty,f,rfl⟩
   ·exact s3.sub k o (le k o g)
   ·cases ho
  ·have s4:St ψ (G5 bs bg p g l) W'.heap:=(s3.at 2).at 2;exact k5 _ _ (DD _ _ _ _ _) (St.back (DD _ _ _ _ _) le s4)
 |panicked c=>obtain ⟨v',hv,_⟩:=he;cases hv
 |outgrown=>exact he.elim
theorem VX {φ:AD}{W:World}{F:List Chk}{q:Option Addr}{o:AU}(s0:St φ (BM q o::F) W.heap) (hb:o.2.length≤1073741824):
 Calls bT 114 #[.pointer q] W fun e W'=>Bl W W'∧ ∃(ψ:AD) (r:Nat) (y:Slc),Sub φ ψ∧e= .returned (.func (.func 149) #[] #[.pointer (some ⟨r,0,none⟩)])∧
  St ψ (⟨cN 235,[.pointer (some ⟨r,0,none⟩)],[.slice y.1 y.2.1 y.2.2]⟩::⟨cH 237 (bW .u64),[.slice y.1 y.2.1 y.2.2],o.2⟩::BM q o::F) W'.heap:=by
 refine (show Calls bT 114 #[.pointer q] W _ from Pg s0 hb W rfl).mono ?_;rintro e W' ⟨hs,he⟩;cases e with
 |returned v=>
  obtain ⟨v',hv,ψ,r,y,h1,h2,h3⟩:=he;cases hv;exact ⟨hs,ψ,r,y,h1,by rw [h2],h3⟩
 |panicked c=>obtain ⟨v',hv,_⟩:=he;cases hv
 |outgrown=>exact he.elim
theorem ML {h:AH}{b:Nat}{j:Nat}{v:Value}(hc:BI h ⟨b,j,none⟩=some v):b<h.size:=by
 unfold BI D3 fK at hc;dsimp only at hc;cases ho:h[b]? with
 |none=>rw [ho]at hc;cases hc
 |some o=>exact Au ho
theorem ready (n:Nat) (hn:3≤n) {ψ:AD}{W:World}{bx bs bg:Nat}{y:Slc}{p q:Option Addr}{s o:AU}{G G':List Chk}(gk:Glob ψ) (ho:OkS o) (hp:(BM p s::G).Perm (BM q o::G'))
 (s1:St ψ (⟨cN 235,[.pointer (some ⟨bx,0,none⟩)],[.slice y.1 y.2.1 y.2.2]⟩::⟨cH 237 (bW .u64),[.slice y.1 y.2.1 y.2.2],o.2⟩::BM q o::⟨cN 139,[.pointer (some ⟨bs,0,none⟩)],[.pointer p]⟩::⟨cN 4,[.pointer (some ⟨bg,0,none⟩)],[.bool false]⟩::G') W.heap):
 ∃(ψ2 φ0:AD) (L:List Nat),Sub ψ ψ2∧(∀k,φ0 k≠none→k<W.heap.size)∧(∀b∈L,φ0 b≠none)∧St φ0 (G5 bs bg p false s) W.heap∧
  SeqStopsK Fence.wide n bT 149 #[.pointer (some ⟨bx,0,none⟩)] VT (KpL L) (fun ys=>ys=DQ o) (fun pre=>pre<+:DQ o) (DQ o).length W∧
  ∀s' g (h':AH),St φ0 (G5 bs bg p g s') h'→St ψ2 (BM p s'::G) h':=by
 have gk1:=gk.mono s1.sub;have hbox:BI W.heap ⟨bx,0,none⟩=some (.slice y.1 y.2.1 y.2.2):=s1.cell rfl;have hg0:0<W.heap.size:=by
  obtain ⟨t,f,hg⟩:=gk1;exact Au hg
 have h1:=ho.len;have h2:=ho.hi;obtain ⟨L,hL,hseq⟩:=M0 n hn gk1 ho.word (by omega) hbox (s1.at 1).rowLen.symm (Li (s1.at 1)) (Ph (s1.at 1)) (ML hbox) hg0;obtain ⟨ψa,F1,le1,⟨b1,e1,hb1,hF1⟩,k1,s2⟩:=St.hide s1;cases e1;obtain ⟨ψb,F2,le2,hrow,k2,s3⟩:=St.hide s2;have hpm:(BM q o::⟨cN 139,[.pointer (some ⟨bs,0,none⟩)],[.pointer p]⟩::⟨cN 4,[.pointer (some ⟨bg,0,none⟩)],[.bool false]⟩::G').Perm (G++G5 bs bg p false s):=by
  refine (Az 1 _).trans<|(cE _ (Az 1 _)).trans<|(cE _ (cE _ hp.symm)).trans (cF (l₁:=G5 bs bg p false s) (l₂:=G))
 obtain ⟨φ0,d1,d2,d3,d4,d5⟩:=St.apart (s3.perm hpm) (DD bs bg p false s);refine ⟨ψb,φ0,L,le1.trans le2,d1,fun b hb=> ?_,d2,hseq,fun s' g h' H=> ?_⟩
 ·have key:∃ob,ψb b=some ob:=by
   rcases (hL b hb).2 with rfl | rfl | ⟨a,ha,rfl⟩
   ·exact ⟨_,le2 _ _ ((k1 b ((hF1 b).2 rfl)).trans hb1)⟩
   ·obtain ⟨t,f,hg⟩:=gk;exact ⟨_,le2 _ _ (le1 _ _ hg)⟩
   ·obtain ⟨p',n',c',vs,e3,h3,h4,h5,h6,h7,h8⟩:=hrow;simp only [List.cons.injEq,Value.slice.injEq,and_true]at e3;have hlt:=(hL _ hb).1;refine ⟨_,(k2 a.block ((h8 _).2 ?_)).trans (bZ hlt)⟩;rw [←e3.1,ha];simp [blk]
  obtain ⟨ob,hob⟩:=key;rw [d3 _ _ hob];simp
 ·have H2:=d5 _ _ (DD bs bg p g s') H;have H3:St ψb (G5 bs bg p g s'++G) h':=H2.perm cF;exact H3.tail.tail
theorem Xd {φ0:AD}{L:List Nat}{A B:World}(hL:∀b∈L,φ0 b≠none) (ha:Sub φ0 (BR A.heap)) (hb:Sub φ0 (BR B.heap)):KpL L A B:=fun b hb' o ho=>by
 cases hφ:φ0 b with
 |none=>exact absurd hφ (hL b hb')
 |some o'=>
  have h1:=ha b o' hφ;have h2:=hb b o' hφ;rw [show BR A.heap b=A.heap[b]? from rfl,ho]at h1;cases h1;exact h2
set_option maxHeartbeats 4000000 in
theorem T4 {φ:AD}{w:World}{p q:Option Addr}{s o:AU}{G G':List Chk}(gk:Glob φ) (hs:OkS s) (ho:OkS o) (hp:(BM p s::G).Perm (BM q o::G')) (s0:St φ (BM p s::G) w.heap):
 Calls bT 139 #[.pointer p,.pointer q] w fun e W'=>Bl w W'∧ ∃(ψ:AD),Sub φ ψ∧e= .returned (.bool (Eo s o))∧St ψ (BM p (BC s o)::G) W'.heap:=by
 refine (callsIn_wide (n:=12)).1<|callsIn_of_wp_marks Tryz.func139 rfl trivial ?_ rfl;simp only [Tryz.ntmps139,cU,cA,cI,Nat.reduceAdd,Nat.reduceSub,dB,dC,dL,dG,dJ,dK]
 gi_wp2
 have hlen:o.2.length≤1000:=by have h1:=ho.len;have h2:=ho.hi;omega
 have sA:St φ (BM q o::⟨cN 139,[.pointer (some ⟨w.heap.size,0,none⟩)],[.pointer p]⟩::⟨cN 4,[.pointer (some ⟨w.heap.size+1,0,none⟩)],[.bool false]⟩::G') ((w.alloc (.cells #[.pointer p] 139)).alloc (.cells #[.bool false] 4)).heap:=by
  have h1:=St.new (ty:=139) [.pointer p] s0;have h2:=St.new (ty:=4) [.bool false] h1;rw [Array.size_push]at h2;refine h2.perm<|(dD _ _ _).trans ((cE _ (cE _ hp)).trans ((Az 2 _)))
 refine ⟨trivial,(callsIn_wide.2 (VX sA (by omega))).mono ?_⟩;rintro e W1 ⟨hsame1,ψ,bx,y,le1,rfl,s1⟩;obtain ⟨ψ2,φ0,L,le2,hB,hL,hst0,hseq,hback⟩:=ready 11 (by decide) (gk.mono le1) ho hp s1;have hsame0:Bl w W1:=Bl.trans (b:=(w.alloc (.cells #[.pointer p] 139)).alloc (.cells #[.bool false] 4)) ⟨rfl,rfl,rfl,by simp;omega⟩ hsame1;have hfin:∀(g:Bool) (s':AU) (W':World),Bl w W'→Im s (DQ o)=(s',true,g)∨Im s (DQ o)=(s',false,g)→St φ0 (G5 w.heap.size (w.heap.size+1) p g s') W'.heap→Bl w W'∧ ∃(ψ:AD),Sub φ ψ∧Ending.returned (Value.bool g)= .returned (.bool (Eo s o))∧St ψ (BM p (BC s o)::G) W'.heap:=by
  rintro g s' W' h1 h2' h2;have e1:BC s o=s':=by rw [←T3];rcases h2' with h | h<;>rw [h]
  have e2:Eo s o=g:=by unfold Eo;rcases h2' with h | h<;>rw [h]
  rw [e1,e2];exact ⟨h1,ψ2,le1.trans le2,rfl,hback _ _ _ h2⟩
 have hgrow:∀ {A B:World} {row:Option Nat},Bl w A→A.grownBy B row→Bl w B:=fun h ⟨g1,g2,g3,g4,_⟩=>h.trans ⟨g1,g2,g3,g4⟩
 gi_wp2
 refine wpIn_rangeFunc_ownG rfl (by decide) (gf:=149) (lb:=#[.pointer (some ⟨bx,0,none⟩)]) rfl trivial (enters_of fU (by kernel_rfl) rfl) hseq (fun h k=>h.trans k)
  (fun W l o o' hl h h1 h2=>KpL.putObj (n₀:=W1.heap.size) (fun b hb=>hB b (hL b hb)) W l o o' hl h h1 h2) (Below.refl _ _) (fun _=>rfl)
  (fun pre W=>Bl w W∧ ∃(s':AU) (g:Bool),OkS s'∧Im s pre=(s',false,g)∧St φ0 (G5 w.heap.size (w.heap.size+1) p g s') W.heap)
  (fun c pre W=>c= .exit 0∧Bl w W∧ ∃(s':AU) (g:Bool),Im s pre=(s',true,g)∧St φ0 (G5 w.heap.size (w.heap.size+1) p g s') W.heap)
  (fun pre A B row ⟨h1,s',g,h2,h3,h4⟩ hg hr=>⟨hgrow h1 hg,s',g,h2,h3,Jn hB (DD _ _ _ _ _) h4 hg hr⟩)
  (fun c pre A B row ⟨h0,h1,s',g,h2,h4⟩ hg hr=>⟨h0,hgrow h1 hg,s',g,h2,Jn hB (DD _ _ _ _ _) h4 hg hr⟩)
  ⟨hsame0,s,false,hs,rfl,hst0⟩
  (fun x=>{tmps:=#[.pointer p,.pointer q,.pointer (some ⟨w.heap.size,0,none⟩),undef,.bool false,.pointer (some ⟨w.heap.size+1,0,none⟩),.int .i64 x,.pointer q,.func (.func 149) #[] #[.pointer (some ⟨bx,0,none⟩)],.int .i64 x,undef,undef,undef,undef,undef,undef,undef,undef,undef,undef,undef,undef,undef],defers:=[]}) ?assign ?body ?done ?stop
 case assign=>
  intro l x W K hK
  gi_wp2
  exact hK
 case body=>
  rintro l pre x W ⟨hsame,s',g,hok,hrun,hst⟩ hlt;have hbox:W.cell? ⟨w.heap.size,0,none⟩=some (.pointer p):=hst.cell rfl;obtain ⟨bp,rfl,hn⟩:=Wt (hst.at 2);have hn':W.cell? ⟨bp,0,none⟩=some (.int .i64 s'.1):=hn
  gi_wp2
  ·have hx:s'.1≤x:=by assumption
   have hr:Im s (pre++ [x])=(s',true,g):=by
    rw [N8,hrun];unfold stepG;rw [if_neg (by simp),if_pos hx]
   exact ⟨KeepsFrom.refl _ _,rfl,hsame,s',g,hr,hst⟩
  ·have hx:¬s'.1≤x:=by omega
   refine ⟨trivial,(CallsIn.inRound l (callsIn_wide.2 (Wx (x:=x) hok hst))).mono ?_⟩;obtain ⟨s3,hs3⟩:∃s3,((Aq s' x).getD (false,s')).2=s3:=⟨_,rfl⟩;rw [hs3];rintro e W3 ⟨hsame3,hsz3,hk3,y,rfl,hy,hst3,hok3,hn3⟩;have hr:Im s (pre++ [x])=(s3,false,y || g):=by
    rw [N8,hrun];unfold stepG;rw [if_neg (by simp),if_neg hx];dsimp only;rw [hs3,←hy]
   have hg3:W3.cell? ⟨w.heap.size+1,0,none⟩=some (.bool g):=(hst3.at 1).cell rfl;have hf3:W3.frozen? ⟨w.heap.size+1,0,none⟩=false:=(St.put (j:=0) (.bool true) (hst3.at 1) (dQ 0)).2.1;have hend:∀v:Bool,v=(y || g)→KeepsFrom W1.heap.size W (W3.setCell ⟨w.heap.size+1,0,none⟩ (.bool v))∧KpL L W (W3.setCell ⟨w.heap.size+1,0,none⟩ (.bool v))∧Bl w (W3.setCell ⟨w.heap.size+1,0,none⟩ (.bool v))∧ ∃(s':AU) (g:Bool),OkS s'∧Im s (pre++ [x])=(s',false,g)∧St φ0 (G5 w.heap.size (w.heap.size+1) (some ⟨bp,0,none⟩) g s') (W3.setCell ⟨w.heap.size+1,0,none⟩ (.bool v)).heap:=by
    intro v hv;rw [←hv]at hr;have h1:=(St.put (j:=0) (.bool v) (hst3.at 1) (dQ 0)).2.2;have h2:St φ0 (G5 w.heap.size (w.heap.size+1) (some ⟨bp,0,none⟩) v s3) (W3.setCell ⟨w.heap.size+1,0,none⟩ (.bool v)).heap:=h1.at 1;have h3:KeepsFrom W1.heap.size W W3:=⟨hsz3,fun k o _ hk ho=>hk3 k o hk ho⟩;exact ⟨h3.trans ((KeepsOthers.setCell _ _ _).from _),Xd hL hst.sub h2.sub,(hsame.trans hsame3).trans (Bl.setCell _ _ _),s3,v,hok3,hr,h2⟩
   clear hy hr;cases y
   all_goals gi_wp2
   all_goals exact hend _ rfl
 case done=>
  rintro D xs W hD rfl ⟨hsame,s',g,hok,hrun,hst⟩ hK;have hg:W.cell? ⟨w.heap.size+1,0,none⟩=some (.bool g):=(hst.at 1).cell rfl
  gi_wp2
  refine ⟨by simp,.inl ⟨_,_,rfl,run_takeDeferred hK,?_⟩⟩;refine ⟨_,results_tmp rfl _ _ _,hfin g s' _ (hgrow hsame (grownBy_putObj' W D _)) (.inr hrun) ?_⟩;exact Jn hB (DD _ _ _ _ _) hst (grownBy_putObj' W D _) (fun r e=>by cases e;exact ⟨hD,_,hK,rfl⟩)
 case stop=>
  rintro D c pre W hD hpre ⟨rfl,hsame,s',g,hrun,hst⟩ hK;have hg:W.cell? ⟨w.heap.size+1,0,none⟩=some (.bool g):=(hst.at 1).cell rfl
  gi_wp2
  refine ⟨by simp,.inl ⟨_,_,rfl,run_takeDeferred hK,?_⟩⟩;refine ⟨_,results_tmp rfl _ _ _,hfin g s' _ (hgrow hsame (grownBy_putObj' W D _)) (.inl ((Wv hpre (by rw [hrun])).trans hrun)) ?_⟩;exact Jn hB (DD _ _ _ _ _) hst (grownBy_putObj' W D _) (fun r e=>by cases e;exact ⟨hD,_,hK,rfl⟩)
theorem IA {φ:AD}{h:AH}{p q:Option Addr}{s o:AU}{G G':List Chk}(gk:Glob φ) (hs:OkS s) (ho:OkS o) (hp:(BM p s::G).Perm (BM q o::G')) (s0:St φ (BM p s::G) h):
 CallsH bT 139 [.pointer p,.pointer q] h (Ar fun v h'=>∃(ψ:AD),Sub φ ψ∧v=((.one aB):Sh).val (Eo s o)∧St ψ (BM p (BC s o)::G) h'):=by
 intro w hw;subst hw;refine (show Calls bT 139 #[.pointer p,.pointer q] w _ from T4 gk hs ho hp s0).mono ?_;rintro e W' ⟨h1,ψ,h2,rfl,h3⟩;exact ⟨h1,_,rfl,ψ,h2,rfl,h3⟩
theorem Sb {φ:AD}{h:AH}{p q:Option Addr}{s o:AU}{G G':List Chk}(gk:Glob φ) (hs:OkS s) (ho:OkS o) (hp:(BM p s::G).Perm (BM q o::G')) (s0:St φ (BM p s::G) h):
 CallsH bT 139 [.pointer p,.pointer q] h (Ar fun v h'=>∃(ψ:AD) (g:Bool),Sub φ ψ∧v=((.one aB):Sh).val g∧St ψ (BM p (BC s o)::G) h'):=by
 refine (IA gk hs ho hp s0).mono ?_;rintro e h' ⟨u,rfl,ψ,le,rfl,s4⟩;exact ⟨_,rfl,ψ,_,le,rfl,s4⟩
end Go.Proofs.YteolcjbobmpdiaaGreatDoor.Dg
namespace Go.Proofs.YteolcjbobmpdiaaGreatDoor.Dg
open Go Go.Eng Go.RowKit Go.Shelf Go.Sort
set_option linter.unusedVariables false
attribute [local go_sem] Oper.semAt_some
set_option maxRecDepth 100000
section
variable {φ:AD}{h:AH}{F:List Chk}
theorem WN {W:World}{b:Nat}{n x:Int}(hc:W.cell? ⟨b,0,none⟩=some (.int .i64 n)):FnGives bT 191 #[.pointer (some ⟨b,0,none⟩)] #[.int .i64 x] (.bool (JN n x)) W:=by
 refine (callsIn_wide (n:=3)).1<|callsIn_of_wp Tryz.func191 rfl trivial ?_ rfl;simp only [Tryz.ntmps191,cU,cA,cI,Nat.reduceAdd,Nat.reduceSub,dB,dC,dL,dG,dJ,dK];have hmx:Tryz.prog.follows .mixedOrders=true:=mixed;by_cases h0:x<0
 ·have e:JN n x=true:=by unfold JN;rw [decide_eq_true h0];rfl
  rw [e]
  gi_wp2
  go_ret
  exact ⟨rfl,0,rfl⟩
 ·have e:JN n x=decide (n≤x):=by unfold JN;rw [decide_eq_false h0];rfl
  rw [e]
  gi_wp2
  go_ret
  exact ⟨rfl,0,rfl⟩
theorem Qu (n:Nat) (p:Option Addr) (cap:Nat) (fv:Value) (W:World):CallsIn Fence.wide n bT 204 #[.slice p 0 cap,fv] W fun e W'=>e= .returned (.int .i64 (-1))∧W'=W:=by
 refine callsIn_of_wp Tryz.func204 rfl trivial ?_ rfl;simp only [Tryz.ntmps204,cU,cA,cI,Nat.reduceAdd,Nat.reduceSub,dB,dC,dL,dG,dJ,dK]
 gi_wp2
 refine wpIn_loop_rounds 1 ?_;rw [roundsIn_succ]
 gi_wp2
 go_ret
 exact ⟨rfl,rfl⟩
theorem Qv (n:Nat) (hn:1≤n) (p:Option Addr) (cap:Nat) (fv:Value) (W:World):CallsIn Fence.wide n bT 190 #[.slice p 0 cap,fv] W fun e W'=>e= .returned (.slice p 0 cap)∧W'=W:=by
 refine callsIn_of_wp Tryz.func190 rfl trivial ?_ rfl;simp only [Tryz.ntmps190,cU,cA,cI,Nat.reduceAdd,Nat.reduceSub,dB,dC,dL,dG,dJ,dK]
 gi_wp2
 refine ⟨trivial,(Qu (n - 1) p cap fv W).mono ?_⟩;rintro e W' ⟨rfl,rfl⟩
 gi_wp2
 go_ret
 exact ⟨rfl,rfl⟩
theorem Xe {t:Slc}{l:List Int}{b:Nat}{n:Int}(s0:St φ (⟨cH 3 (bW .i64),[.slice t.1 t.2.1 t.2.2],l⟩::⟨cN 3,[.pointer (some ⟨b,0,none⟩)],[.int .i64 n]⟩::F) h):
 CallsH bT 190 [.slice t.1 t.2.1 t.2.2,.func (.func 191) #[] #[.pointer (some ⟨b,0,none⟩)]] h (Ar fun v h'=>∃(ψ:AD) (y:Slc),Sub φ ψ∧v=((.one aS):Sh).val y∧Ro.SliceIs (bW .i64) ψ y (l.filter fun x=> !JN n x)∧St ψ F h'):=by
 intro w hw;subst hw;have hcn:w.cell? ⟨b,0,none⟩=some (.int .i64 n):=(s0.at 1).cell rfl;rcases s0.rowHolds rfl (cQ .i64) (fun vs ha=>⟨l,C5 ha⟩) with ⟨hl,hn⟩|⟨bb,off,bs,ht,hall,hn,hlen,hlt,hfit,hH⟩
 ·subst hl;rw [hn];have hc:=(callsIn_wide (n:=3)).1 (Qv 3 (by decide) t.1 t.2.2 (.func (.func 191) #[] #[.pointer (some ⟨b,0,none⟩)]) w);refine (show Calls bT 190 #[.slice t.1 0 t.2.2,_] w _ from hc).mono ?_;rintro e w' ⟨rfl,rfl⟩;obtain ⟨ψ,le,hsl,s1⟩:=s0.freezeRow;refine ⟨iO _,_,rfl,ψ,t,le,by rw [←hn];rfl,hsl,s1.tail⟩
 ·have hbl:bs=l:=Om (C5 hall);subst hbl;rw [ht,hn];have hmax:=s0.rowMax;have hcap:bs.length≤t.2.2:=by
   obtain ⟨_,_,hsl,_⟩:=s0.freezeRow
   have:=hsl.2.1
   omega
  have hc:=AnyE.slices_DeleteFunc Mv (cQ .i64) (fun x=>rfl) (JN n) 191 #[.pointer (some ⟨b,0,none⟩)] (enters_of Tryz.func191 (by kernel_rfl) rfl) 0 (fX) bb off t.2.2 bs.toArray w
   (fun W x hW=>WN ((hW.cell (p:=⟨b,0,none⟩) (ML hcn)).trans hcn))
   (fun m os dk x hdk=>WN (((s0.rowSorted ht (cQ .i64) dk.toList (Em _) (by simpa using hdk) (by simpa using hdk) hfit m os).at 1).cell rfl)) hH (by unfold maxLen at hmax;simp;omega) (by simpa using hcap)
  obtain ⟨fl,hfl⟩:∃fl,(bs.filter fun x=> !JN n x)=fl:=⟨_,rfl⟩;have hfle:fl.length≤bs.length:=by rw [←hfl];exact eR _ _
  have hsz:bs.toArray.size=bs.length:=by simp
  have htl:bs.toArray.toList=bs:=rfl;rw [hsz,htl,hfl]at hc;refine (show Calls bT 190 #[.slice (some ⟨bb,off,none⟩) bs.length t.2.2,_] w _ from hc).mono ?_;rintro e w' ⟨rfl,q,rfl⟩;have hln:(fl++dM (bs.length - fl.length) (0:Int)).length=bs.length:=by simp;omega
  have s1:=s0.rowSorted ht (cQ .i64) (fl++dM (bs.length - fl.length) (0:Int)) (Em _) hln hln hfit q #[];rw [grow_empty]at s1;obtain ⟨ψ,le,hsl,s2⟩:=s1.freezeRow;have hct:=Ro.SliceIs.cut (a:=0) (b:=(fl.length:Int)) (m:=fl) hsl (by
   unfold cut;rw [if_pos ⟨by omega,by omega,by rw [hln];omega⟩]
   simp) (sz:=1) rfl
  refine ⟨⟨rfl,rfl,rfl,by rw [size_putRow];exact dN _⟩,_,rfl,ψ,(some ⟨bb,off,none⟩,fl.length,t.2.2),le,rfl,?_,s2.tail⟩;rw [hfl];have h3:=hct.2;rw [ht]at h3;have h4:(if t.2.2=cD 0 then some (⟨bb,off,none⟩:Addr) else gO (fun x=>hO x (cD 0 *1)) (some ⟨bb,off,none⟩))=some ⟨bb,off,none⟩:=by
   split
   ·rfl
   ·rfl
  rw [h4]at h3;exact h3
theorem T5 {t:Slc}{ll:List (List Int)}{x n:Int}(k:Ro.SliceIs (eV (bW .i64)) φ t ll) (s0:St φ F h) (h0:0≤x) (hb:∀l∈ll,l.length≤1073741824):
 CallsH bT 165 [.slice t.1 t.2.1 t.2.2,.int .i64 x,.int .i64 n] h (Ar fun v h'=>∃(ψ:AD) (y:Slc),Sub φ ψ∧v=((.one aS):Sh).val y∧Ro.SliceIs (bW .i64) ψ y (Cj ll x n)∧St ψ F h'):=by
 refine AO mixed Tryz.func165 ?_;rw [Lh];unfold JH;refine AV (vs:=[.int .i64 n]) s0 ?_;intro r h1 s1;have hlen:=k.length;by_cases hx:x≥ (t.2.1:Int)
 ·rw [decide_eq_true hx,cond_true];refine AB ⟨φ,(none,0,0),bX _,rfl,?_,s1.tail⟩;unfold Cj;rw [if_pos (by omega)];exact eP _ _
 ·rw [decide_eq_false hx,cond_false];have hlt:x.toNat<ll.length:=by omega
  have hix:idx ll x=some ll[x.toNat]:=by
   unfold idx;rw [if_pos h0,bR hlt]
  obtain ⟨a,cs,ha,hi,⟨t1,e1,k1⟩,hcs⟩:=k.get hix;subst e1;refine AF _ ha (AY hi ?_);refine AC (x:=t1) (by
   have h3:=Al s1.sub (hcs 0 _ rfl);exact h3) rfl ?_
  refine AI (Qr k1 s1 (r:=ll[x.toNat]) (by unfold cloneD;rw [if_pos (hb _ (cK _))])) ?_;rintro _ h2 ⟨ψ1,y1,l1,le1,rfl,rfl,s2⟩;refine ⟨y1,rfl,?_⟩;refine AI (Xe s2) ?_;rintro _ h3 ⟨ψ2,y2,le2,rfl,k2,s3⟩;refine ⟨y2,rfl,?_⟩;refine AB ⟨ψ2,y2,le1.trans le2,rfl,?_,s3⟩;unfold Cj;rw [if_neg (by omega),bR hlt];exact k2
end
end Go.Proofs.YteolcjbobmpdiaaGreatDoor.Dg
namespace Go.Proofs.YteolcjbobmpdiaaGreatDoor.Dg
open Go Go.Eng Go.RowKit
set_option linter.unusedVariables false
set_option maxRecDepth 100000
theorem VY {P:Program} {Q:BU→AH→Prop} {h:AH} {f:FuncId} {fn:Func} {first cap args:Array Value} {sh:Sh} {k:Value→T} (hf:P.funcs[f]? =some fn) (hn:(fn.name== "runtime.NumGoroutine")=false) (hb:fn.body.isNone=false) (hsh:RR P fn=sh)
 (H:(T.call f ((first++args) ++cap).toList sh fun x=>k (sh.val x)).wp P Q h):(I0 false P (.func (.func f) first cap) args k).wp P Q h:=by
 subst hsh;unfold I0;simp only [hf,hn,hb];exact H
theorem St.rowTake {α:Type}{φ:AD}{h:AH}{Γ:List Chk}{ty:TypeId}{r:Ro α}{t:Slc}{l:List α}(H:St φ (⟨cH ty r,[.slice t.1 t.2.1 t.2.2],l⟩::Γ) h) {k:Nat}(hk:k≤l.length):
 St φ (⟨cH ty r,[.slice t.1 k t.2.2],l.take k⟩::Γ) h:=by
 obtain ⟨F,⟨p,n,c,vs,e,hn,hc,hfu,ho,hall,hF⟩,h2,H⟩:=H;have hn:l.length=n:=hn;simp only [List.cons.injEq,Value.slice.injEq,and_true]at e;obtain ⟨e1,e2,e3⟩:=e;refine ⟨F,⟨p,k,c,vs.take (k *r.sz),by rw [e1,e3],by rw [eS];omega,hc,hfu,?_,hall.take k,hF⟩,h2,H⟩;rcases ho with ⟨hp,hn0,hc0,hv0⟩|⟨b,off,arr,hp,hb0,g1,g2,g3,g4⟩
 ·exact .inl ⟨hp,by omega,hc0,by rw [hv0];exact List.take_nil⟩
 ·refine .inr ⟨b,off,arr,hp,hb0,?_,by omega,g3,fun i v hv=> ?_⟩
  ·rw [eS,g1];exact Nat.min_eq_left (eW _ (by omega))
  ·rw [dX]at hv;split at hv
   ·exact g4 i v hv
   ·cases hv
abbrev Ge (c1 c2:Nat) (s o:Slc) (stk low:List Int):List Chk:=[⟨cN 30,[.pointer (some ⟨c1,0,none⟩)],[.slice s.1 s.2.1 s.2.2]⟩,⟨cH 3 (bW .i64),[.slice s.1 s.2.1 s.2.2],stk⟩,⟨cN 30,[.pointer (some ⟨c2,0,none⟩)],[.slice o.1 o.2.1 o.2.2]⟩,⟨cH 3 (bW .i64),[.slice o.1 o.2.1 o.2.2],low⟩]
section
variable {X A:Type}(K:X→List Chk) (al:X→A) (ledA:A→Int→Int→Option A) (partA:A→List Int→Option A) (gl gp:Nat) (bl bp:Array Value)
def T6:Prop:= ∀ {φ:AD}{h:AH}{F:List Chk}{v:X}{x to:Int}{a':A},ledA (al v) x to=some a'→St φ (K v++F) h→
 CallsH bT gl (((#[]:Array Value) ++ #[cQ .i64 x,cQ .i64 to]) ++bl).toList h (Ar fun u h'=>u= .tuple #[] ∧ ∃(ψ:AD) (v':X),Sub φ ψ∧al v'=a'∧St ψ (K v'++F) h')
def Qw:Prop:= ∀ {φ:AD}{h:AH}{F:List Chk}{v:X}{t:Slc}{l:List Int}{a':A},partA (al v) l=some a'→St φ (⟨cH 3 (bW .i64),[.slice t.1 t.2.1 t.2.2],l⟩::(K v++F)) h→
 CallsH bT gp (((#[]:Array Value) ++ #[Value.slice t.1 t.2.1 t.2.2]) ++bp).toList h (Ar fun u h'=>u= .tuple #[] ∧ ∃(ψ:AD) (v':X),Sub φ ψ∧al v'=a'∧St ψ (K v'++F) h')
abbrev GG (c1 c2 c3 c4 c5 c6 c7:Nat):Array Value:=#[.pointer (some ⟨c1,0,none⟩),.pointer (some ⟨c2,0,none⟩),.pointer (some ⟨c3,0,none⟩),.pointer (some ⟨c4,0,none⟩),.pointer (some ⟨c5,0,none⟩),.pointer (some ⟨c6,0,none⟩),.pointer (some ⟨c7,0,none⟩)]
structure M1 (φ:AD) (t:Slc) (n:Int) (c1 c2 c3 c4 c5 c6 c7:Nat):Prop where
 edges:DY φ ⟨c3,0,none⟩=some (.slice t.1 t.2.1 t.2.2)
 num:DY φ ⟨c4,0,none⟩=some (.int .i64 n)
 visit:DY φ ⟨c5,0,none⟩=some (.func (.func 164) #[] (GG c1 c2 c3 c4 c5 c6 c7))
 led:DY φ ⟨c6,0,none⟩=some (.func (.func gl) #[] bl)
 part:DY φ ⟨c7,0,none⟩=some (.func (.func gp) #[] bp)
theorem M1.mono {φ ψ:AD}{t:Slc}{n:Int}{c1 c2 c3 c4 c5 c6 c7:Nat}(H:M1 gl gp bl bp φ t n c1 c2 c3 c4 c5 c6 c7) (hs:Sub φ ψ):M1 gl gp bl bp ψ t n c1 c2 c3 c4 c5 c6 c7:=
 ⟨Al hs H.edges,Al hs H.num,Al hs H.visit,Al hs H.led,Al hs H.part⟩
def Ot (rec:DJ A→Int→Option (DJ A)) (ll:List (List Int)) (n:Int) (t:Slc) (c1 c2 c3 c4 c5 c6 c7:Nat):Prop:=
 ∀ {φ:AD} {h:AH} {F:List Chk} {v:X} {s o:Slc} {stk low stk' low':List Int} {x:Int} {a':A},M1 gl gp bl bp φ t n c1 c2 c3 c4 c5 c6 c7→Ro.SliceIs (eV (bW .i64)) φ t ll→
  rec (low,stk,al v) x=some (low',stk',a')→St φ (Ge c1 c2 s o stk low++(K v++F)) h→
  CallsH bT 164 (((#[]:Array Value) ++ #[cQ .i64 x]) ++GG c1 c2 c3 c4 c5 c6 c7).toList h (Ar fun u h'=>u= .tuple #[] ∧ ∃(ψ:AD) (v':X) (s':Slc),Sub φ ψ∧al v'=a'∧St ψ (Ge c1 c2 s' o stk' low'++(K v'++F)) h')
def EN (g:FuncId):Prop:= ∃fn,Tryz.prog.funcs[g]? =some fn∧(fn.name== "runtime.NumGoroutine")=false∧fn.body.isNone=false∧RR Tryz.prog fn= .tuple []
theorem Pj:EN 164:=⟨Tryz.f164,Tryz.func164,by decide,by kernel_rfl,by kernel_rfl⟩
theorem EN.call {P':BU→AH→Prop}{h:AH}{g:FuncId}{cap args:Array Value}{k:Value→T}(H:EN g) {S:Value→AH→Prop}(hc:CallsH bT g (((#[]:Array Value) ++args) ++cap).toList h (Ar S)) (hk:∀h',S (.tuple #[]) h'→(k (.tuple #[])).wp bT P' h') (hu:∀v h',S v h'→v= .tuple #[]):
 (I0 false bT (.func (.func g) #[] cap) args k).wp bT P' h:=by
 obtain ⟨fn,h1,h2,h3,h4⟩:=H;refine VY h1 h2 h3 h4<|AI hc ?_;intro v h' hS
 have:=hu v h' hS
 subst this;exact ⟨(),rfl,hk h' hS⟩
abbrev N9 (K:X→List Chk) (al:X→A) (c1 c2:Nat) (o:Slc) (F:List Chk) (ψ0:AD) (w:AH) (g:DJ A):Prop:= ∃(ψ:AD) (v:X) (s:Slc),Sub ψ0 ψ∧al v=g.2.2∧St ψ (Ge c1 c2 s o g.2.1 g.1++(K v++F)) w
set_option maxHeartbeats 2000000 in
theorem Qx {ll:List (List Int)}{n:Int}{t:Slc}{c1 c2 c3 c4 c5 c6 c7:Nat}{rec:DJ A→Int→Option (DJ A)}(hl:T6 K al ledA gl bl) (hp:Qw K al partA gp bp) (cl:EN gl) (cp:EN gp)
 (ih:Ot K al gl gp bl bp rec ll n t c1 c2 c3 c4 c5 c6 c7):Ot K al gl gp bl bp (Mw ll n ledA partA rec) ll n t c1 c2 c3 c4 c5 c6 c7:=by
 intro φ h F v s o stk low stk' low' x a' B k hd s0;refine AO mixed Tryz.func164 ?_;rw [show AZ bT Tryz.f164 (((#[]:Array Value) ++ #[cQ .i64 x]) ++GG c1 c2 c3 c4 c5 c6 c7).toList=_ from Kf x c1 c2 c3 c4 c5 c6 c7];unfold Hc;unfold Mw at hd;obtain ⟨stk1,e1,hd⟩:=Option.bind_eq_some_iff.1 hd;obtain ⟨low1,e2,hd⟩:=Option.bind_eq_some_iff.1 hd;obtain ⟨hb,hd⟩:=Br hd;obtain ⟨st3,e3,hd⟩:=Option.bind_eq_some_iff.1 hd;refine AA (b:=c1) (j:=0) (x:=s) s0 rfl<|AV (vs:=[.int .i64 x]) s0 ?_;intro r2 h1 s1;have cw:=eZ s1;have s2:=s1.tail.at1;refine Am (r:=bW .i64) (ms:=[x]) Th s2 rfl cw (.cons (a:=[_]) rfl .nil) rfl e1 ?_;intro s' h2 s3;refine CS (b:=c1) (j:=0) (v:=.slice s'.1 s'.2.1 s'.2.2) s3.at1 rfl (dQ 0) ?_;intro h3 s4;refine AA (b:=c1) (j:=0) (x:=s') s4 rfl<|AA (b:=c2) (j:=0) (x:=o) s4.at2 rfl ?_;have hsl:s'.2.1=stk1.length:=s4.at1.rowLen;have s5:=s4.at3;obtain ⟨a5,ea5,q5⟩:=s5.there e2;rw [hsl];refine AF _ ea5 (AY q5 (FO s5 e2 rfl ea5 ?_));intro h4 s6;have s7:St φ (Ge c1 c2 s' o stk1 low1++(K v++F)) h4:=s6.perm (Az 3 (Ge c1 c2 s' o stk1 low1++(K v++F))).symm;refine AC (x:=t) (Al s7.sub B.edges) rfl<|AC (x:=n) (Al s7.sub B.num) rfl ?_;have hx0:0≤x:=(Dr e2).1;refine AI (T5 k s7 hx0 hb) ?_;rintro _ h5 ⟨ψ1,y,le1,rfl,k1,s8⟩;refine ⟨y,rfl,?_⟩;have ny:=k1.length;refine Ap (fun (z:Int×Unit) w g=>N9 K al c1 c2 o F ψ1 w g) (g:=st3) ?_ ?_
 ·refine CD e3 (fun i (z:Int×Unit) w g=>z.1=i∧N9 K al c1 c2 o F ψ1 w g) ((0:Int),()) rfl ⟨rfl,ψ1,v,s',bX _,rfl,s8⟩ ?_ ?_
  ·rintro i z w g e ⟨hz,ψ,v',s'',le,hal,st⟩ he h0 hlt hw;subst hz;refine Aa (by rw [ny];exact decide_eq_true hlt) ?_;obtain ⟨to,hto,he⟩:=Option.bind_eq_some_iff.1 he;unfold toD at he;obtain ⟨e0,he0,he⟩:=Option.bind_eq_some_iff.1 he;obtain ⟨g1,hg1,he⟩:=Option.bind_eq_some_iff.1 he;obtain ⟨p1,hp1,he⟩:=Option.bind_eq_some_iff.1 he;obtain ⟨q1,hq1,he⟩:=Option.bind_eq_some_iff.1 he;obtain ⟨low2,hlow2,he⟩:=Option.bind_eq_some_iff.1 he;obtain ⟨a2,ha2,he⟩:=Option.bind_eq_some_iff.1 he;obtain rfl:=Option.some.inj he;obtain ⟨A1,cs1,ea1,hi1,r1,cl1⟩:=(k1.mono le).get hto;refine AF _ ea1 (AY hi1 ?_);obtain rfl:=r1;refine AC (x:=to) (Al st.sub (cl1 0 _ rfl)) rfl<|AA (b:=c2) (j:=0) (x:=o) st.at2 rfl ?_;obtain ⟨A2,cs2,ea2,hi2,r2,cl2⟩:=fA (st.at3) he0;refine AF _ ea2 (AY hi2 ?_);obtain rfl:=r2;refine AC (x:=e0) (cl2 0 _ rfl) rfl<|Aj (fun (_:Unit) w g=>N9 K al c1 c2 o F ψ1 w g) (g:=g1) ?_ ?_
   ·refine AK hg1 rfl (fun _ hg=> ?_) (fun _ hg=> ?_)
    ·refine AC (x:=some (.func 164,#[],GG c1 c2 c3 c4 c5 c6 c7)) (Al st.sub (Al (le1.trans le) B.visit)) rfl ?_;obtain ⟨gl1,gs1,ga1⟩:=g1;obtain ⟨gl0,gs0,ga0⟩:=g;dsimp only at hal;subst hal;refine EN.call Pj (ih (M1.mono gl gp bl bp B (le1.trans le)) (k.mono (le1.trans le)) hg st) ?_ (fun _ _ hS=>hS.1);rintro h6 ⟨_,ψ2,v2,s2',le2,hal2,st2⟩;exact AQ () rfl ⟨ψ2,v2,s2',le.trans le2,hal2,st2⟩
    ·obtain rfl:=Option.some.inj hg;exact AQ () rfl ⟨ψ,v',s'',le,hal,st⟩
   ·rintro _ h6 ⟨ψ2,v2,s2',le2,hal2,st2⟩;refine AA (b:=c2) (j:=0) (x:=o) st2.at2 rfl<|AA (b:=c2) (j:=0) (x:=o) st2.at2 rfl ?_;obtain ⟨A3,cs3,ea3,hi3,r3,cl3⟩:=fA (st2.at3) hp1;refine AF _ ea3 (AY hi3 ?_);obtain rfl:=r3;refine AC (x:=p1) (cl3 0 _ rfl) rfl<|AA (b:=c2) (j:=0) (x:=o) st2.at2 rfl ?_;obtain ⟨A4,cs4,ea4,hi4,r4,cl4⟩:=fA (st2.at3) hq1;refine AF _ ea4 (AY hi4 ?_);obtain rfl:=r4;refine AC (x:=q1) (cl4 0 _ rfl) rfl ?_;obtain ⟨A5,ea6,q6⟩:=iQ (st2.at3) hlow2;refine AF _ ea6 (AY q6 (FO (st2.at3) hlow2 rfl ea6 ?_));intro h7 s9;have s10:St ψ2 (Ge c1 c2 s2' o g1.2.1 low2++(K v2++F)) h7:=s9.perm (Az 3 (Ge c1 c2 s2' o g1.2.1 low2++(K v2++F))).symm;refine AC (x:=some (.func gl,#[],bl)) (Al s10.sub (Al (le1.trans le2) B.led)) rfl ?_;rw [←hal2]at ha2;refine EN.call cl (hl ha2 (F:=F++Ge c1 c2 s2' o g1.2.1 low2) (s10.perm (List.perm_append_comm.trans (by rw [bV])))) ?_ (fun _ _ hS=>hS.1);rintro h8 ⟨_,ψ3,v3,le3,hal3,st3'⟩;refine Ad (bU .i64 (z.1+(1:Int)),()) _ rfl rfl ⟨hw,ψ3,v3,s2',le2.trans le3,hal3,?_⟩;exact st3'.perm (by rw [←bV];exact cF)
  ·rintro i z w ⟨hz,ψ,v',s'',le,hal,st⟩ hge;subst hz;refine AT (by rw [ny];exact decide_eq_false (Int.not_lt.2 hge))<|AJ (AL (z.1,()) rfl ⟨ψ,v',s'',le,hal,st⟩)
 ·rintro z h6 ⟨ψ,v',s'',le,hal,st⟩;unfold Tg at hd;obtain ⟨e,he,hd⟩:=Option.bind_eq_some_iff.1 hd;refine AA (b:=c2) (j:=0) (x:=o) st.at2 rfl ?_;obtain ⟨A6,cs6,ea6,hi6,r6,cl6⟩:=fA (st.at3) he;refine AF _ ea6 (AY hi6 ?_);obtain rfl:=r6;refine AC (x:=e) (cl6 0 _ rfl) rfl<|AK hd rfl (fun _ hd=> ?_) (fun _ hd=> ?_)
  ·obtain rfl:=Option.some.inj hd;exact AB ⟨rfl,ψ,v',s'',le1.trans le,hal,st⟩
  ·obtain ⟨⟨hd1,hd2,hd3⟩,hd⟩:=Br hd;obtain ⟨low4,e4,hd⟩:=Option.bind_eq_some_iff.1 hd;obtain ⟨a4,ha4,hd⟩:=Option.bind_eq_some_iff.1 hd;obtain ⟨rfl,hd4⟩:=Prod.mk.inj (Option.some.inj hd);obtain ⟨rfl,rfl⟩:=Prod.mk.inj hd4;obtain ⟨dp,hdp⟩:∃dp:Nat,stk1.length=dp+1:=⟨stk1.length - 1,by omega⟩;have hsub:stk1.length - 1=dp:=by omega
   rw [hsub]at hd2 e4 ha4;rw [hsub];have hw1:bU .i64 ((stk1.length:Int) - (1:Int))=((dp:Nat):Int):=by
    have:stk1.length≤1073741825:=by omega
    rw [SY (by omega) (by omega)];omega
   rw [hw1];have hlen'':s''.2.1=st3.2.1.length:=st.at1.rowLen;have hcap:s''.2.1≤s''.2.2:=by
    obtain ⟨_,_,hsl2,_⟩:=(st.at1).freezeRow;exact hsl2.2.1
   refine AA (b:=c1) (j:=0) (x:=s'') st rfl<|AY ⟨by omega,by omega,by omega⟩ ?_;have hcut:cut st3.2.1 ((dp:Nat):Int) (s''.2.1:Int)=some (st3.2.1.drop dp):=by
    unfold cut;rw [if_pos ⟨by omega,by omega,by omega⟩,cT,cT,hlen'',fP]
   have hpart:∀h',St ψ (Ge c1 c2 s'' o st3.2.1 st3.1++(K v'++F)) h'→ ∃ψ',Sub ψ ψ'∧Sub ψ' (BR h')∧Ro.SliceIs (bW .i64) ψ' ((if s''.2.2=cD ((dp:Nat):Int) then s''.1 else gO (fun x=>hO x (cD ((dp:Nat):Int) *1)) s''.1),cD (s''.2.1:Int) - cD ((dp:Nat):Int),s''.2.2 - cD ((dp:Nat):Int)) (st3.2.1.drop dp):=fun h' H=>by
    obtain ⟨ψ',le',sl,H2⟩:=(H.at1).freezeRow;exact ⟨ψ',le',H2.sub,(sl.cut hcut (sz:=1) rfl).2⟩
   obtain ⟨_,_,_,hsl0⟩:=hpart _ st;have hcl:=LD (t:=((if s''.2.2=cD ((dp:Nat):Int) then s''.1 else gO (fun x=>hO x (cD ((dp:Nat):Int) *1)) s''.1),cD (s''.2.1:Int) - cD ((dp:Nat):Int),s''.2.2 - cD ((dp:Nat):Int))) st hsl0.1 (fun h' H=>by
    obtain ⟨ψ',_,hs',sl⟩:=hpart h' H;obtain ⟨vs,ha,hc⟩:=sl.heap hs';rw [C5 ha]at hc;exact hc) hsl0.2.2.2.1 (by rw [List.length_drop];omega)
   dsimp only at hcl;refine AI hcl ?_;rintro _ h7 ⟨y2,rfl,s9⟩;refine ⟨y2,rfl,?_⟩;have ny2:y2.2.1=(st3.2.1.drop dp).length:=s9.rowLen;refine AA (b:=c1) (j:=0) (x:=s'') s9.at1 rfl<|AY ⟨by omega,by omega,by omega⟩ ?_;have hzero:(if s''.2.2=cD (0:Int) then s''.1 else gO (fun x=>hO x (cD (0:Int) *1)) s''.1)=s''.1:=by
    split
    ·rfl
    ·cases s''.1 with
     |none=>rfl
     |some a=>cases a;rfl
   rw [hzero];refine CS (b:=c1) (j:=0) (v:=.slice s''.1 (cD ((dp:Nat):Int) - cD 0) (s''.2.2 - cD 0)) s9.at1 rfl (dQ 0) ?_;intro h8 s10;have s11:=St.rowTake (s10.at2) (k:=dp) (by omega);have s12:St ψ (⟨cH 3 (bW .i64),[.slice y2.1 y2.2.1 y2.2.2],st3.2.1.drop dp⟩::(Ge c1 c2 (s''.1,dp,s''.2.2) o (st3.2.1.take dp) st3.1++(K v'++F))) h8:=s11.perm ((Az 2 _).trans (cE _ (dD _ _ _)));refine Ap (fun (z:Int×Unit) w g=>St ψ (⟨cH 3 (bW .i64),[.slice y2.1 y2.2.1 y2.2.2],st3.2.1.drop dp⟩::(Ge c1 c2 (s''.1,dp,s''.2.2) o (st3.2.1.take dp) g++(K v'++F))) w) (g:=low4) ?_ ?_
   ·refine CD e4 (fun i (z:Int×Unit) w g=>z.1=i∧St ψ (⟨cH 3 (bW .i64),[.slice y2.1 y2.2.1 y2.2.2],st3.2.1.drop dp⟩::(Ge c1 c2 (s''.1,dp,s''.2.2) o (st3.2.1.take dp) g++(K v'++F))) w) ((0:Int),()) rfl ⟨rfl,s12⟩ ?_ ?_
    ·rintro i z w g e' ⟨hz,st4⟩ he' h0 hlt hw;subst hz;refine Aa (by rw [ny2];exact decide_eq_true hlt) ?_;obtain ⟨y3,hy3,he'⟩:=Option.bind_eq_some_iff.1 he';obtain ⟨A7,cs7,ea7,hi7,r7,cl7⟩:=fA st4 hy3;refine AF _ ea7 (AY hi7 ?_);obtain rfl:=r7;refine AC (x:=y3) (cl7 0 _ rfl) rfl<|AA (b:=c2) (j:=0) (x:=o) st4.at3 rfl ?_;obtain ⟨A8,ea8,q8⟩:=iQ (st4.at4) he';refine AF _ ea8 (AY q8 (FO (st4.at4) he' rfl ea8 ?_));intro h9 s13;refine Ad (bU .i64 (z.1+(1:Int)),()) _ rfl rfl ⟨hw,s13.perm (Az 4 (⟨cH 3 (bW .i64),[.slice y2.1 y2.2.1 y2.2.2],st3.2.1.drop dp⟩::(Ge c1 c2 (s''.1,dp,s''.2.2) o (st3.2.1.take dp) e'++(K v'++F)))).symm⟩
    ·rintro i z w ⟨hz,st4⟩ hge;subst hz;refine AT (by rw [ny2];exact decide_eq_false (Int.not_lt.2 hge))<|AJ (AL (z.1,()) rfl st4)
   ·rintro z2 h9 st5;refine AC (x:=some (.func gp,#[],bp)) (Al st5.sub (Al (le1.trans le) B.part)) rfl ?_;rw [←hal]at ha4;refine EN.call cp (hp ha4 (F:=F++Ge c1 c2 (s''.1,dp,s''.2.2) o (st3.2.1.take dp) low4) (st5.perm (cE _ (List.perm_append_comm.trans (by rw [bV]))))) ?_ (fun _ _ hS=>hS.1);rintro h10 ⟨_,ψ3,v3,le3,hal3,st6⟩;exact AB ⟨rfl,ψ3,v3,(s''.1,dp,s''.2.2),(le1.trans le).trans le3,hal3,st6.perm (by rw [←bV];exact cF)⟩
theorem Pm {ll:List (List Int)}{n:Int}{t:Slc}{c1 c2 c3 c4 c5 c6 c7:Nat}(hl:T6 K al ledA gl bl) (hp:Qw K al partA gp bp) (cl:EN gl) (cp:EN gp):∀f:Nat,Ot K al gl gp bl bp (JO ll n ledA partA f) ll n t c1 c2 c3 c4 c5 c6 c7
 | 0=>fun _ _ hd _=>by cases hd
 |f+1=>Qx K al ledA partA gl gp bl bp hl hp cl cp (Pm hl hp cl cp f)
end
end Go.Proofs.YteolcjbobmpdiaaGreatDoor.Dg
namespace Go.Proofs.YteolcjbobmpdiaaGreatDoor.Dg
open Go Go.Eng
set_option linter.unusedVariables false
theorem OA {ws:List Nat}{x:Int}:∀ {k:Nat},x∈DP ws k↔∃i j:Nat,i<k∧j∈FX (ws[i]?.getD 0)∧x=(i:Int) *64+(j:Int):=by
 intro k
 induction k with
 |zero=>rw [Mz];simp
 |succ k ih=>
  rw [Gd,List.mem_append,ih,List.mem_map];constructor
  ·rintro (⟨i,j,h1,h2,h3⟩|⟨j,h1,h2⟩)
   ·exact ⟨i,j,by omega,h2,h3⟩
   ·exact ⟨k,j,by omega,h1,h2.symm⟩
  ·rintro ⟨i,j,h1,h2,h3⟩;by_cases e:i=k
   ·subst e;exact .inr ⟨j,h2,h3.symm⟩
   ·exact .inl ⟨i,j,by omega,h2,h3⟩
theorem T7 (w:Nat):(FX w).Pairwise (· < ·):=List.pairwise_lt_range.filter _
theorem T8 (ws:List Nat):∀k:Nat,(DP ws k).Pairwise (· < ·):=by
 intro k
 induction k with
 |zero=>rw [Mz];exact .nil
 |succ k ih=>
  rw [Gd,List.pairwise_append];refine ⟨ih,?_,?_⟩
  ·rw [List.pairwise_map];exact (T7 _).imp fun h=>by omega
  ·intro a ha b hb;obtain ⟨i,j,h1,h2,rfl⟩:=OA.1 ha;obtain ⟨j',h3,rfl⟩:=List.mem_map.1 hb
   have:=(Ll.1 h2).1
   omega
theorem Pn (s:AU):(DQ s).Pairwise (· < ·):=T8 _ _
theorem EU {s:AU}(H:OkS s) (x:Int):x∈DQ s↔mem s x=true:=by
 unfold DQ;rw [OA];have hget:∀i:Nat,(s.2.map cD)[i]?.getD 0=(s.2[i]?.getD 0).toNat:=fun i=>by
  rw [fM];cases s.2[i]? <;>rfl
 constructor
 ·rintro ⟨i,j,h1,h2,rfl⟩;rw [hget]at h2;obtain ⟨h3,h4⟩:=Ll.1 h2;rw [show (i:Int) *64+(j:Int)=((i *64+j:Nat):Int) by omega,LE];unfold Il;rw [show (i *64+j) / 64=i by omega,show (i *64+j) % 64=j by omega];exact h4
 ·intro h;obtain ⟨h0,h1⟩:=Lj H h;obtain ⟨k,rfl⟩:∃k:Nat,x=(k:Int):=⟨x.toNat,by omega⟩;rw [LE]at h;have hl:=H.len;refine ⟨k / 64,k % 64,by omega,?_,by omega⟩;rw [hget];exact Ll.2 ⟨iJ _ (by decide),h⟩
theorem Hf {s:AU}(H:OkS s):IZ s=some (DQ s):=by
 unfold IZ DQ;have h1:=H.len;have h2:=H.hi;rw [if_pos ⟨by omega,H.word⟩]
theorem JP {s:AU}(H:OkS s) {x:Int}(h:x∈DQ s):0≤x∧x<s.1:=Lj H ((EU H x).1 h)
theorem Wy:∀(l:List Int) {s:AU},OkS s→l.Pairwise (· < ·)→(∀i∈l,0≤i)→
 OkS (l.foldl He (s,false)).1∧(l.foldl He (s,false)).1.1=s.1∧ ∀j,mem (l.foldl He (s,false)).1 j=(mem s j || (l.contains j && decide (j<s.1))):=by
 intro l
 induction l with
 |nil=>intro s H _ _;exact ⟨H,rfl,fun j=>by simp⟩
 |cons i l ih=>
  intro s H hp h0;rw [eL];have hp':=List.pairwise_cons.1 hp;by_cases hi:s.1≤i
  ·have e:He (s,false) i=(s,true):=by unfold He;rw [if_neg (by simp),if_pos hi]
   rw [e,Ww l rfl];refine ⟨H,rfl,fun j=> ?_⟩
   have:((i::l).contains j && decide (j<s.1))=false:=by
    by_cases hj:j<s.1
    ·have hne:j∉i::l:=by
      intro hm;rcases List.mem_cons.1 hm with h | h
      ·omega
      ·have:=hp'.1 j h;omega
     have:(i::l).contains j=false:=by
      rw [Bool.eq_false_iff];intro hc;exact hne (List.contains_iff_mem.1 hc)
     rw [this];rfl
    ·rw [decide_eq_false hj,gE]
   rw [this,dV]
  ·obtain ⟨s',hd,h1,h2,h3⟩:=add_ok H i;have e:He (s,false) i=(s',false):=by unfold He;rw [if_neg (by simp),if_neg hi,hd];rfl
   rw [e];obtain ⟨g1,g2,g3⟩:=ih h1 hp'.2 fun i hi=>h0 i (List.mem_cons_of_mem _ hi);have hi0:=h0 i (by simp);refine ⟨g1,g2.trans h2,fun j=> ?_⟩;rw [g3,h3,h2,gL];by_cases hj:j=i
   ·subst hj;rw [decide_eq_true (show j=j∧0≤j∧j<s.1 by omega),decide_eq_true (show j<s.1 by omega)];simp
   ·rw [decide_eq_false fun g=>hj g.1,dV,show (j==i)=false by simpa using hj,Bool.false_or]
theorem LF {s o:AU}(H:OkS s) (K:OkS o):OkS (BC s o)∧(BC s o).1=s.1∧ ∀j,mem (BC s o) j=(mem s j || (mem o j && decide (j<s.1))):=by
 obtain ⟨h1,h2,h3⟩:=Wy (DQ o) H (Pn o) fun i hi=>(JP K hi).1;refine ⟨h1,h2,fun j=> ?_⟩;show mem (List.foldl He (s,false) (DQ o)).1 j=_;rw [h3]
 have:(DQ o).contains j=mem o j:=by
  rw [Bool.eq_iff_iff,List.contains_iff_mem,EU K]
 rw [this]
set_option maxRecDepth 100000
section
variable {φ:AD}{h:AH}{F:List Chk}
abbrev AP (ps:List (Option Addr)) (ss:List AU):List Chk:=List.zipWith BM ps ss
theorem IB:∀ {ps:List (Option Addr)}{ss:List AU}{i:Nat}{p:Option Addr}{s:AU},ps[i]? =some p→ss[i]? =some s→
 ∃rest,(AP ps ss).Perm (BM p s::rest)∧ ∀p' s',(AP (ps.set i p') (ss.set i s')).Perm (BM p' s'::rest):=by
 intro ps
 induction ps with
 |nil=>intro ss i p s h;simp at h
 |cons q ps ih=>
  intro ss i p s hp hs;cases ss with
  |nil=>simp at hs
  |cons t ss=>
   cases i with
   |zero=>
    simp only [fQ,Option.some.injEq]at hp hs;subst hp hs;exact ⟨AP ps ss,iK _,fun p' s'=>iK _⟩
   |succ i=>
    obtain ⟨rest,h1,h2⟩:=ih (by simpa using hp) (by simpa using hs);exact ⟨BM q t::rest,(cE _ h1).trans (dD _ _ _),fun p' s'=>(cE _ (h2 p' s')).trans (dD _ _ _)⟩
theorem ED {ps:List (Option Addr)}{ss:List AU}{i:Nat}{p:Option Addr}{s:AU}(hp:ps[i]? =some p) (hs:ss[i]? =some s):
 ∃rest,(AP ps ss).Perm (BM p s::rest)∧ ∀s',(AP ps (ss.set i s')).Perm (BM p s'::rest):=by
 obtain ⟨rest,h1,h2⟩:=IB hp hs;refine ⟨rest,h1,fun s'=> ?_⟩
 have:=h2 p s'
 have e:ps.set i p=ps:=hU fun k=>by
  rw [gY];split
  ·rename_i h
   subst h;rw [hp];split
   ·rfl
   ·rename_i h;rw [cP (by omega)]at hp;cases hp
  ·rfl
 rwa [e]at this
theorem Jo {ps:List (Option Addr)}{ss:List AU}(hl:ps.length=ss.length) (p:Option Addr) (s:AU):AP (ps++ [p]) (ss++ [s])=AP ps ss++ [BM p s]:=by
 unfold AP;rw [gH hl];rfl
def Wz:Ro Unit where
 sz:=0
 is φ cs _:=cs= [] ∧Glob φ
 len h:=by rw [h.1];rfl
 mono hs h:=⟨h.1,h.2.mono hs⟩
 plain h v hv:=by rw [h.1]at hv;cases hv
abbrev T9:Chk:=⟨dP Wz,[],()⟩
theorem Hg (s:St φ (T9::F) h):Glob φ∧St φ F h:=⟨(St.ro s).1.2,(St.ro s).2⟩
theorem M2 (g:Glob φ) (s:St φ F h):St φ (T9::F) h:=St.unro s ⟨rfl,g⟩
structure LG where
 o:Slc
 ps:List (Option Addr)
 ss:List AU
 eq:ps.length=ss.length
abbrev LH (c:Nat) (v:LG):List Chk:=T9::⟨cN 195,[.pointer (some ⟨c,0,none⟩)],[.slice v.o.1 v.o.2.1 v.o.2.2]⟩::⟨cH 139 hZ,[.slice v.o.1 v.o.2.1 v.o.2.2],v.ps⟩::AP v.ps v.ss
noncomputable def M3 (a:List AU) (x to:Int):Option (List AU):=(idx a x).bind fun s=>(idx a to).bind fun o=>need (OkS s∧OkS o)<|DL a x (BC s o)
noncomputable def MM (a:List AU) (l:List Int):Option (List AU):=(idx l 0).bind fun l0=>(forS 0 (((l.drop 1).length:Nat):Int) a fun i a=>(idx (l.drop 1) i).bind fun y=>M3 a l0 y).bind fun a=>forS 0 (((l.drop 1).length:Nat):Int) a fun i a=>(idx (l.drop 1) i).bind fun y=>(idx a l0).bind fun s=>(CU s).bind fun s=>DL a y s
theorem IC {α β:Type}{ps:List α}{ss:List β}(hl:ps.length=ss.length) {i:Int}{s:β}(h:idx ss i=some s):0≤i∧ss[i.toNat]? =some s∧ ∃p,ps[i.toNat]? =some p∧idx ps i=some p:=by
 obtain ⟨h0,h1,h2⟩:=CL h;have hlt:i.toNat<ps.length:=by omega
 exact ⟨h0,h2,ps[i.toNat],bR hlt,by rw [Jl h0 hlt]⟩
theorem Pp {c:Nat}{v:LG}{x to:Int}{s o:AU}{p q:Option Addr}(hs:v.ss[x.toNat]? =some s) (ho:v.ss[to.toNat]? =some o) (hp:v.ps[x.toNat]? =some p) (hq:v.ps[to.toNat]? =some q) (ks:OkS s) (ko:OkS o)
 (s0:St φ (LH c v++F) h):CallsH bT 139 [.pointer p,.pointer q] h (Ar fun u h'=>∃(ψ:AD) (g:Bool),Sub φ ψ∧u=((.one aB):Sh).val g∧
  ∀v':LG,v'.o=v.o→v'.ps=v.ps→v'.ss=v.ss.set x.toNat (BC s o)→St ψ (LH c v'++F) h'):=by
 obtain ⟨g,s1⟩:=Hg s0;obtain ⟨r1,a1,a2⟩:=ED hp hs;obtain ⟨r2,b1,_⟩:=ED hq ho;obtain ⟨B,hB⟩:∃B:List Chk,B= [⟨cN 195,[.pointer (some ⟨c,0,none⟩)],[.slice v.o.1 v.o.2.1 v.o.2.2]⟩,⟨cH 139 hZ,[.slice v.o.1 v.o.2.1 v.o.2.2],v.ps⟩]:=⟨_,rfl⟩;have s2:St φ (B++(AP v.ps v.ss++F)) h:=by rw [hB];exact s1
 have mv:∀(p:Option Addr) (s:AU) (r:List Chk) (L:List Chk),L.Perm (BM p s::r)→(B++(L++F)).Perm (BM p s::(B++(r++F))):=fun p s r L hL=>((eA B (cC F hL)).trans dE);have s3:=s2.perm (mv p s r1 _ a1);have hpm:=(mv p s r1 _ a1).symm.trans (mv q o r2 _ b1);refine (Sb g ks ko hpm s3).mono ?_;rintro e h' ⟨u,rfl,ψ,gr,le,rfl,s4⟩;refine ⟨_,rfl,ψ,gr,le,rfl,?_⟩;rintro ⟨o',ps',ss',eq'⟩ rfl rfl rfl;refine M2 (g.mono le) ?_;have s5:=s4.perm (mv p (BC s o) r1 _ (a2 _)).symm;rw [hB]at s5;exact s5
theorem Qy {c:Nat}{v:LG}{x to:Int}{a':List AU}(hd:M3 v.ss x to=some a') (s0:St φ (LH c v++F) h):
 CallsH bT 142 [.int .i64 x,.int .i64 to,.pointer (some ⟨c,0,none⟩)] h (Ar fun u h'=>u= .tuple #[] ∧ ∃(ψ:AD) (v':LG),Sub φ ψ∧v'.ss=a'∧St ψ (LH c v'++F) h'):=by
 unfold M3 at hd;obtain ⟨s,hs,hd⟩:=Option.bind_eq_some_iff.1 hd;obtain ⟨o,ho,hd⟩:=Option.bind_eq_some_iff.1 hd;obtain ⟨⟨ks,ko⟩,hd⟩:=Br hd;obtain ⟨_,hs1,p,hp,hp'⟩:=IC v.eq hs;obtain ⟨_,ho1,q,hq,hq'⟩:=IC v.eq ho;refine AO mixed Tryz.func142 ?_;rw [J4];unfold G1;have s1:=(Hg s0).2;refine AA (b:=c) (j:=0) (x:=v.o) s1 rfl ?_;obtain ⟨A1,cs1,ea1,hi1,r1,cl1⟩:=fA (s1.at1) hp';refine AF _ ea1 (AY hi1 ?_);obtain rfl:=r1;refine AC (x:=p) (cl1 0 _ rfl) rfl<|AA (b:=c) (j:=0) (x:=v.o) s1 rfl ?_;obtain ⟨A2,cs2,ea2,hi2,r2,cl2⟩:=fA (s1.at1) hq';refine AF _ ea2 (AY hi2 ?_);obtain rfl:=r2;refine AC (x:=q) (cl2 0 _ rfl) rfl<|AI (Pp hs1 ho1 hp hq ks ko s0) ?_;rintro _ h1 ⟨ψ,g,le,rfl,H⟩;refine ⟨g,rfl,?_⟩;obtain ⟨h0,h1',rfl⟩:=Dr hd;exact AB ⟨rfl,ψ,⟨v.o,v.ps,v.ss.set x.toNat (BC s o),by rw [eJ];exact v.eq⟩,le,rfl,H _ rfl rfl rfl⟩
set_option maxHeartbeats 1000000 in
theorem Qz {c:Nat}{v:LG}{t:Slc}{l:List Int}{a':List AU}(hd:MM v.ss l=some a') (s0:St φ (⟨cH 3 (bW .i64),[.slice t.1 t.2.1 t.2.2],l⟩::(LH c v++F)) h):
 CallsH bT 144 [.slice t.1 t.2.1 t.2.2,.pointer (some ⟨c,0,none⟩)] h (Ar fun u h'=>u= .tuple #[] ∧ ∃(ψ:AD) (v':LG),Sub φ ψ∧v'.ss=a'∧St ψ (LH c v'++F) h'):=by
 unfold MM at hd;obtain ⟨l0,hl0,hd⟩:=Option.bind_eq_some_iff.1 hd;obtain ⟨a1,ha1,hd⟩:=Option.bind_eq_some_iff.1 hd;obtain ⟨ψ0,le0,k0,s1⟩:=s0.freezeRow;have hlen:=k0.length;obtain ⟨_,hl1,_⟩:=CL hl0;have hcut:cut l 1 (t.2.1:Int)=some (l.drop 1):=by
  unfold cut;rw [if_pos ⟨by omega,by omega,by omega⟩,cT,hlen,fP];rfl
 obtain ⟨q1,kt⟩:=k0.cut hcut (sz:=1) rfl;refine AO mixed Tryz.func144 ?_;rw [J5];unfold G2;refine AY q1 ?_;have ntl:=kt.length;dsimp only at ntl;refine Ap (fun (z:Int×Unit) w (g:List AU)=>∃(ψ:AD) (v':LG),Sub ψ0 ψ∧v'.ss=g∧St ψ (LH c v'++F) w) (g:=a1) ?_ ?_
 ·refine CD ha1 (fun i (z:Int×Unit) w g=>z.1=i∧ ∃(ψ:AD) (v':LG),Sub ψ0 ψ∧v'.ss=g∧St ψ (LH c v'++F) w) ((0:Int),()) rfl ⟨rfl,ψ0,v,bX _,rfl,s1⟩ ?_ ?_
  ·rintro i z w g e ⟨hz,ψ,v',le,hal,st⟩ he h0 hlt hw;subst hz;subst hal;refine Aa (by rw [ntl];exact decide_eq_true hlt) ?_;obtain ⟨y,hy,he⟩:=Option.bind_eq_some_iff.1 he;obtain ⟨A1,cs1,ea1,hi1,r1,cl1⟩:=(kt.mono le).get hy;refine AF _ ea1 (AY hi1 ?_);obtain rfl:=r1;refine AC (x:=y) (Al st.sub (cl1 0 _ rfl)) rfl ?_;unfold M3 at he;obtain ⟨s,hs,he⟩:=Option.bind_eq_some_iff.1 he;obtain ⟨o,ho,he⟩:=Option.bind_eq_some_iff.1 he;obtain ⟨⟨ks,ko⟩,he⟩:=Br he;obtain ⟨_,hs1,p,hp,hp'⟩:=IC v'.eq hs;obtain ⟨_,ho1,q,hq,hq'⟩:=IC v'.eq ho;have st1:=(Hg st).2;refine AA (b:=c) (j:=0) (x:=v'.o) st1 rfl ?_;obtain ⟨A0,cs0,ea0,hi0,r0,cl0⟩:=(k0.mono le).get hl0;refine AF _ ea0 (AY hi0 ?_);obtain rfl:=r0;refine AC (x:=l0) (Al st.sub (cl0 0 _ rfl)) rfl ?_;obtain ⟨A2,cs2,ea2,hi2,r2,cl2⟩:=fA (st1.at1) hp';refine AF _ ea2 (AY hi2 ?_);obtain rfl:=r2;refine AC (x:=p) (cl2 0 _ rfl) rfl<|AA (b:=c) (j:=0) (x:=v'.o) st1 rfl ?_;obtain ⟨A3,cs3,ea3,hi3,r3,cl3⟩:=fA (st1.at1) hq';refine AF _ ea3 (AY hi3 ?_);obtain rfl:=r3;refine AC (x:=q) (cl3 0 _ rfl) rfl<|AI (Pp hs1 ho1 hp hq ks ko st) ?_;rintro _ h1 ⟨ψ2,g2,le2,rfl,H⟩;refine ⟨g2,rfl,?_⟩;obtain ⟨h0',h1',rfl⟩:=Dr he;exact Ad (bU .i64 (z.1+(1:Int)),()) _ rfl rfl ⟨hw,ψ2,⟨v'.o,v'.ps,v'.ss.set l0.toNat (BC s o),by rw [eJ];exact v'.eq⟩,le.trans le2,rfl,H _ rfl rfl rfl⟩
  ·rintro i z w ⟨hz,H⟩ hge;subst hz;refine AT (by rw [ntl];exact decide_eq_false (Int.not_lt.2 hge))<|AJ (AL (z.1,()) rfl H)
 ·rintro _ h2 ⟨ψ1,v1,le1,rfl,st1⟩;refine AY q1<|Ap (fun (z:Int×Unit) w (g:List AU)=>∃(ψ:AD) (v':LG),Sub ψ1 ψ∧v'.ss=g∧St ψ (LH c v'++F) w) (g:=a') ?_ ?_
  ·refine CD hd (fun i (z:Int×Unit) w g=>z.1=i∧ ∃(ψ:AD) (v':LG),Sub ψ1 ψ∧v'.ss=g∧St ψ (LH c v'++F) w) ((0:Int),()) rfl ⟨rfl,ψ1,v1,bX _,rfl,st1⟩ ?_ ?_
   ·rintro i z w g e ⟨hz,ψ,v',le',hal,st⟩ he h0 hlt hw;have le:=le1.trans le';subst hz;subst hal;refine Aa (by rw [ntl];exact decide_eq_true hlt) ?_;obtain ⟨y,hy,he⟩:=Option.bind_eq_some_iff.1 he;obtain ⟨A1,cs1,ea1,hi1,r1,cl1⟩:=(kt.mono le).get hy;refine AF _ ea1 (AY hi1 ?_);obtain rfl:=r1;refine AC (x:=y) (Al st.sub (cl1 0 _ rfl)) rfl ?_;obtain ⟨s,hs,he⟩:=Option.bind_eq_some_iff.1 he;obtain ⟨s',hs',he⟩:=Option.bind_eq_some_iff.1 he;obtain ⟨_,hs1,p,hp,hp'⟩:=IC v'.eq hs;obtain ⟨g0,st2⟩:=Hg st;refine AA (b:=c) (j:=0) (x:=v'.o) st2 rfl<|AA (b:=c) (j:=0) (x:=v'.o) st2 rfl ?_;obtain ⟨A0,cs0,ea0,hi0,r0,cl0⟩:=(k0.mono le).get hl0;refine AF _ ea0 (AY hi0 ?_);obtain rfl:=r0;refine AC (x:=l0) (Al st.sub (cl0 0 _ rfl)) rfl ?_;obtain ⟨A2,cs2,ea2,hi2,r2,cl2⟩:=fA (st2.at1) hp';refine AF _ ea2 (AY hi2 ?_);obtain rfl:=r2;refine AC (x:=p) (cl2 0 _ rfl) rfl ?_;obtain ⟨rr,a1',a2'⟩:=ED hp hs1;obtain ⟨B,hB⟩:∃B:List Chk,B= [⟨cN 195,[.pointer (some ⟨c,0,none⟩)],[.slice v'.o.1 v'.o.2.1 v'.o.2.2]⟩,⟨cH 139 hZ,[.slice v'.o.1 v'.o.2.1 v'.o.2.2],v'.ps⟩]:=⟨_,rfl⟩;have st3:St ψ (B++(AP v'.ps v'.ss++F)) w:=by rw [hB];exact st2
    have mv:(B++(AP v'.ps v'.ss++F)).Perm (BM p s::(B++(rr++F))):=(eA B (cC F a1')).trans dE;refine AI (J8 (st3.perm mv) hs') ?_;rintro _ h3 ⟨ψ2,p2,s2,le2,rfl,rfl,st4⟩;refine ⟨p2,rfl,?_⟩;have st5:St ψ2 (BM p2 s2::(B++(AP v'.ps v'.ss++F))) h3:=st4.perm (cE _ mv.symm);have st6:St ψ2 (⟨cN 195,[.pointer (some ⟨c,0,none⟩)],[.slice v'.o.1 v'.o.2.1 v'.o.2.2]⟩::⟨cH 139 hZ,[.slice v'.o.1 v'.o.2.1 v'.o.2.2],v'.ps⟩::BM p2 s2::(AP v'.ps v'.ss++F)) h3:=by
     rw [hB]at st5;exact st5.perm ((dD _ _ _).trans (cE _ (dD _ _ _)))
    refine AM (st6.cell rfl) ?_;obtain ⟨y0,y1,rfl⟩:=Dr he;have hyl:y.toNat<v'.ps.length:=by have:=v'.eq;omega
    have hset:DL v'.ps y p2=some (v'.ps.set y.toNat p2):=by unfold DL;rw [if_pos ⟨y0,by have:=v'.eq;omega⟩]
    obtain ⟨A4,ea4,q4⟩:=iQ (st6.at1) hset;refine AF _ ea4 (AY q4 (FO (st6.at1) hset (v:=.pointer p2) rfl ea4 ?_));intro h4 st7;have hyp:v'.ps[y.toNat]? =some v'.ps[y.toNat]:=bR hyl;have hys:v'.ss[y.toNat]? =some (v'.ss[y.toNat]'(by have:=v'.eq;omega)):=bR _;obtain ⟨r3,c1,c2⟩:=IB hyp hys;refine Ad (bU .i64 (z.1+(1:Int)),()) _ rfl rfl ⟨hw,ψ2,⟨v'.o,v'.ps.set y.toNat p2,v'.ss.set y.toNat s2,by rw [eJ,eJ];exact v'.eq⟩,le'.trans le2,rfl,?_⟩;refine M2 (g0.mono le2) ?_;have st8:St ψ2 (BM p2 s2::(AP v'.ps v'.ss++(⟨cN 195,[.pointer (some ⟨c,0,none⟩)],[.slice v'.o.1 v'.o.2.1 v'.o.2.2]⟩::⟨cH 139 hZ,[.slice v'.o.1 v'.o.2.1 v'.o.2.2],v'.ps.set y.toNat p2⟩::F))) h4:=by
     refine st7.perm<|((cE _ (dD _ _ _)).trans (dD _ _ _)).trans (cE _ ?_);refine (fB ?_ (dE (l₁:=AP v'.ps v'.ss)).symm);refine (fB (dD _ _ _) (cE _ ?_));exact (dE (l₁:=AP v'.ps v'.ss)).symm
    have st9:=st8.perm (cE _ (cC _ c1));have st10:=(st9.at 1).tail;have st11:=st10.perm (((cC _ (c2 p2 s2)).symm:(BM p2 s2::r3++_).Perm _));refine st11.perm<|(dE (l₁:=AP _ _)).trans (cE _ (dE (l₁:=AP _ _)))
   ·rintro i z w ⟨hz,H⟩ hge;subst hz;refine AT (by rw [ntl];exact decide_eq_false (Int.not_lt.2 hge))<|AJ (AL (z.1,()) rfl H)
  ·rintro _ h3 ⟨ψ2,v2,le2,hal2,st3⟩;exact AB ⟨rfl,ψ2,v2,(le0.trans le1).trans le2,hal2,st3⟩
end
theorem St.box {φ:AD}{h:AH}{Γ:List Chk}{ty:TypeId}{b:Nat}{v:Value}(H:St φ (⟨cN ty,[.pointer (some ⟨b,0,none⟩)],[v]⟩::Γ) h):∃ψ,Sub φ ψ∧DY ψ ⟨b,0,none⟩=some v∧St ψ Γ h:=by
 obtain ⟨ψ,F,le,⟨b',e,hb,hF⟩,hk,s⟩:=St.hide H;cases e;refine ⟨ψ,le,?_,s⟩
 have:=hk b ((hF b).2 rfl)
 unfold DY;dsimp only;rw [this,hb];rfl
noncomputable def WO (vl vp:Value) (edges_0_p:Option Addr) (edges_0_n edges_0_c:Nat) (n_1:Int):T:=aD #[(.slice edges_0_p edges_0_n edges_0_c)] 97 fun r1=>aD #[(.int .i64 n_1)] 3 fun r2=>aD #[vl] 228 fun r3=>aD #[vp] 217 fun r4=>aR r2 0 fun t5=>T.sem (Instr.makeSlice 30 (.int .i64 t5) (.int .i64 t5)) (.one aS) fun (t6:Slc)=>aD #[(.slice none 0 0)] 30 fun r7=>aN r7 0 (.slice t6.1 t6.2.1 t6.2.2)<|aD #[(.slice none 0 0)] 30 fun r8=>aD #[.nilFunc] 249 fun r9=>aN r9 0 (.func (.func 164) #[] #[(.pointer (some ⟨r8,0,none⟩)),(.pointer (some ⟨r7,0,none⟩)),(.pointer (some ⟨r1,0,none⟩)),(.pointer (some ⟨r2,0,none⟩)),(.pointer (some ⟨r9,0,none⟩)),(.pointer (some ⟨r3,0,none⟩)),(.pointer (some ⟨r4,0,none⟩))])<|aR r2 0 fun t10=>T.block 0 [aI] (T.loop [aI] [(.int .i64 0)] fun (z12:Int×Unit)=>cond (decide (z12.1<t10)) (aA r7 0 fun t13=>deref t13.1 fun a14=>chk (0≤z12.1∧z12.1< (t13.2.1:Nat))<|aJ a14 z12.1 1 fun t15=>T.join [] (cond (t15==(0:Int)) (T.load .func ⟨r9,0,none⟩ fun (t17:Option (Fn×Array Value×Array Value))=>I0 false bT (BT.val .func t17) #[(.int .i64 z12.1)] fun (t18:Value)=>T.out []) (T.out [])) fun (z16:Unit)=>T.out [(.int .i64 (bU .i64 (z12.1+(1:Int))))]) (T.brk 0 [(.int .i64 z12.1)])) fun (z11:Int×Unit)=>T.ret (.tuple #[])
theorem Xf:N4 bT 30 3 (.int .i64 0):=⟨eB,⟨iV,by kernel_rfl,rfl,⟨_,rfl,rfl⟩,by decide⟩⟩
section
variable {X A:Type}(K:X→List Chk) (al:X→A) (ledA:A→Int→Int→Option A) (partA:A→List Int→Option A) (gl gp:Nat) (bl bp:Array Value)
set_option maxHeartbeats 1000000 in
theorem UA {φ:AD}{h:AH}{F:List Chk}{ll:List (List Int)}{n:Int}{t:Slc}{fuel:Nat}{v:X}{st':DJ A}(hl:T6 K al ledA gl bl) (hp:Qw K al partA gp bp) (cl:EN gl) (cp:EN gp)
 (hden:AZ bT Tryz.f143 [.slice t.1 t.2.1 t.2.2,.int .i64 n,.func (.func gl) #[] bl,.func (.func gp) #[] bp] =WO (.func (.func gl) #[] bl) (.func (.func gp) #[] bp) t.1 t.2.1 t.2.2 n)
 (k:Ro.SliceIs (eV (bW .i64)) φ t ll) (hd:N6 ll n ledA partA fuel (al v)=some st') (s0:St φ (K v++F) h):
 CallsH bT 143 [.slice t.1 t.2.1 t.2.2,.int .i64 n,.func (.func gl) #[] bl,.func (.func gp) #[] bp] h (Ar fun u h'=>u= .tuple #[] ∧ ∃(ψ:AD) (v':X),Sub φ ψ∧al v'=st'.2.2∧St ψ (K v'++F) h'):=by
 refine AO mixed Tryz.func143 ?_;rw [hden];unfold WO;unfold N6 at hd;obtain ⟨⟨hn0,hn1⟩,hd⟩:=Br hd;refine AV (vs:=[.slice t.1 t.2.1 t.2.2]) s0 ?_;intro r1 h1 s1;obtain ⟨φ1,le1,c1,s1⟩:=St.box s1;refine AV (vs:=[.int .i64 n]) s1 ?_;intro r2 h2 s2;obtain ⟨φ2,le2,c2,s2⟩:=St.box s2;refine AV (vs:=[.func (.func gl) #[] bl]) s2 ?_;intro r3 h3 s3;obtain ⟨φ3,le3,c3,s3⟩:=St.box s3;refine AV (vs:=[.func (.func gp) #[] bp]) s3 ?_;intro r4 h4 s4;obtain ⟨φ4,le4,c4,s4⟩:=St.box s4;refine AC (x:=n) (Al s4.sub (Al (le3.trans le4) c2)) rfl<|FA (r:=bW .i64) (x:=(0:Int)) (l:=dM n.toNat 0) Xf s4 rfl rfl (by unfold Dw;rw [if_pos ⟨hn0,hn1⟩]) ?_;intro o h5 s5;refine AV (vs:=[.slice none 0 0]) s5 ?_;intro r7 h6 s6;refine CS (b:=r7) (j:=0) (v:=.slice o.1 o.2.1 o.2.2) s6 rfl (dQ 0) ?_;intro h7 s7;refine AV (vs:=[.slice none 0 0]) s7 ?_;intro r8 h8 s8;refine AV (vs:=[.nilFunc]) s8 ?_;intro r9 h9 s9;refine CS (b:=r9) (j:=0) (v:=.func (.func 164) #[] (GG r8 r7 r1 r2 r9 r3 r4)) s9 rfl (dQ 0) ?_;intro h10 s10;obtain ⟨φ5,le5,c9,s11⟩:=St.box s10;have B:M1 gl gp bl bp φ5 t n r8 r7 r1 r2 r9 r3 r4:=⟨Al (((le2.trans le3).trans le4).trans le5) c1,Al ((le3.trans le4).trans le5) c2,c9,Al (le4.trans le5) c3,Al le5 c4⟩;have le0:Sub φ φ5:=(((le1.trans le2).trans le3).trans le4).trans le5;have s12:St φ5 (Ge r8 r7 (none,0,0) o [] (dM n.toNat 0) ++(K v++F)) h10:=by
  have:=iU 3 (bW .i64) s11
  exact this.at1
 refine AC (x:=n) (Al s12.sub B.num) rfl<|Ap (fun (z:Int×Unit) w g=>N9 K al r8 r7 o F φ5 w g) (g:=st') ?_ ?_
 ·refine CD hd (fun i (z:Int×Unit) w g=>z.1=i∧N9 K al r8 r7 o F φ5 w g) ((0:Int),()) rfl ⟨rfl,φ5,v,(none,0,0),bX _,rfl,s12⟩ ?_ ?_
  ·rintro i z w g e ⟨hz,ψ,v',s'',le,hal,st⟩ he h0 hlt hw;subst hz;refine Aa (decide_eq_true hlt) ?_;obtain ⟨e0,he0,he⟩:=Option.bind_eq_some_iff.1 he;refine AA (b:=r7) (j:=0) (x:=o) st.at2 rfl ?_;obtain ⟨A2,cs2,ea2,hi2,q2,cl2⟩:=fA (st.at3) he0;refine AF _ ea2 (AY hi2 ?_);obtain rfl:=q2;refine AC (x:=e0) (cl2 0 _ rfl) rfl<|Aj (fun (_:Unit) w g=>N9 K al r8 r7 o F φ5 w g) (g:=e) ?_ ?_
   ·refine AK he rfl (fun _ hg=> ?_) (fun _ hg=> ?_)
    ·refine AC (x:=some (.func 164,#[],GG r8 r7 r1 r2 r9 r3 r4)) (Al st.sub (Al le B.visit)) rfl ?_;obtain ⟨gl1,gs1,ga1⟩:=e;obtain ⟨gl0,gs0,ga0⟩:=g;dsimp only at hal;subst hal;refine EN.call Pj (Pm K al ledA partA gl gp bl bp hl hp cl cp fuel (M1.mono gl gp bl bp B le) (k.mono (le0.trans le)) hg st) ?_ (fun _ _ hS=>hS.1);rintro h6 ⟨_,ψ2,v2,s2',le2,hal2,st2⟩;exact AQ () rfl ⟨ψ2,v2,s2',le.trans le2,hal2,st2⟩
    ·obtain rfl:=Option.some.inj hg;exact AQ () rfl ⟨ψ,v',s'',le,hal,st⟩
   ·rintro _ h6 H;exact Ad (bU .i64 (z.1+(1:Int)),()) _ rfl rfl ⟨hw,H⟩
  ·rintro i z w ⟨hz,H⟩ hge;subst hz;refine AT (decide_eq_false (Int.not_lt.2 hge))<|AJ (AL (z.1,()) rfl H)
 ·rintro z h11 ⟨ψ,v',s'',le,hal,st⟩;exact AB ⟨rfl,ψ,v',le0.trans le,hal,st.tail.tail.tail.tail⟩
end
theorem UB:EN 142:=⟨Tryz.f142,Tryz.func142,by decide,by kernel_rfl,by kernel_rfl⟩
theorem UC:EN 144:=⟨Tryz.f144,Tryz.func144,by decide,by kernel_rfl,by kernel_rfl⟩
theorem Sc {φ:AD}{h:AH}{F:List Chk}{ll:List (List Int)}{n:Int}{t:Slc}{fuel:Nat}{c:Nat}{v:LG}{st':DJ (List AU)}(k:Ro.SliceIs (eV (bW .i64)) φ t ll) (hd:N6 ll n M3 MM fuel v.ss=some st') (s0:St φ (LH c v++F) h):
 CallsH bT 143 [.slice t.1 t.2.1 t.2.2,.int .i64 n,.func (.func 142) #[] #[.pointer (some ⟨c,0,none⟩)],.func (.func 144) #[] #[.pointer (some ⟨c,0,none⟩)]] h (Ar fun u h'=>u= .tuple #[] ∧ ∃(ψ:AD) (v':LG),Sub φ ψ∧v'.ss=st'.2.2∧St ψ (LH c v'++F) h'):=
 UA (LH c) LG.ss M3 MM 142 144 #[.pointer (some ⟨c,0,none⟩)] #[.pointer (some ⟨c,0,none⟩)] (fun hd s=>Qy hd s) (fun hd s=>Qz hd s) UB UC (Ke _ _ _ _ _ _) k hd s0
end Go.Proofs.YteolcjbobmpdiaaGreatDoor.Dg
namespace Go.Proofs.YteolcjbobmpdiaaGreatDoor
open Go Go.Eng
set_option linter.unusedVariables false
set_option maxRecDepth 100000
noncomputable def Gf (s_0:Ci):Option Int:=some (s_0.1)
theorem FY {φ:AD}{h:AH}{F:List Chk}{s_0:Option Addr}{a:Ci}(s0:St φ (cO 239 Dx s_0 a::F) h) {r:Int}(hd:Gf a=some r):
 CallsH bT 141 [(.pointer s_0)] h (Ar fun v h'=>∃ψ:AD,∃y:Int,Sub φ ψ∧v=((.one aI):Sh).val y∧y=r∧St ψ (cO 239 Dx s_0 a::F) h'):=by
 refine AO mixed Tryz.func141 ?_;rw [JG];unfold GZ;unfold Gf at hd;obtain ⟨d,e,rfl,b⟩:=Ku s0;refine AF _ rfl<|AA (x:=(a.1)) b.at1 rfl ?_;obtain rfl:=iS hd;exact AB ⟨φ,(a.1),(bX _),rfl,rfl,(H0 (x0:=(a.1)) b.at1.at1)⟩
end Go.Proofs.YteolcjbobmpdiaaGreatDoor
namespace Go.Proofs.YteolcjbobmpdiaaGreatDoor.Dg
open Go Go.Eng
set_option linter.unusedVariables false
set_option maxRecDepth 100000
section
variable {φ:AD}{h:AH}{F:List Chk}
theorem OB:HG bT 195 195 139 1:=⟨gP,.inl gP,⟨Tryz.t139,by kernel_rfl,rfl,⟨_,rfl,rfl⟩,by decide,by decide⟩,by decide⟩
theorem Rf:HG bT 97 97 30 1:=⟨iA,.inl iA,⟨Tryz.t30,by kernel_rfl,rfl,⟨_,rfl,rfl⟩,by decide,by decide⟩,by decide⟩
abbrev EW (t:Slc) (ps:List (Option Addr)):Chk:=⟨cH 139 hZ,[.slice t.1 t.2.1 t.2.2],ps⟩
abbrev Q0 (t:Slc) (ls:List (List Int)):Chk:=⟨cH 30 (eV (bW .i64)),[.slice t.1 t.2.1 t.2.2],ls⟩
theorem JQ {α β:Type}{l l':List α}{x:α}(h:app l [x] =some l') {m:List β}(hm:m.length=l.length) (y:β):app m [y] =some (m++ [y])∧l'=l++ [x]:=by
 obtain ⟨h1,h2⟩:=Mj h;refine ⟨?_,h2⟩;unfold app;simp at h1 ⊢;omega
theorem M4 {ps:List (Option Addr)}{ss:List AU}{t:Slc}{p:Option Addr}{s:AU}(hl:ps.length=ss.length) (H:St φ (EW t (ps++ [p])::BM p s::(AP ps ss++F)) h):St φ (EW t (ps++ [p])::(AP (ps++ [p]) (ss++ [s]) ++F)) h:=by
 rw [Jo hl,bV];exact H.perm (cE _ (dE (l₁:=AP ps ss)).symm)
theorem Gg {ps:List (Option Addr)}{ss:List AU}{i:Nat}{p:Option Addr}{s:AU}(hp:ps[i]? =some p) (hs:ss[i]? =some s) (H:St φ (AP ps ss++F) h):
 ∃r,St φ (BM p s::(r++F)) h∧ ∀(ψ:AD) (h':AH) (Γ:List Chk),St ψ (Γ++BM p s::(r++F)) h'→St ψ (Γ++(AP ps ss++F)) h':=by
 obtain ⟨r,a1,_⟩:=ED hp hs;exact ⟨r,H.perm (cC F a1),fun ψ h' Γ H'=>H'.perm (eA Γ (cC F a1).symm)⟩
theorem WP (A B C:List Chk):(A++(B++C)).Perm (B++(A++C)):=by
 rw [←bV,←bV];exact cC _ cF
theorem LI {p:Option Addr}{s:AU}(gk:Glob φ) (s0:St φ (BM p s::F) h) {r:List Int}(hd:IZ s=some r):
 CallsH bT 70 [.pointer p] h (Ar fun v h'=>∃(ψ:AD) (y:Slc),Sub φ ψ∧v=((.one aS):Sh).val y∧Ro.SliceIs (bW .i64) ψ y r∧St ψ (BM p s::F) h'):=by
 refine (T1 gk s0 hd).mono ?_;rintro e h' ⟨v,rfl,ψ,y,l,le,rfl,rfl,s1⟩;obtain ⟨ψ2,le2,k2,s2⟩:=s1.freezeRow;exact ⟨_,rfl,ψ2,y,le.trans le2,rfl,k2,s2⟩
noncomputable def HN (ll:List (List Int)) (B:List AU):Option (List AU):=(forS 0 (B.length:Int) 0 fun i w=>(idx B i).bind fun s=>some (if s.1>w then s.1 else w)).bind fun wide=>(forS 0 (B.length:Int) ([]:List AU) fun i acc=>(idx B i).bind fun s=>(IZ s).bind fun l=>(Cd wide l).bind fun s'=>app acc [s']).bind fun all=>(N6 ll (B.length:Int) M3 MM B.length all).bind fun st=>forS 0 (B.length:Int) ([]:List AU) fun i acc=>(idx B i).bind fun s=>(idx st.2.2 i).bind fun a=>(IZ a).bind fun l=>(Cd s.1 l).bind fun s'=>app acc [s']
set_option maxHeartbeats 1000000 in
theorem OC {t b:Slc}{ll:List (List Int)}{B:List AU}{ps:List (Option Addr)}(gk:Glob φ) (k:Ro.SliceIs (eV (bW .i64)) φ t ll) (kb:Ro.SliceIs hZ φ b ps) (hl:ps.length=B.length) (s0:St φ (AP ps B++F) h) {r:List AU}(hd:HN ll B=some r):
 CallsH bT 111 [.slice t.1 t.2.1 t.2.2,.slice b.1 b.2.1 b.2.2] h (Ar fun v h'=>∃(ψ:AD) (y:Slc) (qs:List (Option Addr)),Sub φ ψ∧v=((.one aS):Sh).val y∧qs.length=r.length∧St ψ (EW y qs::(AP qs r++(AP ps B++F))) h'):=by
 refine AO mixed Tryz.func111 ?_;rw [K2];unfold IY;unfold HN at hd;obtain ⟨wide,hw1,hd1⟩:=Option.bind_eq_some_iff.1 hd;clear hd;obtain ⟨all,ha1,hd2⟩:=Option.bind_eq_some_iff.1 hd1;clear hd1;obtain ⟨st',hk1,hd3⟩:=Option.bind_eq_some_iff.1 hd2;clear hd2;have nb:b.2.1=B.length:=kb.length.trans hl;refine Ap (fun (z:Int×Int×Unit) w (g:Int)=>z.2.1=g∧ ∃ψ,Sub φ ψ∧St ψ (AP ps B++F) w) (g:=wide) ?_ ?_
 ·refine CD hw1 (fun i (z:Int×Int×Unit) w (g:Int)=>z.1=i∧z.2.1=g∧ ∃ψ,Sub φ ψ∧St ψ (AP ps B++F) w) ((0:Int),(0:Int),()) rfl ⟨rfl,rfl,φ,bX _,s0⟩ ?_ ?_
  ·rintro i z w g e ⟨hz,hg,ψ,le,st⟩ he h0 hlt hw;subst hz;subst hg;refine Aa (by rw [nb];exact decide_eq_true hlt) ?_;obtain ⟨s,hs,he⟩:=Option.bind_eq_some_iff.1 he;obtain rfl:=Option.some.inj he;obtain ⟨_,hs1,p,hp,hp'⟩:=IC hl hs;obtain ⟨A1,cs1,ea1,hi1,r1,cl1⟩:=(kb.mono le).get hp';refine AF _ ea1 (AY hi1 ?_);obtain rfl:=r1;refine AC (x:=p) (Al st.sub (cl1 0 _ rfl)) rfl ?_;obtain ⟨rr,q1,q2⟩:=Gg hp hs1 st;refine AI (FY q1 (r:=s.1) rfl) ?_;rintro _ h1 ⟨ψ1,y,le1,rfl,rfl,st1⟩;refine ⟨s.1,rfl,?_⟩;exact Ad (bU .i64 (z.1+(1:Int)),(if s.1>z.2.1 then s.1 else z.2.1),()) _ rfl rfl ⟨hw,rfl,ψ1,le.trans le1,q2 ψ1 h1 [] st1⟩
  ·rintro i z w ⟨hz,H⟩ hge;subst hz;refine AT (by rw [nb];exact decide_eq_false (Int.not_lt.2 hge))<|AJ (AL z rfl H)
 ·rintro z1 h1 ⟨rfl,ψ1,le1,s1⟩;refine AV (vs:=[.slice none 0 0]) s1 ?_;intro r6 h2 s2;refine Ap (fun (z:Int×Unit) w (g:List AU)=>∃(ψ:AD) (o:Slc) (qs:List (Option Addr)),Sub φ ψ∧qs.length=g.length∧St ψ (⟨cN 195,[.pointer (some ⟨r6,0,none⟩)],[.slice o.1 o.2.1 o.2.2]⟩::EW o qs::(AP qs g++(AP ps B++F))) w) (g:=all) ?_ ?_
  ·refine CD ha1 (fun i (z:Int×Unit) w (g:List AU)=>z.1=i∧ ∃(ψ:AD) (o:Slc) (qs:List (Option Addr)),Sub φ ψ∧qs.length=g.length∧St ψ (⟨cN 195,[.pointer (some ⟨r6,0,none⟩)],[.slice o.1 o.2.1 o.2.2]⟩::EW o qs::(AP qs g++(AP ps B++F))) w) ((0:Int),()) rfl ⟨rfl,ψ1,(none,0,0),[],le1,rfl,(iU 139 hZ s2).at1⟩ ?_ ?_
   ·rintro i z w g e ⟨hz,ψ,o,qs,le,hlq,st⟩ he h0 hlt hw;subst hz;refine Aa (by rw [nb];exact decide_eq_true hlt) ?_;obtain ⟨s,hs,he⟩:=Option.bind_eq_some_iff.1 he;obtain ⟨l,hls,he⟩:=Option.bind_eq_some_iff.1 he;obtain ⟨s',hs',he⟩:=Option.bind_eq_some_iff.1 he;obtain ⟨_,hs1,p,hp,hp'⟩:=IC hl hs;obtain ⟨A1,cs1,ea1,hi1,r1,cl1⟩:=(kb.mono le).get hp';refine AF _ ea1 (AY hi1 ?_);obtain rfl:=r1;refine AC (x:=p) (Al st.sub (cl1 0 _ rfl)) rfl<|AA (b:=r6) (j:=0) (x:=o) st rfl ?_;obtain ⟨Γ,hΓ⟩:∃Γ:List Chk,Γ=(⟨cN 195,[.pointer (some ⟨r6,0,none⟩)],[.slice o.1 o.2.1 o.2.2]⟩::EW o qs::AP qs g):=⟨_,rfl⟩;have st1:St ψ (AP ps B++(Γ++F)) w:=by
     have:St ψ (Γ++(AP ps B++F)) w:=by rw [hΓ];exact st
     refine this.perm ?_;rw [←bV,←bV];exact cC F cF
    obtain ⟨rr,q1,q2⟩:=Gg hp hs1 st1;refine AI (LI (gk.mono le) q1 hls) ?_;rintro _ h3 ⟨ψ2,y,le2,rfl,k2,st2⟩;refine ⟨y,rfl,?_⟩;have back:∀ {ψ:AD} {h':AH} (Δ:List Chk),St ψ (Δ++(AP ps B++(Γ++F))) h'→St ψ (⟨cN 195,[.pointer (some ⟨r6,0,none⟩)],[.slice o.1 o.2.1 o.2.2]⟩::EW o qs::(Δ++(AP qs g++(AP ps B++F)))) h':=fun {ψ h'} Δ H=>by
     rw [hΓ]at H;refine H.perm<|fB (l₂:=Δ++((⟨cN 195,[.pointer (some ⟨r6,0,none⟩)],[.slice o.1 o.2.1 o.2.2]⟩::EW o qs::AP qs g) ++(AP ps B++F))) (eA Δ ?_) ?_
     ·rw [←bV,←bV];exact cC _ cF
     ·exact (dE (l₁:=Δ)).trans (cE _ (dE (l₁:=Δ)))
    have st3:=back [] (q2 ψ2 h3 [] st2);refine AM (st3.cell rfl)<|AI (EC k2 st3 hs') ?_;rintro _ h4 ⟨ψ3,p',l3,le3,rfl,rfl,st4⟩;refine ⟨p',rfl,?_⟩;refine AM (st4.at1.cell rfl)<|AV (vs:=[.pointer p']) st4 ?_;intro r14 h5 st5;have cw:=eZ st5;refine AM (st5.at2.cell rfl) ?_;obtain ⟨hap,rfl⟩:=JQ he hlq p';refine Am (r:=hZ) (ms:=[p']) OB (st5.tail.at2) rfl cw (.cons (a:=[_]) rfl .nil) rfl hap ?_;intro t15 h6 st6;refine CS (b:=r6) (j:=0) (v:=.slice t15.1 t15.2.1 t15.2.2) (st6.at2) rfl (dQ 0) ?_;intro h7 st7;exact Ad (bU .i64 (z.1+(1:Int)),()) _ rfl rfl ⟨hw,ψ3,t15,qs++ [p'],(le.trans le2).trans le3,by simp [hlq],(M4 hlq (st7.tail) |>fun H=>by
     rw [Jo hlq,bV];refine st7.perm (cE _ (cE _ ?_));exact (dE (l₁:=AP qs g)).symm)⟩
   ·rintro i z w ⟨hz,H⟩ hge;subst hz;refine AT (by rw [nb];exact decide_eq_false (Int.not_lt.2 hge))<|AJ (AL z rfl H)
  ·rintro z7 h3 ⟨ψ2,o,qs,le2,hlq,s3⟩;rw [←nb]at hk1;have s4:St ψ2 (LH r6 ⟨o,qs,all,hlq⟩ ++(AP ps B++F)) h3:=M2 (gk.mono le2) s3;refine AI (Sc (v:=⟨o,qs,all,hlq⟩) (k.mono le2) hk1 s4) ?_;rintro _ h4 ⟨rfl,ψ3,v',le3,hal,s5⟩;refine ⟨(),rfl,?_⟩;obtain ⟨o',qs',all',hlq'⟩:=v';dsimp only at hal s5;subst hal;obtain ⟨gk3,s6⟩:=Hg s5;have le03:=le2.trans le3;refine Ap (fun (z:Int×Slc×Unit) w (g:List AU)=>∃(ψ:AD) (us:List (Option Addr)),Sub ψ3 ψ∧us.length=g.length∧St ψ (EW z.2.1 us::(AP us g++(⟨cN 195,[.pointer (some ⟨r6,0,none⟩)],[.slice o'.1 o'.2.1 o'.2.2]⟩::EW o' qs'::(AP qs' st'.2.2++(AP ps B++F))))) w) (g:=r) ?_ ?_
   ·refine CD hd3 (fun i (z:Int×Slc×Unit) w (g:List AU)=>z.1=i∧ ∃(ψ:AD) (us:List (Option Addr)),Sub ψ3 ψ∧us.length=g.length∧St ψ (EW z.2.1 us::(AP us g++(⟨cN 195,[.pointer (some ⟨r6,0,none⟩)],[.slice o'.1 o'.2.1 o'.2.2]⟩::EW o' qs'::(AP qs' st'.2.2++(AP ps B++F))))) w) ((0:Int),((none,0,0):Slc),()) rfl ⟨rfl,ψ3,[],bX _,rfl,iU _ _ s6⟩ ?_ ?_
    ·rintro i z w g e ⟨hz,ψ,us,le,hlu,st⟩ he h0 hlt hw;subst hz;refine Aa (by rw [nb];exact decide_eq_true hlt) ?_;obtain ⟨s,hs,he⟩:=Option.bind_eq_some_iff.1 he;obtain ⟨a,ha,he⟩:=Option.bind_eq_some_iff.1 he;obtain ⟨l,hls,he⟩:=Option.bind_eq_some_iff.1 he;obtain ⟨s',hs',he⟩:=Option.bind_eq_some_iff.1 he;obtain ⟨_,hs1,p,hp,hp'⟩:=IC hl hs;obtain ⟨_,ha1,q,hq,hq'⟩:=IC hlq' ha;obtain ⟨A1,cs1,ea1,hi1,r1,cl1⟩:=(kb.mono (le03.trans le)).get hp';refine AF _ ea1 (AY hi1 ?_);obtain rfl:=r1;refine AC (x:=p) (Al st.sub (cl1 0 _ rfl)) rfl ?_;obtain ⟨X1,hX1⟩:∃X1:List Chk,X1=EW z.2.1 us::AP us g:=⟨_,rfl⟩;have st1:St ψ (⟨cN 195,[.pointer (some ⟨r6,0,none⟩)],[.slice o'.1 o'.2.1 o'.2.2]⟩::EW o' qs'::(AP qs' st'.2.2++(AP ps B++(F++X1)))) w:=by
      have:St ψ (X1++(⟨cN 195,[.pointer (some ⟨r6,0,none⟩)],[.slice o'.1 o'.2.1 o'.2.2]⟩::EW o' qs'::(AP qs' st'.2.2++(AP ps B++F)))) w:=by rw [hX1];exact st
      have h2:=this.perm cF;simp only [dK,bV]at h2;exact h2
     refine AA (b:=r6) (j:=0) (x:=o') st1 rfl ?_;obtain ⟨A2,cs2,ea2,hi2,r2,cl2⟩:=fA (st1.at1) hq';refine AF _ ea2 (AY hi2 ?_);obtain rfl:=r2;refine AC (x:=q) (cl2 0 _ rfl) rfl ?_;obtain ⟨Y1,hY1⟩:∃Y1:List Chk,Y1=(⟨cN 195,[.pointer (some ⟨r6,0,none⟩)],[.slice o'.1 o'.2.1 o'.2.2]⟩::EW o' qs'::AP qs' st'.2.2):=⟨_,rfl⟩;have st2:St ψ (AP ps B++(Y1++(F++X1))) w:=by
      have:St ψ (Y1++(AP ps B++(F++X1))) w:=by rw [hY1];exact st1
      exact this.perm (WP _ _ _)
     obtain ⟨rr,q1,q2⟩:=Gg hp hs1 st2;refine AI (FY q1 (r:=s.1) rfl) ?_;rintro _ h5 ⟨ψ4,y4,le4,rfl,rfl,st3⟩;refine ⟨s.1,rfl,?_⟩;have st4:St ψ4 (⟨cN 195,[.pointer (some ⟨r6,0,none⟩)],[.slice o'.1 o'.2.1 o'.2.2]⟩::EW o' qs'::(AP qs' st'.2.2++(AP ps B++(F++X1)))) h5:=by
      have h1:=q2 ψ4 h5 [] st3;have h2:St ψ4 (Y1++(AP ps B++(F++X1))) h5:=by
       exact St.perm h1 (WP (AP ps B) Y1 (F++X1))
      rw [hY1]at h2;exact h2
     obtain ⟨A3,cs3,ea3,hi3,rfl,cl3⟩:=fA (st4.at1) hq';have e12:A3=A2:=Option.some.inj (ea3.symm.trans ea2);subst e12;refine AM (cl3 0 _ rfl) (AM (st4.cell rfl) ?_);obtain ⟨Z1,hZ1⟩:∃Z1:List Chk,Z1= [(⟨cN 195,[.pointer (some ⟨r6,0,none⟩)],[.slice o'.1 o'.2.1 o'.2.2]⟩:Chk),EW o' qs']:=⟨_,rfl⟩;have st5:St ψ4 (AP qs' st'.2.2++(Z1++(AP ps B++(F++X1)))) h5:=by
      have:St ψ4 (Z1++(AP qs' st'.2.2++(AP ps B++(F++X1)))) h5:=by rw [hZ1];exact st4
      refine this.perm ?_;rw [←bV,←bV (AP qs' st'.2.2)];exact cC _ cF
     obtain ⟨rr2,w1,w2⟩:=Gg hq ha1 st5;refine AI (LI (gk3.mono (le.trans le4)) w1 hls) ?_;rintro _ h6 ⟨ψ5,y5,le5,rfl,k5,st6⟩;refine ⟨y5,rfl,?_⟩;have st7:St ψ5 (EW z.2.1 us::(AP us g++(⟨cN 195,[.pointer (some ⟨r6,0,none⟩)],[.slice o'.1 o'.2.1 o'.2.2]⟩::EW o' qs'::(AP qs' st'.2.2++(AP ps B++F))))) h6:=by
      have h1:=w2 ψ5 h6 [] st6;have h2:St ψ5 (X1++(Z1++(AP qs' st'.2.2++(AP ps B++F)))) h6:=by
       refine St.perm h1 ?_;show (AP qs' st'.2.2++(Z1++(AP ps B++(F++X1)))).Perm _;refine fB ?_ (cF (l₁:=Z1++(AP qs' st'.2.2++(AP ps B++F))) (l₂:=X1));simp only [bV];rw [←bV,←bV Z1];exact cC _ cF
      rw [hX1,hZ1]at h2;exact h2
     refine AI (EC k5 st7 hs') ?_;rintro _ h7 ⟨ψ6,p',l3,le6,rfl,rfl,st8⟩;refine ⟨p',rfl,?_⟩;refine AV (vs:=[.pointer p']) st8 ?_;intro r27 h8 st9;have cw:=eZ st9;obtain ⟨hap,rfl⟩:=JQ he hlu p';refine Am (r:=hZ) (ms:=[p']) OB (st9.tail.at1) rfl cw (.cons (a:=[_]) rfl .nil) rfl hap ?_;intro t28 h9 st10;exact Ad (bU .i64 (z.1+(1:Int)),t28,()) _ rfl rfl ⟨hw,ψ6,us++ [p'],((le.trans le4).trans le5).trans le6,by simp [hlu],M4 hlu st10⟩
    ·rintro i z w ⟨hz,H⟩ hge;subst hz;refine AT (by rw [nb];exact decide_eq_false (Int.not_lt.2 hge))<|AJ (AL z rfl H)
   ·rintro z h5 ⟨ψ,us,le,hlu,st⟩;refine AB ⟨ψ,z.2.1,us,le03.trans le,rfl,hlu,?_⟩;obtain ⟨X1,hX1⟩:∃X1:List Chk,X1=EW z.2.1 us::AP us r:=⟨_,rfl⟩;have h1:St ψ (X1++(⟨cN 195,[.pointer (some ⟨r6,0,none⟩)],[.slice o'.1 o'.2.1 o'.2.2]⟩::EW o' qs'::(AP qs' st'.2.2++(AP ps B++F)))) h5:=by rw [hX1];exact st
    have h2:=(h1.perm (cF)).tail.tail;have h3:St ψ (AP qs' st'.2.2++((AP ps B++F) ++X1)) h5:=by rw [←bV];exact h2
    have h4:∀(L:List Chk) {M:List Chk},St ψ (L++M) h5→St ψ M h5:=fun L=>by
     induction L with
     |nil=>intro M H;exact H
     |cons c L ih=>intro M H;exact ih H.tail
    have h6:=(h4 _ h3).perm cF;rw [hX1]at h6;exact h6
end
end Go.Proofs.YteolcjbobmpdiaaGreatDoor.Dg
namespace Go.Proofs.YteolcjbobmpdiaaGreatDoor
open Go Go.Shelf Go.Proofs
set_option maxRecDepth 100000
def D5:Ren:=⟨fun x=>bif cJ x 129 then 179 else bif cJ x 176 then 125 else bif cJ x 249 then 154 else bif cJ x 283 then 192 else bif cJ x 284 then 193 else bif cJ x 285 then 194 else bif cJ x 286 then 195 else bif cJ x 288 then 169 else bif cJ x 317 then 205 else bif cJ x 318 then 206 else bif cJ x 319 then 207 else bif cJ x 320 then 208 else bif cJ x 337 then 211 else bif cJ x 338 then 150 else 0,fun x=>bif cJ x 0 then 0 else bif cJ x 2 then 2 else bif cJ x 3 then 3 else bif cJ x 4 then 4 else bif cJ x 5 then 5 else bif cJ x 9 then 9 else bif cJ x 20 then 20 else bif cJ x 37 then 22 else bif cJ x 46 then 244 else bif cJ x 51 then 263 else bif cJ x 53 then 237 else bif cJ x 171 then 271 else bif cJ x 173 then 273 else bif cJ x 212 then 285 else bif cJ x 213 then 286 else bif cJ x 232 then 291 else bif cJ x 233 then 251 else 0,fun x=>bif cJ x 17 then 1 else bif cJ x 18 then 2 else bif cJ x 19 then 0 else 0⟩
theorem VZ:Lays.n176 bT D5 where
 mixed:=by kernel_rfl
 f129:=(Tryz.func179).trans (congrArg some (show Tryz.f179=Body.n129 D5 by kernel_rfl))
 f176:=(Tryz.func125).trans (congrArg some (show Tryz.f125=Body.n176 D5 by kernel_rfl))
 f249:=(Tryz.func154).trans (congrArg some (show Tryz.f154=Body.n249 D5 by kernel_rfl))
 f283:=(Tryz.func192).trans (congrArg some (show Tryz.f192=Body.n283 D5 by kernel_rfl))
 f284:=(Tryz.func193).trans (congrArg some (show Tryz.f193=Body.n284 D5 by kernel_rfl))
 f285:=(Tryz.func194).trans (congrArg some (show Tryz.f194=Body.n285 D5 by kernel_rfl))
 f286:=(Tryz.func195).trans (congrArg some (show Tryz.f195=Body.n286 D5 by kernel_rfl))
 f288:=(Tryz.func169).trans (congrArg some (show Tryz.f169=Body.n288 D5 by kernel_rfl))
 f317:=(Tryz.func205).trans (congrArg some (show Tryz.f205=Body.n317 D5 by kernel_rfl))
 f318:=(Tryz.func206).trans (congrArg some (show Tryz.f206=Body.n318 D5 by kernel_rfl))
 f319:=(Tryz.func207).trans (congrArg some (show Tryz.f207=Body.n319 D5 by kernel_rfl))
 f320:=(Tryz.func208).trans (congrArg some (show Tryz.f208=Body.n320 D5 by kernel_rfl))
 f337:=(Tryz.func211).trans (congrArg some (show Tryz.f211=Body.n337 D5 by kernel_rfl))
 f338:=(Tryz.func150).trans (congrArg some (show Tryz.f150=Body.n338 D5 by kernel_rfl))
 t0:=iC
 a0:=Tryz.isAgg0
 z0:=Tryz.sizeOf0
 v0:=Tryz.zeroValue0
 t2:=Tryz.underlying2
 a2:=Tryz.isAgg2
 z2:=Tryz.sizeOf2
 v2:=Tryz.zeroValue2
 t3:=eT
 a3:=iG
 z3:=gW
 v3:=fX
 t4:=iD
 a4:=Tryz.isAgg4
 z4:=Tryz.sizeOf4
 v4:=Tryz.zeroValue4
 t5:=dR
 a5:=Tryz.isAgg5
 z5:=Tryz.sizeOf5
 v5:=Tryz.zeroValue5
 t9:=eU
 a9:=Tryz.isAgg9
 z9:=Tryz.sizeOf9
 v9:=Tryz.zeroValue9
 t20:=Tryz.underlying20
 a20:=Tryz.isAgg20
 z20:=Tryz.sizeOf20
 v20:=Tryz.zeroValue20
 t37:=dS
 a37:=Tryz.isAgg22
 z37:=Tryz.sizeOf22
 v37:=Tryz.zeroValue22
 t46:=Tryz.underlying244
 a46:=Tryz.isAgg244
 z46:=Tryz.sizeOf244
 v46:=Tryz.zeroValue244
 t51:=Tryz.underlying263
 a51:=Tryz.isAgg263
 z51:=Tryz.sizeOf263
 v51:=Tryz.zeroValue263
 t53:=gQ
 a53:=Tryz.isAgg237
 z53:=Tryz.sizeOf237
 v53:=Tryz.zeroValue237
 t171:=Tryz.underlying271
 a171:=Tryz.isAgg271
 z171:=Tryz.sizeOf271
 v171:=Tryz.zeroValue271
 t173:=Tryz.underlying273
 a173:=Tryz.isAgg273
 z173:=Tryz.sizeOf273
 v173:=Tryz.zeroValue273
 t212:=gR
 a212:=Tryz.isAgg285
 z212:=Tryz.sizeOf285
 v212:=Tryz.zeroValue285
 t213:=Tryz.underlying286
 a213:=Tryz.isAgg286
 z213:=Tryz.sizeOf286
 t232:=Tryz.underlying291
 a232:=Tryz.isAgg291
 z232:=Tryz.sizeOf291
 v232:=Tryz.zeroValue291
 t233:=gS
 a233:=Tryz.isAgg251
 z233:=Tryz.sizeOf251
 v233:=Tryz.zeroValue251
 g17:=by kernel_rfl
 g18:=by kernel_rfl
 g19:=by kernel_rfl
theorem UD:LaysM.n176 bT D5:={VZ with
 i0:=by kernel_rfl
 i2:=by kernel_rfl
 i3:=by kernel_rfl
 i4:=by kernel_rfl
 i5:=by kernel_rfl
 i9:=by kernel_rfl
 i20:=by kernel_rfl
 i37:=by kernel_rfl
 i46:=by kernel_rfl
 i51:=by kernel_rfl
 i53:=by kernel_rfl
 i171:=by kernel_rfl
 i173:=by kernel_rfl
 i212:=by kernel_rfl
 i232:=by kernel_rfl
 i233:=by kernel_rfl
 m17:=by kernel_rfl
 m18:=by kernel_rfl
 m19:=by kernel_rfl
 }
end Go.Proofs.YteolcjbobmpdiaaGreatDoor
namespace Go.Proofs.YteolcjbobmpdiaaGreatDoor
open Go Go.Eng Go.RowKit
set_option linter.unusedVariables false
set_option maxRecDepth 100000
def Glob (φ:AD):Prop:= ∃g t f,Tryz.prog.globalNamed "internal/strconv.uint64pow10" =some g∧φ g=some (.cells (Lib.pow10Tab.map fun z=>Value.int .u64 z).toArray t f)
theorem Glob.mono {φ ψ:AD}(H:Glob φ) (hs:Sub φ ψ):Glob ψ:=by
 obtain ⟨g,t,f,h1,h2⟩:=H;exact ⟨g,t,f,h1,hs _ _ h2⟩
def Cb (i:Int):List Int:=(Lib.itoa i).map fun b=>(b.toNat:Int)
def Dh (l:List Int) (i b:Int):Option (List Int):=if b=10∧ -9223372036854775808≤i∧i≤9223372036854775807∧l.length≤1000000 then some (l++Cb i) else none
theorem Ou (i:Int):Lib.byteCells (Lib.itoa i)=(Cb i).map (eD .u8).val:=by
 unfold Lib.byteCells Cb;rw [List.map_map];rfl
class Va (G:List Chk):Prop where
 off:∀c∈G,∀φ h F,Chk.on φ h F c→ ∀k,F k→ ∃o:Obj,h[k]? =some o∧ ∀cs f,o≠.cells cs 5 f
instance X5:Va []:=⟨fun c hc=>by cases hc⟩
instance Xg {b:Nat}{vs:List Value}{G:List Chk}[H:Va G]:Va (⟨cN 70,[.pointer (some ⟨b,0,none⟩)],vs⟩::G):=⟨fun c hc φ h F hon k hk=>by
 rcases List.mem_cons.1 hc with rfl | hc
 ·obtain ⟨b',e,hb,hF⟩:=hon;have hkb:=(hF k).1 hk;subst hkb;exact ⟨_,hb,fun cs f e=>by cases e⟩
 ·exact H.off c hc φ h F hon k hk⟩
theorem Pq {φ:AD}{h h':AH}{X X':Ev}(hk:∀(k:Nat) (o:Obj),h[k]? =some o→(∀cs f,o≠.cells cs 5 f)→h'[k]? =some o) (hX:∀k,X' k→ ∃cs f,h'[k]? =some (.cells cs 5 f)) (hs:Sub φ (BR h')):
 ∀ {G:List Chk} {Y:Ev},(∀c∈G,∀φ h F,Chk.on φ h F c→ ∀k,F k→ ∃o:Obj,h[k]? =some o∧ ∀cs f,o≠.cells cs 5 f)→StX φ h G (fun k=>X k∨Y k)→StX φ h' G (fun k=>X' k∨Y k):=by
 intro G
 induction G with
 |nil=>intro Y _ _;exact hs
 |cons c G ih=>
  intro Y hG ⟨F,h1,h2,H⟩;have hoff:=hG c (by simp) φ h F h1;refine ⟨F,c.R.loc (fun k hF=> ?_) h1,fun k hF=>⟨(h2 k hF).1,fun g=> ?_⟩,(ih (Y:=fun k=>Y k∨F k) (fun c hc=>hG c (by simp [hc])) (H.less fun k hk=> ?_)).less fun k hk=> ?_⟩
  ·obtain ⟨o,ho,hno⟩:=hoff k hF;rw [ho];exact hk k o ho hno
  ·rcases g with g | g
   ·obtain ⟨o,ho,hno⟩:=hoff k hF;obtain ⟨cs,f,hc⟩:=hX k g;rw [hk k o ho hno]at hc;exact hno cs f (Option.some.inj hc)
   ·exact (h2 k hF).2 (.inr g)
  ·rcases hk with hk | hk | hk
   ·exact .inl (.inl hk)
   ·exact .inl (.inr hk)
   ·exact .inr hk
  ·rcases hk with (hk | hk)|hk
   ·exact .inl hk
   ·exact .inr (.inl hk)
   ·exact .inr (.inr hk)
theorem KN {h0 h:AH}{G:List Chk}[hG:Va G] {t:Slc}{l:List Int}{i b:Int}(gk:Glob (BR h0)) (s0:St (BR h0) (⟨cH 5 (bW .u8),[.slice t.1 t.2.1 t.2.2],l⟩::G) h) {r:List Int}(hd:Dh l i b=some r):
 CallsH bT 125 [(.slice t.1 t.2.1 t.2.2),(.int .i64 i),(.int .i64 b)] h (Ar fun v h'=>∃ψ:AD,∃y:Slc,∃l':List Int,Sub (BR h0) ψ∧ψ=BR h0∧v=((.one aS):Sh).val y∧l'=r∧St ψ (⟨cH 5 (bW .u8),[.slice y.1 y.2.1 y.2.2],l'⟩::G) h'):=by
 unfold Dh at hd;split at hd
 ·rename_i hg
  obtain ⟨rfl,h1,h2,hlen⟩:=hg;cases hd;obtain ⟨F,⟨p,n,c,vs,e,hn,hc,hf,ho,ha,hF⟩,hX,H⟩:=s0;have hn:l.length=n:=hn;have ha':vs=l.map (eD .u8).val:=C5 ha;simp only [List.cons.injEq,Value.slice.injEq,and_true]at e;obtain ⟨e1,e2,e3⟩:=e;rw [e1,e2,e3];have hs:Sub (BR h0) (BR h):=H.sub;have hB:h0.size≤h.size:=by
   rcases dI h.size h0.size with g | g
   ·have h1:BR h0 h.size=some h0[h.size]:=bZ g
    have:=Au (hs _ _ h1)
    omega
   ·exact g
  have hold:∀k,k<h0.size→(BR h0) k≠none:=fun k hk g=>by
   have h1:BR h0 k=some h0[k]:=bZ hk;rw [h1]at g;cases g
  have own:World.ownsRow (D3 h) h0.size 5 1 (.slice p n c) n vs:=by
   refine ⟨by rw [ha',dZ,hn,iH],?_⟩;rcases ho with ⟨rfl,rfl,rfl,rfl⟩|⟨b,off,arr,rfl,hb,g1,g2,g3,g4⟩
   ·exact .inl ⟨rfl,rfl⟩
   ·obtain ⟨q1,q2⟩:=hf _ _ _ rfl;subst q1;have hsz:=q2 _ _ _ hb;have hsz:arr.size=c *1:=hsz;have g1:vs.length=n *1:=g1;refine .inr ⟨b,c,arr,rfl,?_,hb,g2,hc,hsz,?_⟩
    ·rcases dI b h0.size with g | g
     ·exact absurd (hX b ((hF b).2 (by simp [blk]))).1 (hold b g)
     ·exact g
    ·refine hU fun i=> ?_;rw [dX];split
     ·rename_i hi
      have hi':i<vs.length:=by omega
      have:=g4 i vs[i] (bR hi')
      rw [bR hi'];simpa using this
     ·rw [cP (by omega)]
  intro w hw;subst hw;refine (Any.strconv_AppendInt_10 UD h0.size n i h1 h2 (.slice p n c) vs w own hB (by omega) (fun w' hb=> ?_)).mono ?_
  ·obtain ⟨g,t',f,g1,g2⟩:=gk;have hg:w.heap[g]? =some (.cells (Lib.pow10Tab.map fun z=>cQ .u64 z).toArray t' f):=hs _ _ g2;have hlt:=Au (h:=h0) g2;show (Tryz.prog.globalNamed _).bind _=_;rw [g1];show (match w'.heap[g]? with | some (.cells cs _ _)=>some cs | _=>none)=_
   rw [hb.block g hlt,hg]
  ·rintro e w' ⟨v',rfl,hown,hb,hoth⟩;have hkeep:∀(k:Nat) (o:Obj),w.heap[k]? =some o→(∀cs f,o≠.cells cs 5 f)→w'.heap[k]? =some o:=fun k o ho hno=>hoth k o ho (by simp) hno;refine ⟨⟨hb.os,hb.tape,hb.output,hb.size⟩,v',rfl,BR h0,?_⟩;obtain ⟨k1,k2⟩:=hown;have hsub:Sub (BR h0) (BR w'.heap):=fun i o ho=>by
    have hlt:=Au (h:=h0) ho;show w'.heap[i]? =some o;rw [hb.block i hlt];exact hs i o ho
   have hvs:vs++Lib.byteCells (Lib.itoa i)=(l++Cb i).map (eD .u8).val:=by rw [eK,ha',Ou]
   have hdl:(Cb i).length=(Lib.itoa i).length:=by unfold Cb;simp
   have hall:∀(l:List Int),(bW .u8).All (BR h0) (l.map (eD .u8).val) l:=fun l=>by
    induction l with
    |nil=>exact .nil
    |cons x l ih=>exact .cons (a:=[_]) rfl ih
   rcases k2 with ⟨rfl,hz⟩|⟨g,cap,cur,rfl,hBg,hg,hle,hm,hcs,hcur⟩
   ·refine ⟨(none,0,0),l++Cb i,bX _,rfl,rfl,rfl,fun _=>False,⟨none,0,0,[],rfl,(by rw [cS,hdl,hn];exact hz),iI _,(fun _ _ _ h=>by cases h),.inl ⟨rfl,rfl,rfl,rfl⟩,?_,fun i=>by simp [blk]⟩,fun _ hk=>hk.elim,(Pq (X:=F) (X':=fun _=>False) (Y:=fun _=>False) hkeep (fun _ g=>g.elim) hsub hG.off (H.less fun k hk=>hk.elim .inr .inl)).less fun k hk=>hk.elim (fun g=>.inl g) (fun g=>.inl g)⟩
    have:l++Cb i= []:=dH (by rw [cS,hdl,hn];exact hz)
    show (bW .u8).All (BR h0) [] (l++Cb i);rw [this];exact .nil
   ·refine ⟨(some ⟨g,0,none⟩,n+(Lib.itoa i).length,cap),l++Cb i,bX _,rfl,rfl,rfl,fun k=>k=g,⟨_,_,cap,(l++Cb i).map (eD .u8).val,rfl,by simp;omega,hm,(fun b' off s e=>by cases e;exact ⟨rfl,fun arr ty f harr=>by
     rw [hg]at harr;cases harr;exact hcs⟩),.inr ⟨g,0,cur,rfl,hg,by show _=_ *1;simp;omega,hle,by show 0+cap *1≤_;omega,fun j v hv=> ?_⟩,hall _,fun k=>by simp [blk]⟩,fun k hk=>⟨?_,fun g=>g⟩,(Pq (X:=F) (X':=fun k=>k=g) (Y:=fun _=>False) hkeep (fun k hk=>by subst hk;exact ⟨_,_,hg⟩) hsub hG.off (H.less fun k hk=>hk.elim .inr .inl)).less fun k hk=>hk.elim (fun g=>.inr g) (fun g=>.inl g)⟩
    ·rw [←hvs,←hcur,dX]at hv;split at hv
     ·simpa using hv
     ·cases hv
    ·subst hk;exact eO hBg
 ·cases hd
end Go.Proofs.YteolcjbobmpdiaaGreatDoor
namespace Go.Proofs.YteolcjbobmpdiaaGreatDoor
open Go Go.Eng Dg
set_option linter.unusedVariables false
set_option maxRecDepth 100000
structure MN (φ:AD):Prop where
 a:Glob φ
 b:Dg.Glob φ
theorem MN.mono {φ ψ:AD}(H:MN φ) (hs:Sub φ ψ):MN ψ:=⟨H.a.mono hs,H.b.mono hs⟩
noncomputable def Ov (s o:AU):Option (Bool×AU):=need (OkS s∧OkS o)<|some (Eo s o,BC s o)
noncomputable def OD (s:AU):Option (List Int):=IZ s
section
variable {φ:AD}{h:AH}{F:List Chk}
theorem Q1 {s_0 o_1:Option Addr}{b a:AU}(gk:Dg.Glob φ) (s0:St φ (BM s_0 b::BM o_1 a::F) h) {r:Bool×AU}(hd:Ov b a=some r):
 CallsH bT 139 [.pointer s_0,.pointer o_1] h (Ar fun v h'=>∃ψ:AD,∃y:Bool,∃l:AU,Sub φ ψ∧v=((.one aB):Sh).val y∧(y,l)=r∧St ψ (BM s_0 l::BM o_1 a::F) h'):=by
 obtain ⟨⟨h1,h2⟩,hd⟩:=Br hd;obtain rfl:=Option.some.inj hd;refine (IA gk h1 h2 (dD _ _ _) s0).mono ?_;rintro e h' ⟨u,rfl,ψ,le,rfl,s4⟩;exact ⟨_,rfl,ψ,_,_,le,rfl,rfl,s4⟩
theorem Ln {s_0:Option Addr}{a:AU}(gk:Dg.Glob φ) (s0:St φ (BM s_0 a::F) h) {r:List Int}(hd:OD a=some r):
 CallsH bT 70 [.pointer s_0] h (Ar fun v h'=>∃ψ:AD,∃y:Slc,∃l:List Int,Sub φ ψ∧v=((.one aS):Sh).val y∧l=r∧Ro.SliceIs (bW .i64) ψ y l∧St ψ (BM s_0 a::F) h'):=by
 refine (LI gk s0 hd).mono ?_;rintro e h' ⟨u,rfl,ψ,y,le,rfl,k,s4⟩;exact ⟨_,rfl,ψ,_,_,le,rfl,rfl,k,s4⟩
theorem Rg {ps:List (Option Addr)}{ss:List AU}{x y:Nat}{p q:Option Addr}{s o:AU}(gk:Dg.Glob φ) (hs:ss[x]? =some s) (ho:ss[y]? =some o) (hp:ps[x]? =some p) (hq:ps[y]? =some q) (k:OkS s∧OkS o) (s0:St φ (AP ps ss++F) h):
 CallsH bT 139 [.pointer p,.pointer q] h (Ar fun v h'=>∃ψ:AD,Sub φ ψ∧v=((.one aB):Sh).val (Eo s o)∧St ψ (AP ps (ss.set x (BC s o)) ++F) h'):=by
 obtain ⟨r1,a1,a2⟩:=ED hp hs;obtain ⟨r2,b1,_⟩:=ED hq ho;have mv:∀(p:Option Addr) (s:AU) (r:List Chk) (L:List Chk),L.Perm (BM p s::r)→(L++F).Perm (BM p s::(r++F)):=fun p s r L hL=>cC F hL;have hpm:=(mv p s r1 _ a1).symm.trans (mv q o r2 _ b1);refine (IA gk k.1 k.2 hpm (s0.perm (mv p s r1 _ a1))).mono ?_;rintro e h' ⟨u,rfl,ψ,le,rfl,s4⟩;exact ⟨_,rfl,ψ,le,rfl,s4.perm (mv p _ r1 _ (a2 _)).symm⟩
theorem Ps {ps:List (Option Addr)}{ss:List AU}{x:Nat}{p q:Option Addr}{s o:AU}(gk:Dg.Glob φ) (hs:ss[x]? =some s) (hp:ps[x]? =some p) (k:OkS s∧OkS o) (s0:St φ (BM q o::(AP ps ss++F)) h):
 CallsH bT 139 [.pointer p,.pointer q] h (Ar fun v h'=>∃ψ:AD,Sub φ ψ∧v=((.one aB):Sh).val (Eo s o)∧St ψ (BM q o::(AP ps (ss.set x (BC s o)) ++F)) h'):=by
 obtain ⟨r1,a1,a2⟩:=ED hp hs;have mv:∀(s:AU) (L:List Chk),L.Perm (BM p s::r1)→(BM q o::(L++F)).Perm (BM p s::(BM q o::(r1++F))):=fun s L hL=>(cE _ (cC F hL)).trans (dD _ _ _);refine (IA gk k.1 k.2 (dD _ _ _) (s0.perm (mv s _ a1))).mono ?_;rintro e h' ⟨u,rfl,ψ,le,rfl,s4⟩;exact ⟨_,rfl,ψ,le,rfl,s4.perm (mv _ _ (a2 _)).symm⟩
end
end Go.Proofs.YteolcjbobmpdiaaGreatDoor
namespace Go.Proofs.YteolcjbobmpdiaaGreatDoor
open Go Go.Eng
set_option linter.unusedVariables false
set_option maxRecDepth 100000
theorem glob_of {W:World}(hL:laidMetH bT Rows.lookDoneRow.laid W):MN (BR W.heap):=by
 rw [MakeChecks.laidMetH_plain _ _ _ (by kernel_rfl)]at hL;refine ⟨?_,?_⟩
 ·have h1:laidMet Tryz.prog (("internal/strconv.uint64pow10",Lib.tabData .u64 Lib.pow10Tab):: []) W:=hL.tail.tail;have hg:Tryz.prog.globalNamed "internal/strconv.uint64pow10" =some 1:=by kernel_rfl
  have h2:=Lib.tabIs_of_head hg (by kernel_rfl) gR gQ (by kernel_rfl) (by kernel_rfl) h1;unfold Lib.TabIs World.var? at h2;rw [hg,cL]at h2;cases hb:W.heap[1]? with
  |none=>rw [hb]at h2;cases h2
  |some o=>
   rw [hb]at h2;cases o with
   |cells cs t f=>cases h2;exact ⟨1,t,f,hg,hb⟩
   |_=>cases h2
 ·have h1:laidMet Tryz.prog (("math/bits.deBruijn64tab",Lib.tabData .u8 (Lib.deBruijn64tab.map fun (z:Nat)=>(z:Int)))::("internal/strconv.uint64pow10",Lib.tabData .u64 Lib.pow10Tab):: []) W:=hL.tail;have hg:Tryz.prog.globalNamed "math/bits.deBruijn64tab" =some 0:=by kernel_rfl
  have h2:=Lib.tabIs_of_head hg (by kernel_rfl) gS dR (by kernel_rfl) (by kernel_rfl) h1;unfold Lib.TabIs World.var? at h2;rw [hg,cL]at h2;cases hb:W.heap[0]? with
  |none=>rw [hb]at h2;cases h2
  |some o=>
   rw [hb]at h2;cases o with
   |cells cs t f=>
    refine ⟨t,f,?_⟩;show W.heap[0]? =_;rw [hb];have h3:=Option.some.inj h2;rw [h3,List.map_map];rfl
   |_=>cases h2
theorem wf8 {x:Int}(h:(Lit.int .u8 x).wf=true):0≤x∧x<256:=by
 simp only [Lit.wf,fO,decide_eq_true_eq]at h;have e1:IntKind.min .u8=0:=rfl;have e2:IntKind.max .u8=255:=rfl;omega
theorem X6 {α:Type}{cs:List α}(h:cs.length=7):∃a b c d e f g,cs= [a,b,c,d,e,f,g]:=by
 match cs,h with
 | [a,b,c,d,e,f,g],_=>exact ⟨a,b,c,d,e,f,g,rfl⟩
section
variable {h:AH}
theorem Jp {n:Nat}{cs:List Value}(hr:Fz bT h n 22 cs):∃(t:Slc) (l:List Int),cs= [.slice t.1 t.2.1 t.2.2] ∧Ro.SliceIs (bW .u8) (BR h) t l∧l.length≤9223372036854775807∧ ∀x∈l,0≤x∧x<256:=by
 obtain ⟨l,⟨t,e,hs⟩,h1,h2⟩:=(HM dS (by kernel_rfl) (MK dR)) n cs hr;exact ⟨t,l,e,hs,h1,fun x hx=>wf8 (h2 x hx)⟩
theorem UE {n:Nat}{cs:List Value}(hr:Fz bT h n 23 cs):∃(t:Slc) (l:List (List Int)),cs= [.slice t.1 t.2.1 t.2.2] ∧Ro.SliceIs (eV (bW .u8)) (BR h) t l∧l.length≤9223372036854775807∧ ∀r∈l,r.length≤9223372036854775807∧ ∀x∈r,0≤x∧x<256:=by
 obtain ⟨l,⟨t,e,hs⟩,h1,h2⟩:=(HM Tryz.underlying23 (by kernel_rfl) (HM dS (by kernel_rfl) (MK dR))) n cs hr;exact ⟨t,l,e,hs,h1,fun r hr=>⟨(h2 r hr).1,fun x hx=>wf8 ((h2 r hr).2 x hx)⟩⟩
theorem UF {n:Nat}{cs:List Value}(H:Fz bT h n 25 cs):∃(x:Int×Int×Slc×Slc×Slc×Slc×Slc×Unit) (d2:List Int) (d3:List (List Int)) (d4 d5 d6:List Int),
 cs= [.int .u8 x.1,.int .u8 x.2.1,sv x.2.2.1,sv x.2.2.2.1,sv x.2.2.2.2.1,sv x.2.2.2.2.2.1,sv x.2.2.2.2.2.2.1] ∧Ro.SliceIs (bW .u8) (BR h) x.2.2.1 d2∧Ro.SliceIs (eV (bW .u8)) (BR h) x.2.2.2.1 d3∧
 Ro.SliceIs (bW .u8) (BR h) x.2.2.2.2.1 d4∧Ro.SliceIs (bW .u8) (BR h) x.2.2.2.2.2.1 d5∧Ro.SliceIs (bW .u8) (BR h) x.2.2.2.2.2.2.1 d6∧SmG (x.1,x.2.1,d2,d3,d4,d5,d6):=by
 cases n with
 |zero=>exact H.elim
 |succ n=>
  unfold Fz at H;rw [Tryz.underlying25]at H;obtain ⟨hlen,hf⟩:=H;have hlen:cs.length=7:=hlen.trans (by kernel_rfl);obtain ⟨a,b,c,d,e,f,g,rfl⟩:=X6 hlen;have e1:Tryz.prog.cellsOf 5=1:=by kernel_rfl
  have e2:Tryz.prog.cellsOf 22=1:=by kernel_rfl
  have e3:Tryz.prog.cellsOf 23=1:=by kernel_rfl
  have f0:=hf _ (.head _);have f1:=hf _ (.tail _ (.head _));have f2:=hf _ (.tail _ (.tail _ (.head _)));have f3:=hf _ (.tail _ (.tail _ (.tail _ (.head _))));have f4:=hf _ (.tail _ (.tail _ (.tail _ (.tail _ (.head _)))));have f5:=hf _ (.tail _ (.tail _ (.tail _ (.tail _ (.tail _ (.head _))))));have f6:=hf _ (.tail _ (.tail _ (.tail _ (.tail _ (.tail _ (.tail _ (.head _)))))));dsimp only at f0 f1 f2 f3 f4 f5 f6;rw [e1]at f0 f1;rw [e2]at f2 f4 f5 f6;rw [e3]at f3;obtain ⟨x0,h0,w0⟩:=Lm dR f0;obtain ⟨x1,h1,w1⟩:=Lm dR f1;obtain ⟨t2,l2,h2,s2,n2,w2⟩:=Jp f2;obtain ⟨t3,l3,h3,s3,n3,w3⟩:=UE f3;obtain ⟨t4,l4,h4,s4,n4,w4⟩:=Jp f4;obtain ⟨t5,l5,h5,s5,n5,w5⟩:=Jp f5;obtain ⟨t6,l6,h6,s6,n6,w6⟩:=Jp f6;have h0: [a] =_:=h0;have h1: [b] =_:=h1;have h2: [c] =_:=h2;have h3: [d] =_:=h3;have h4: [e] =_:=h4;have h5: [f] =_:=h5;have h6: [g] =_:=h6;simp only [List.cons.injEq,and_true]at h0 h1 h2 h3 h4 h5 h6;exact ⟨(x0,x1,t2,t3,t4,t5,t6,()),l2,l3,l4,l5,l6,by rw [h0,h1,h2,h3,h4,h5,h6],s2,s3,s4,s5,s6,⟨wf8 w0,wf8 w1,⟨n2,w2⟩,⟨n3,w3⟩,⟨n4,w4⟩,⟨n5,w5⟩,⟨n6,w6⟩⟩⟩
end
def cloneD {α:Type}(l:List α):Option (List α):=if l.length≤1073741824 then some l else none
theorem FW {α:Type}{l r:List α}(h:cloneD l=some r):l.length≤1073741824∧r=l:=by
 unfold cloneD at h;split at h
 ·rename_i g;exact ⟨g,(Option.some.inj h).symm⟩
 ·cases h
theorem X7:HG bT 67 67 70 2:=⟨eQ,.inl eQ,⟨Tryz.t70,by kernel_rfl,rfl,⟨_,rfl,rfl⟩,by decide,by decide⟩,by decide⟩
theorem Xh:HG bT 54 54 73 2:=⟨iB,.inl iB,⟨Tryz.t73,by kernel_rfl,rfl,⟨_,rfl,rfl⟩,by decide,by decide⟩,by decide⟩
section
variable {φ:AD}{h:AH}{F:List Chk}
theorem MO {t:Slc}{l r:List Bu}(k:Ro.SliceIs Ck φ t l) (s0:St φ F h) (hd:cloneD l=some r):
 CallsH bT 77 [.slice t.1 t.2.1 t.2.2] h (Ar fun v h'=>∃ψ:AD,∃y:Slc,∃l1:List Bu,Sub φ ψ∧v=((.one aS):Sh).val y∧l1=r∧St ψ (cR 70 Ck y l1::F) h'):=by
 obtain ⟨hb,rfl⟩:=FW hd;refine AO mixed Tryz.func77 ?_;rw [EL];unfold Cq;cases hp:t.1 with
 |none=>
  rw [k.2.2.2.1 hp];exact AB ⟨φ,(none,0,0),[],bX _,rfl,rfl,s0.nil _ _⟩
 |some a=>
  rw [eM];refine AV (vs:=[]) s0 fun b h1 s1=> ?_;have s2:=iT (r:=Ck) (l:=[]) (n:=0) s1 .nil rfl (by decide);obtain ⟨ws,ha,hc⟩:=k.heap s1.sub;rw [hp]at hc;refine Am (r:=Ck) (ms:=r) (l':=r) X7 s2 rfl hc ha k.length.symm (by unfold app;rw [if_pos (by simpa using hb)];rfl) fun y h2 s3=>AB ⟨φ,y,_,bX _,rfl,rfl,s3⟩
theorem Pu {t:Slc}{l r:List FB}(k:Ro.SliceIs GO φ t l) (s0:St φ F h) (hd:cloneD l=some r):
 CallsH bT 79 [.slice t.1 t.2.1 t.2.2] h (Ar fun v h'=>∃ψ:AD,∃y:Slc,∃l1:List FB,Sub φ ψ∧v=((.one aS):Sh).val y∧l1=r∧St ψ (cR 73 GO y l1::F) h'):=by
 obtain ⟨hb,rfl⟩:=FW hd;refine AO mixed Tryz.func79 ?_;rw [EM];unfold Cr;cases hp:t.1 with
 |none=>
  rw [k.2.2.2.1 hp];exact AB ⟨φ,(none,0,0),[],bX _,rfl,rfl,s0.nil _ _⟩
 |some a=>
  rw [eM];refine AV (vs:=[]) s0 fun b h1 s1=> ?_;have s2:=iT (r:=GO) (l:=[]) (n:=0) s1 .nil rfl (by decide);obtain ⟨ws,ha,hc⟩:=k.heap s1.sub;rw [hp]at hc;refine Am (r:=GO) (ms:=r) (l':=r) Xh s2 rfl hc ha k.length.symm (by unfold app;rw [if_pos (by simpa using hb)];rfl) fun y h2 s3=>AB ⟨φ,y,_,bX _,rfl,rfl,s3⟩
end
section
variable {φ:AD}{h:AH}{F:List Chk}
theorem M5:HG bT 67 67 70 2:=⟨eQ,.inl eQ,⟨Tryz.t70,by kernel_rfl,rfl,⟨_,rfl,rfl⟩,by decide,by decide⟩,by decide⟩
noncomputable def Bp (a_0:HH) (items_1:List Bu) (sym_2:Int):Option (List Bu):=(forS (σ:=List Bu) 0 (items_1.length:Int) ([]:List Bu) fun i_z2 z2=>(idx items_1 i_z2).bind fun e31=>(Bc a_0 (e31.1,e31.2)).bind fun t9=>(cond (t9==sym_2) ((app z2 ([(e31.1,(bU .i64 (e31.2+1)))]:List Bu)).bind fun t14=>some t14) (some z2)).bind fun z10=>some z10).bind fun z1=>some z1
theorem JR {a_0:Option Addr}{e:HH}{items_1:Slc}{i:List Bu}{sym_2:Int}(m:Ro.SliceIs Ck φ items_1 i) (s0:St φ (cO 131 (dP CM) a_0 e::F) h) {r:(List Bu)}(hd:Bp e i sym_2=some r):
 CallsH bT 104 [(.pointer a_0),(sv items_1),(.int .i64 sym_2)] h (Ar fun v h'=>∃ψ:AD,∃y:Slc,∃n:List Bu,Sub φ ψ∧v=((.one aS):Sh).val y∧n=r∧Ro.SliceIs Ck ψ y n∧St ψ (cO 131 (dP CM) a_0 e::F) h'):=by
 refine AO mixed Tryz.func104 ?_;rw [JB];unfold GU;unfold Bp at hd;have o:items_1.2.1=eX i:=m.length;obtain ⟨b1,a1,hd⟩:=bS hd;refine B9 a1 (fun a2 (y:Int×Slc×Unit) w_ g=>∃ψ:AD,∃p:List Bu,Sub φ ψ∧y.1=a2∧p=g∧St ψ (cR 70 Ck y.2.1 p::cO 131 (dP CM) a_0 e::F) w_) ((0:Int),((none,0,0):Slc),()) rfl ⟨φ,[],(bX _),rfl,rfl,(((s0.nil 70 Ck).at1).at1)⟩ ?_ ?_ ?_
 ·rintro _ z2 b2 _ _ ⟨b3,a3,q,rfl,rfl,j⟩ c a4 s u;try dsimp only at c a4 s u
  refine Aa (dT o s) ?_;obtain ⟨b,a5,c⟩:=bS c;obtain ⟨b4,b5,a6,a7,a8,w⟩:=(m.mono q).get a5;refine AF _ a6 (AY a7 ?_);obtain ⟨_,_,rfl,rfl,rfl⟩:=a8;refine AC (x:=b.1) (AE j.sub (w 0 _ rfl)) rfl<|AC (x:=b.2) (by rw [Ah];exact (AE j.sub (w 1 _ rfl))) rfl<|AV (vs:=[.int .i64 (0:Int),.int .i64 (0:Int)]) j fun r6 b6 ab=>AR ab rfl rfl fun b7 ac=>AR ac rfl rfl fun b8 k=>AA (x:=b.1) k rfl<|AA (x:=b.2) k rfl ?_;obtain ⟨b9,ad,c⟩:=bS c;refine AI (DB (x_1:=(b.1,b.2,())) k.at2 ad) ?_;rintro _ ba ⟨l,t9,ae,rfl,rfl,f⟩;refine ⟨t9,rfl,?_⟩;obtain ⟨af,d,c⟩:=bS c;refine Aj (fun (y:Slc×Unit) w_ g=>∃ψ:AD,∃z:List Bu,Sub l ψ∧z=g∧St ψ (cR 70 Ck y.1 z::cO 131 (dP CM) a_0 e::cW 70 r6 [.int .i64 b.1,.int .i64 b.2]::F) w_) (g:=af) ?_ ?_
  ·refine AK d rfl (fun _ d=> ?_) (fun _ d=> ?_)
   ·refine AA (x:=b.1) f.at1 rfl<|AA (x:=b.2) f.at1 rfl<|AV (vs:=[.int .i64 b.1,.int .i64 (wN b.2)]) f fun r13 bb a0=> ?_;obtain ⟨ag,ah,d⟩:=bS d;refine Am (r:=Ck) (ms:=([(b.1,(wN b.2))]:List Bu)) M5 a0.tail.at2 rfl (eZ a0) (.cons (a:=[_,_]) ⟨[_],_,rfl,rfl,rfl⟩ .nil) rfl ah ?_;intro t14 bc ai;obtain rfl:=iS d;exact AQ (t14,()) rfl ⟨l,ag,(bX _),rfl,ai.at2.at2.at2⟩
   obtain rfl:=iS d;exact AQ (z2.2.1,()) rfl ⟨l,a3,(bX _),rfl,f.at2.at2.at2.at2⟩
  rintro z10 bd ⟨aj,ak,al,rfl,am⟩;try dsimp only at c
  obtain rfl:=iS c;exact Ad ((wN z2.1),z10.1,()) _ rfl rfl ⟨aj,ak,((q.trans ae).trans al),u,rfl,am.at2.tail.at1.at1⟩
 ·rintro _ z2 be ⟨an,ao,ap,rfl,rfl,aq⟩ ar;refine AT (dF o ar)<|AJ (AL (z2.1,z2.2.1,()) rfl ⟨_,an,ao,ap,rfl,rfl,aq.at1.at1⟩)
 rintro z1 bf ⟨_,bg,au,av,_,rfl,aw⟩;try dsimp only at hd
 obtain ⟨ax,ay,az,b0⟩:=fE (t:=z1.2.1) aw;obtain rfl:=iS hd;exact AB ⟨ax,z1.2.1,au,(av.trans ay),rfl,rfl,az,b0⟩
noncomputable def CG (a_0:Da) (n_1:Int):Option (List Bu×List Bu×List FB×Int×Int):=(cond (decide (n_1< 0)) (some true) (some (decide (n_1≥ (a_0.2.2.2.2.2.2.1.length:Int))))).bind fun z2=>cond z2 (some (([]:List Bu),([]:List Bu),([]:List FB),0,0)) ((idx a_0.2.2.2.2.2.2.1 n_1).bind fun e83=>some (e83.1,e83.2.1,e83.2.2.1,e83.2.2.2.1,e83.2.2.2.2))
theorem EO {a_0:Option Addr}{o:Da}{n_1:Int}(p:Pt GR φ a_0 o) (s0:St φ (F) h) {r:(List Bu×List Bu×List FB×Int×Int)}(hd:CG o n_1=some r):
 CallsH bT 78 [(.pointer a_0),(.int .i64 n_1)] h (Ar fun v h'=>∃ψ:AD,∃y:Slc×Slc×Slc×Int×Int×Unit,∃q:List Bu,∃s:List Bu,∃t:List FB,Sub φ ψ∧v=((.one (.agg [.slice,.slice,.slice,(.int .i64),(.int .i64)])):Sh).val y∧(q,s,t,y.2.2.2.1,y.2.2.2.2.1)=r∧Ro.SliceIs Ck ψ y.1 q∧Ro.SliceIs Ck ψ y.2.1 s∧Ro.SliceIs GO ψ y.2.2.1 t∧St ψ (F) h'):=by
 refine AO mixed Tryz.func78 ?_;rw [Ka];unfold HT;unfold CG at hd;refine AV (vs:=[.slice none 0 0,.slice none 0 0,.slice none 0 0,.int .i64 (0:Int),.int .i64 (0:Int)]) s0 fun r1 aw k=> ?_;obtain ⟨w,e,hd⟩:=bS hd;refine Aj (fun (y:Bool×Unit) w_ g=>∃ψ:AD,Sub φ ψ∧y.1=g∧St ψ (Wq6 r1::F) w_) (g:=w) ?_ ?_
 ·refine AK e rfl (fun _ e=> ?_) (fun _ e=> ?_)
  ·obtain rfl:=iS e;exact AQ (true,()) rfl ⟨φ,(bX _),rfl,k⟩
  obtain ⟨ax,ay,z,⟨_,_,rfl,⟨az,rfl,b0⟩,_,_,rfl,⟨b1,rfl,b2⟩,_,_,rfl,⟨b3,rfl,b4⟩,_,_,rfl,⟨b5,rfl,b6⟩,_,_,rfl,⟨b7,rfl,b8⟩,_,_,rfl,⟨b9,rfl,ba⟩,_,_,rfl,⟨u,rfl,a0⟩,rfl⟩,a1⟩:=id p;have a2:=a0.length;refine AF _ z<|AC (x:=u) (AE k.sub (a1.at 6 rfl)) rfl ?_;obtain rfl:=iS e;exact AQ ((decide (n_1≥ (u.2.1:Int))),()) rfl ⟨φ,(bX _),(by rw [a2]),k⟩
 rintro z2 bb ⟨f,j,rfl,b⟩;try dsimp only at hd
 refine AK hd rfl (fun _ hd=> ?_) (fun _ hd=> ?_)
 ·refine AR b rfl rfl fun bc a3=>AR a3 rfl rfl fun bd a4=>AR a4 rfl rfl fun be a5=>AR a5 rfl rfl fun bf a6=>AR a6 rfl rfl fun bg c=>AA (x:=((none,0,0):Slc)) c rfl<|AA (x:=((none,0,0):Slc)) c rfl<|AA (x:=((none,0,0):Slc)) c rfl<|AA (x:=(0:Int)) c rfl<|AA (x:=(0:Int)) c rfl ?_;obtain rfl:=iS hd;exact AB ⟨f,(((none,0,0):Slc),((none,0,0):Slc),((none,0,0):Slc),(0:Int),(0:Int),()),[],[],[],j,rfl,rfl,(eP Ck f),(eP Ck f),(eP GO f),c.tail⟩
 obtain ⟨bh,bi,a7,⟨_,_,rfl,⟨bj,rfl,bk⟩,_,_,rfl,⟨bl,rfl,bm⟩,_,_,rfl,⟨bn,rfl,bo⟩,_,_,rfl,⟨bp,rfl,bq⟩,_,_,rfl,⟨br,rfl,bs⟩,_,_,rfl,⟨bt,rfl,bu⟩,_,_,rfl,⟨a8,rfl,a9⟩,rfl⟩,aa⟩:=id p;refine AF _ a7<|AC (x:=a8) (AE (iN j b.sub) (aa.at 6 rfl)) rfl ?_;obtain ⟨a,ab,hd⟩:=bS hd;obtain ⟨bv,bw,ac,ad,ae,i⟩:=(a9.mono j).get ab;refine AF _ ac (AY ad ?_);obtain ⟨_,_,rfl,⟨l,rfl,ah⟩,⟨_,_,rfl,⟨m,rfl,ak⟩,⟨_,_,rfl,⟨n,rfl,an⟩,⟨_,_,rfl,rfl,rfl⟩⟩⟩⟩:=ae;refine AC (x:=l) (AE b.sub (i 0 _ rfl)) rfl<|AC (x:=m) (by rw [Ah];exact (AE b.sub (i 1 _ rfl))) rfl<|AC (x:=n) (by rw [Ah];exact (AE b.sub (i 2 _ rfl))) rfl<|AC (x:=a.2.2.2.1) (by rw [Ah];exact (AE b.sub (i 3 _ rfl))) rfl<|AC (x:=a.2.2.2.2) (by rw [Ah];exact (AE b.sub (i 4 _ rfl))) rfl<|AR b rfl rfl fun bx aq=>AR aq rfl rfl fun bz ar=>AR ar rfl rfl fun c0 au=>AR au rfl rfl fun c1 av=>AR av rfl rfl fun c2 d=>AA (x:=l) d rfl<|AA (x:=m) d rfl<|AA (x:=n) d rfl<|AA (x:=a.2.2.2.1) d rfl<|AA (x:=a.2.2.2.2) d rfl ?_;obtain rfl:=iS hd;exact AB ⟨f,(l,m,n,a.2.2.2.1,a.2.2.2.2,()),a.1,a.2.1,a.2.2.1,j,rfl,rfl,ah,ak,an,d.tail⟩
noncomputable def BW (a_0:Da):Option Int:=some (a_0.2.2.2.2.2.2.1.length:Int)
theorem CY {a_0:Option Addr}{a:Da}(c:Pt GR φ a_0 a) (s0:St φ (F) h) {r:Int}(hd:BW a=some r):
 CallsH bT 20 [(.pointer a_0)] h (Ar fun v h'=>∃ψ:AD,∃y:Int,Sub φ ψ∧v=((.one aI):Sh).val y∧y=r∧St ψ (F) h'):=by
 refine AO mixed Tryz.func20 ?_;rw [Jz];unfold Gw;unfold BW at hd;obtain ⟨i,j,d,⟨_,_,rfl,⟨k,rfl,l⟩,_,_,rfl,⟨m,rfl,n⟩,_,_,rfl,⟨o,rfl,p⟩,_,_,rfl,⟨q,rfl,s⟩,_,_,rfl,⟨t,rfl,u⟩,_,_,rfl,⟨w,rfl,z⟩,_,_,rfl,⟨b,rfl,e⟩,rfl⟩,f⟩:=id c;have g:=e.length;refine AF _ d<|AC (x:=b) (AE s0.sub (f.at 6 rfl)) rfl ?_;obtain rfl:=iS hd;exact AB ⟨φ,(b.2.1:Int),(bX _),rfl,(by rw [g]),s0⟩
noncomputable def BN (a_0:Da) (n_1:Int) (sym_2:Int):Option Int:=
 (CG a_0 n_1).bind fun t1=>
 (C2 (σ:=Unit) (β:=Int) 0 (t1.2.2.1.length:Int) () fun i_z3 z3=>
  (idx t1.2.2.1 i_z3).bind fun e37=>
  cond (e37.1==sym_2)
  (some (fR e37.2))
  (some (fS ()))).bind fun e_z2=>match e_z2 with
 |.next z2=>
  some (-1:Int)
 |.done q60=>some q60
theorem DE {a_0:Option Addr}{f:Da}{n_1:Int}{sym_2:Int}(q:Pt GR φ a_0 f) (s0:St φ (F) h) {r:Int}(hd:BN f n_1 sym_2=some r):
 CallsH bT 41 [(.pointer a_0),(.int .i64 n_1),(.int .i64 sym_2)] h (Ar fun v h'=>∃ψ:AD,∃y:Int,Sub φ ψ∧v=((.one aI):Sh).val y∧y=r∧St ψ (F) h'):=by
 refine AO mixed Tryz.func41 ?_;rw [KZ];unfold HS;unfold BN at hd;obtain ⟨ah,s,hd⟩:=bS hd;refine AI (EO q s0 s) ?_;rintro _ ai ⟨i,t1,aj,ak,al,j,rfl,rfl,am,an,k,t⟩;refine ⟨t1,rfl,?_⟩;try dsimp only at hd
 have l:=k.length;obtain ⟨ao,u,hd⟩:=bS hd;refine BK u (fun w (y:Int×Int×Unit) w_ g=>∃ψ:AD,Sub i ψ∧y.1=w∧()=g∧St ψ (F) w_) ((0:Int),(0:Int),()) rfl ⟨i,(bX _),rfl,rfl,t⟩ ?_ ?_ ?_
 ·rintro _ z3 ap _ _ ⟨m,d,rfl,rfl,e⟩ a z n o a0;try dsimp only at a z n o
  refine Aa (dT l n) ?_;obtain ⟨b,a1,a⟩:=bS a;obtain ⟨aq,ar,a2,a3,a4,p⟩:=(k.mono d).get a1;refine AF _ a2 (AY a3 ?_);obtain ⟨_,_,rfl,rfl,rfl⟩:=a4;refine AC (x:=b.1) (AE e.sub (p 0 _ rfl)) rfl<|AC (x:=b.2) (by rw [Ah];exact (AE e.sub (p 1 _ rfl))) rfl<|AV (vs:=[.int .i64 (0:Int),.int .i64 (0:Int)]) e fun r7 au a7=>AR a7 rfl rfl fun av a8=>AR a8 rfl rfl fun aw c=>AA (x:=b.1) c rfl<|AK a rfl (fun _ a=> ?_) (fun _ a=> ?_)
  ·refine AA (x:=b.2) c rfl ?_;obtain rfl:=iS a;obtain rfl:=a0 _ rfl;try dsimp only at hd
   obtain rfl:=iS hd;exact Ag (Ai (AB ⟨m,b.2,(j.trans d),rfl,rfl,c.tail⟩))
  obtain rfl:=iS a;exact Ad ((wN z3.1),z3.2.1,()) _ rfl rfl ⟨m,d,o,rfl,c.tail⟩
 ·rintro _ z3 ax _ ⟨a9,aa,rfl,rfl,ab⟩ ac ad;subst ad;refine AT (dF l ac)<|AJ (AL (z3.1,z3.2.1,()) rfl ⟨_,rfl,_,a9,aa,rfl,rfl,ab⟩)
 rintro z2 ay ⟨_,rfl,_,ae,af,_,rfl,ag⟩;try dsimp only at hd
 obtain rfl:=iS hd;exact AB ⟨ae,(-1:Int),(j.trans af),rfl,rfl,ag⟩
noncomputable def Bq (a_0:Da) (n_1:Int) (seq_2:List Int):Option Int:=(cond (decide (n_1< 0)) (some true) (some (decide (n_1≥ (a_0.2.2.2.2.2.2.1.length:Int))))).bind fun z1=>cond z1 (some (-1:Int)) (((C2 (σ:=Int) (β:=Int) 0 (seq_2.length:Int) n_1 fun i_z5 z5=>(idx seq_2 i_z5).bind fun e53=>(BN a_0 z5 e53).bind fun t8=>cond (decide (t8< 0)) (some (fR t8)) (some (fS t8))).map Ab.get).bind fun z4=>some z4)
theorem Di {a_0:Option Addr}{i:Da}{n_1:Int}{seq_2:Slc}{f:List Int}(j:Pt GR φ a_0 i) (k:Ro.SliceIs (bW .i64) φ seq_2 f) (s0:St φ (F) h) {r:Int}(hd:Bq i n_1 f=some r):
 CallsH bT 72 [(.pointer a_0),(.int .i64 n_1),(sv seq_2)] h (Ar fun v h'=>∃ψ:AD,∃y:Int,Sub φ ψ∧v=((.one aI):Sh).val y∧y=r∧St ψ (F) h'):=by
 refine AO mixed Tryz.func72 ?_;rw [JA];unfold GT;unfold Bq at hd;have l:seq_2.2.1=eX f:=k.length;obtain ⟨w,b,hd⟩:=bS hd;refine Aj (fun (y:Bool×Unit) w_ g=>∃ψ:AD,Sub φ ψ∧y.1=g∧St ψ (F) w_) (g:=w) ?_ ?_
 ·refine AK b rfl (fun _ b=> ?_) (fun _ b=> ?_)
  ·obtain rfl:=iS b;exact AQ (true,()) rfl ⟨φ,(bX _),rfl,s0⟩
  obtain ⟨al,am,z,⟨_,_,rfl,⟨an,rfl,ao⟩,_,_,rfl,⟨ap,rfl,aq⟩,_,_,rfl,⟨ar,rfl,au⟩,_,_,rfl,⟨av,rfl,aw⟩,_,_,rfl,⟨ax,rfl,ay⟩,_,_,rfl,⟨az,rfl,b0⟩,_,_,rfl,⟨m,rfl,a0⟩,rfl⟩,a1⟩:=id j;have a2:=a0.length;refine AF _ z<|AC (x:=m) (AE s0.sub (a1.at 6 rfl)) rfl ?_;obtain rfl:=iS b;exact AQ ((decide (n_1≥ (m.2.1:Int))),()) rfl ⟨φ,(bX _),(by rw [a2]),s0⟩
 rintro z1 b1 ⟨c,d,rfl,n⟩;try dsimp only at hd
 refine AK hd rfl (fun _ hd=> ?_) (fun _ hd=> ?_)
 ·obtain rfl:=iS hd;exact AB ⟨c,(-1:Int),d,rfl,rfl,n⟩
 obtain ⟨b2,a3,hd⟩:=bS hd;obtain ⟨a4,a5,a6⟩:=Option.map_eq_some_iff.1 a3;subst a6;refine Ap (fun (y:Int×Int×Unit) w_ g=>∃ψ:AD,Sub c ψ∧y.2.1=g∧St ψ (F) w_) (g:=(Ab.get a4)) ?_ ?_
 ·refine Ld a5 (fun a7 (y:Int×Int×Unit) w_ g=>∃ψ:AD,Sub c ψ∧y.1=a7∧y.2.1=g∧St ψ (F) w_) ((0:Int),n_1,()) rfl ⟨c,(bX _),rfl,rfl,n⟩ ?_ ?_
  ·rintro _ z5 b3 _ _ ⟨b4,e,rfl,rfl,o⟩ a a8 p q a9;try dsimp only at a a8 p q
   refine Aa (dT l p) ?_;obtain ⟨b5,aa,a⟩:=bS a;refine Ce k aa (iN (d.trans e) o.sub) ?_;obtain ⟨b6,ab,a⟩:=bS a;refine AI (DE (j.mono (d.trans e)) o ab) ?_;rintro _ b7 ⟨s,t8,t,rfl,rfl,u⟩;refine ⟨t8,rfl,?_⟩;refine AK a rfl (fun _ a=> ?_) (fun _ a=> ?_)
   ·obtain rfl:=iS a;obtain rfl:=a9 _ rfl;exact AJ (AL (z5.1,t8,()) rfl ⟨s,(e.trans t),rfl,u⟩)
   obtain rfl:=iS a;exact Ad ((wN z5.1),t8,()) _ rfl rfl ⟨s,(e.trans t),q,rfl,u⟩
  ·rintro _ z5 b8 _ ⟨ac,ad,rfl,rfl,ae⟩ af ag;subst ag;refine AT (dF l af)<|AJ (AL (z5.1,z5.2.1,()) rfl ⟨ac,ad,rfl,ae⟩)
 rintro z4 b9 ⟨ah,ai,aj,ak⟩;rw [←aj]at hd;try dsimp only at hd
 obtain rfl:=iS hd;exact AB ⟨ah,z4.2.1,(d.trans ai),rfl,rfl,ak⟩
end
section
variable {φ:AD}{h:AH}{F:List Chk}
theorem M7:HG bT 22 22 5 1:=⟨dS,.inl dS,⟨Tryz.t5,by kernel_rfl,rfl,⟨_,rfl,rfl⟩,by decide,by decide⟩,by decide⟩
noncomputable def Dt (kernel_0:List Bu):Option ByteArray:=(forS (σ:=List Int) 0 (kernel_0.length:Int) ([]:List Int) fun i_z2 z2=>(idx kernel_0 i_z2).bind fun e28=>(Dh z2 e28.1 10).bind fun t8=>(app t8 ([(46:Int)]:List Int)).bind fun t10=>(Dh t10 e28.2 10).bind fun t12=>(app t12 ([(32:Int)]:List Int)).bind fun t14=>some t14).bind fun z1=>(RX z1).bind fun t15=>some t15
theorem MS {h:AH}{kernel_0:Slc}{d:List Bu}(gk:Glob (BR h)) (f:Ro.SliceIs Ck (BR h) kernel_0 d) (s0:St (BR h) [] h) {r:ByteArray}(hd:Dt d=some r):
 CallsH bT 100 [(sv kernel_0)] h (Ar fun v h'=>∃ψ:AD,∃y:ByteArray,Sub (BR h) ψ∧v=((.one (.atom .string)):Sh).val y∧y=r∧St ψ [] h'):=by
 refine AO mixed Tryz.func100 ?_;rw [Mo];unfold Kv;unfold Dt at hd;have i:kernel_0.2.1=eX d:=f.length;obtain ⟨ap,w,hd⟩:=bS hd;refine B9 w (fun z (y:Int×Slc×Unit) w_ g=>∃ψ:AD,∃j:List Int,Sub (BR h) ψ∧ψ=(BR h)∧y.1=z∧j=g∧St ψ (cR 5 (bW .u8) y.2.1 j:: []) w_) ((0:Int),((none,0,0):Slc),()) rfl ⟨(BR h),[],(bX _),rfl,rfl,rfl,(s0.nil 5 (bW .u8))⟩ ?_ ?_ ?_
 ·rintro _ z2 aq _ _ ⟨ar,au,k,rfl,rfl,rfl,e⟩ b a0 l m;try dsimp only at b a0 l m
  refine Aa (dT i l) ?_;obtain ⟨c,a1,b⟩:=bS b;obtain ⟨av,aw,a2,a3,a4,n⟩:=(f.mono k).get a1;refine AF _ a2 (AY a3 ?_);obtain ⟨_,_,rfl,rfl,rfl⟩:=a4;refine AC (x:=c.1) (AE e.sub (n 0 _ rfl)) rfl<|AC (x:=c.2) (by rw [Ah];exact (AE e.sub (n 1 _ rfl))) rfl<|AV (vs:=[.int .i64 (0:Int),.int .i64 (0:Int)]) e fun r6 ax a7=>AR a7 rfl rfl fun ay a8=>AR a8 rfl rfl fun az o=>AA (x:=c.1) o rfl ?_;obtain ⟨b0,a9,b⟩:=bS b;refine AI (KN gk o.at1 a9) ?_;rintro _ b1 ⟨b2,t8,b3,aa,rfl,rfl,rfl,ab⟩;refine ⟨t8,rfl,?_⟩;refine AV (vs:=[.int .u8 (46:Int)]) ab fun r9 b4 p=> ?_;obtain ⟨b5,ac,b⟩:=bS b;refine Am (r:=(bW .u8)) (ms:=([(46:Int)]:List Int)) M7 p.tail rfl (eZ p) (.cons (a:=[_]) rfl .nil) rfl ac ?_;intro t10 b6 q;refine AA (x:=c.2) q.at1 rfl ?_;obtain ⟨b7,ad,b⟩:=bS b;refine AI (KN gk q ad) ?_;rintro _ b8 ⟨b9,t12,ba,ae,rfl,rfl,rfl,af⟩;refine ⟨t12,rfl,?_⟩;refine AV (vs:=[.int .u8 (32:Int)]) af fun r13 bb s=> ?_;obtain ⟨ag,ah,b⟩:=bS b;refine Am (r:=(bW .u8)) (ms:=([(32:Int)]:List Int)) M7 s.tail rfl (eZ s) (.cons (a:=[_]) rfl .nil) rfl ah ?_;intro t14 bc ai;obtain rfl:=iS b;exact Ad ((wN z2.1),t14,()) _ rfl rfl ⟨(BR h),ag,((k.trans aa).trans ae),rfl,m,rfl,ai.at1.tail⟩
 ·rintro _ z2 bd ⟨be,aj,ak,rfl,rfl,rfl,al⟩ am;refine AT (dF i am)<|AJ (AL (z2.1,z2.2.1,()) rfl ⟨_,(BR h),aj,ak,rfl,rfl,rfl,al⟩)
 rintro z1 bf ⟨_,bg,bh,an,rfl,_,rfl,t⟩;try dsimp only at hd
 obtain ⟨u,ao,hd⟩:=bS hd;refine Qk (x:=u) dS dR eU (St.bytes t) ao ?_;obtain rfl:=iS hd;exact AB ⟨(BR h),u,an,(by first | with_reducible rfl | (show Value.string _=Value.string _;with_reducible rfl)|rfl),(by first | with_reducible rfl | rfl),t.tail⟩
theorem JS {kernel_0:Slc}{a:List Bu}(gk:Glob φ) (b:Ro.SliceIs Ck φ kernel_0 a) (s0:St φ (F) h) {r:ByteArray}(hd:Dt a=some r):
 CallsH bT 100 [(sv kernel_0)] h (Ar fun v h'=>∃ψ:AD,∃y:ByteArray,Sub φ ψ∧v=((.one (.atom .string)):Sh).val y∧y=r∧St ψ (F) h'):=by
 refine CallsH.mono (MS (gk.mono s0.sub) (b.mono s0.sub) (bX _) hd) ?_;rintro e h' ⟨v,rfl,ψ,y,hs,rfl,rfl,s1⟩;exact ⟨_,rfl,φ,y,bX _,rfl,rfl,s0.keep (hs.trans s1.sub)⟩
noncomputable def BS (a_0:HH) (items_1:List Bu):Option (List Int):=(forS (σ:=List Int) 0 (items_1.length:Int) ([]:List Int) fun i_z2 z2=>(idx items_1 i_z2).bind fun e31=>(Bc a_0 (e31.1,e31.2)).bind fun t9=>(cond (decide (t9≥ 0)) ((app z2 ([t9]:List Int)).bind fun t12=>some t12) (some z2)).bind fun z10=>some z10).bind fun z1=>(Rb z1).bind fun t13=>(LC t13).bind fun t14=>some t14
theorem Hh {a_0:Option Addr}{e:HH}{items_1:Slc}{f:List Bu}(l:Ro.SliceIs Ck φ items_1 f) (s0:St φ (cO 131 (dP CM) a_0 e::F) h) {r:(List Int)}(hd:BS e f=some r):
 CallsH bT 103 [(.pointer a_0),(sv items_1)] h (Ar fun v h'=>∃ψ:AD,∃y:Slc,∃m:List Int,Sub φ ψ∧v=((.one aS):Sh).val y∧m=r∧Ro.SliceIs (bW .i64) ψ y m∧St ψ (cO 131 (dP CM) a_0 e::F) h'):=by
 refine AO mixed Tryz.func103 ?_;rw [HV];unfold Ex;unfold BS at hd;have n:items_1.2.1=eX f:=l.length;obtain ⟨b7,a1,hd⟩:=bS hd;refine B9 a1 (fun a2 (y:Int×Slc×Unit) w_ g=>∃ψ:AD,∃o:List Int,Sub φ ψ∧y.1=a2∧o=g∧St ψ (cR 3 (bW .i64) y.2.1 o::cO 131 (dP CM) a_0 e::F) w_) ((0:Int),((none,0,0):Slc),()) rfl ⟨φ,[],(bX _),rfl,rfl,(((s0.nil 3 (bW .i64)).at1).at1)⟩ ?_ ?_ ?_
 ·rintro _ z2 b8 _ _ ⟨b9,a3,p,rfl,rfl,i⟩ b a4 q s;try dsimp only at b a4 q s
  refine Aa (dT n q) ?_;obtain ⟨c,a5,b⟩:=bS b;obtain ⟨ba,bb,a6,a7,a8,u⟩:=(l.mono p).get a5;refine AF _ a6 (AY a7 ?_);obtain ⟨_,_,rfl,rfl,rfl⟩:=a8;refine AC (x:=c.1) (AE i.sub (u 0 _ rfl)) rfl<|AC (x:=c.2) (by rw [Ah];exact (AE i.sub (u 1 _ rfl))) rfl<|AV (vs:=[.int .i64 (0:Int),.int .i64 (0:Int)]) i fun r6 bc ab=>AR ab rfl rfl fun bd ac=>AR ac rfl rfl fun be j=>AA (x:=c.1) j rfl<|AA (x:=c.2) j rfl ?_;obtain ⟨bf,ad,b⟩:=bS b;refine AI (DB (x_1:=(c.1,c.2,())) j.at2 ad) ?_;rintro _ bg ⟨k,t9,ae,rfl,rfl,w⟩;refine ⟨t9,rfl,?_⟩;obtain ⟨af,d,b⟩:=bS b;refine Aj (fun (y:Slc×Unit) w_ g=>∃ψ:AD,∃z:List Int,Sub k ψ∧z=g∧St ψ (cR 3 (bW .i64) y.1 z::cO 131 (dP CM) a_0 e::cW 70 r6 [.int .i64 c.1,.int .i64 c.2]::F) w_) (g:=af) ?_ ?_
  ·refine AK d rfl (fun _ d=> ?_) (fun _ d=> ?_)
   ·refine AV (vs:=[.int .i64 t9]) w fun r11 bh a0=> ?_;obtain ⟨ag,ah,d⟩:=bS d;refine Am (r:=(bW .i64)) (ms:=([t9]:List Int)) FG a0.tail.at2 rfl (eZ a0) (.cons (a:=[_]) rfl .nil) rfl ah ?_;intro t12 bi ai;obtain rfl:=iS d;exact AQ (t12,()) rfl ⟨k,ag,(bX _),rfl,ai.at2.at2.at2⟩
   obtain rfl:=iS d;exact AQ (z2.2.1,()) rfl ⟨k,a3,(bX _),rfl,w.at2.at2.at2.at2⟩
  rintro z10 bj ⟨aj,ak,al,rfl,am⟩;try dsimp only at b
  obtain rfl:=iS b;exact Ad ((wN z2.1),z10.1,()) _ rfl rfl ⟨aj,ak,((p.trans ae).trans al),s,rfl,am.at2.tail.at1.at1⟩
 ·rintro _ z2 bk ⟨an,ao,ap,rfl,rfl,aq⟩ ar;refine AT (dF n ar)<|AJ (AL (z2.1,z2.2.1,()) rfl ⟨_,an,ao,ap,rfl,rfl,aq.at1.at1⟩)
 rintro z1 bl ⟨_,bm,bn,au,_,rfl,av⟩;try dsimp only at hd
 obtain ⟨bo,aw,hd⟩:=bS hd;refine AI (SW av aw) ?_;rintro _ bp ⟨bq,t13,br,ax,rfl,rfl,ay⟩;refine ⟨t13,rfl,?_⟩;obtain ⟨bs,az,hd⟩:=bS hd;refine AI (PZ ay az) ?_;rintro _ bt ⟨bu,t14,b0,b1,rfl,rfl,b2⟩;refine ⟨t14,rfl,?_⟩;obtain ⟨b3,b4,b5,b6⟩:=fE (t:=t14) b2;obtain rfl:=iS hd;exact AB ⟨b3,t14,b0,(((au.trans ax).trans b1).trans b4),rfl,rfl,b5,b6⟩
noncomputable def B0 (a_0:Da) (n_1:Int):Option (List Bu):=(CG a_0 n_1).bind fun t1=>(cloneD t1.2.1).bind fun t2=>some t2
theorem E1 {a_0:Option Addr}{a:Da}{n_1:Int}(c:Pt GR φ a_0 a) (s0:St φ (F) h) {r:(List Bu)}(hd:B0 a n_1=some r):
 CallsH bT 32 [(.pointer a_0),(.int .i64 n_1)] h (Ar fun v h'=>∃ψ:AD,∃y:Slc,∃b:List Bu,Sub φ ψ∧v=((.one aS):Sh).val y∧b=r∧Ro.SliceIs Ck ψ y b∧St ψ (F) h'):=by
 refine AO mixed Tryz.func32 ?_;rw [If];unfold Ft;unfold B0 at hd;obtain ⟨q,d,hd⟩:=bS hd;refine AI (EO c s0 d) ?_;rintro _ s ⟨u,t1,w,x,z,e,rfl,rfl,a0,f,a1,g⟩;refine ⟨t1,rfl,?_⟩;try dsimp only at hd
 obtain ⟨a2,i,hd⟩:=bS hd;refine AI (MO f g i) ?_;rintro _ a3 ⟨a4,t2,j,k,rfl,rfl,l⟩;refine ⟨t2,rfl,?_⟩;obtain ⟨m,n,o,p⟩:=fE (t:=t2) l;obtain rfl:=iS hd;exact AB ⟨m,t2,j,((e.trans k).trans n),rfl,rfl,o,p⟩
noncomputable def B4 (a_0:Da) (n_1:Int):Option (List FB):=(CG a_0 n_1).bind fun t1=>(cloneD t1.2.2.1).bind fun t2=>some t2
theorem E5 {a_0:Option Addr}{a:Da}{n_1:Int}(c:Pt GR φ a_0 a) (s0:St φ (F) h) {r:(List FB)}(hd:B4 a n_1=some r):
 CallsH bT 34 [(.pointer a_0),(.int .i64 n_1)] h (Ar fun v h'=>∃ψ:AD,∃y:Slc,∃b:List FB,Sub φ ψ∧v=((.one aS):Sh).val y∧b=r∧Ro.SliceIs GO ψ y b∧St ψ (F) h'):=by
 refine AO mixed Tryz.func34 ?_;rw [Ig];unfold Fu;unfold B4 at hd;obtain ⟨q,d,hd⟩:=bS hd;refine AI (EO c s0 d) ?_;rintro _ s ⟨u,t1,w,x,z,e,rfl,rfl,a0,a1,f,g⟩;refine ⟨t1,rfl,?_⟩;try dsimp only at hd
 obtain ⟨a2,i,hd⟩:=bS hd;refine AI (Pu f g i) ?_;rintro _ a3 ⟨a4,t2,j,k,rfl,rfl,l⟩;refine ⟨t2,rfl,?_⟩;obtain ⟨m,n,o,p⟩:=fE (t:=t2) l;obtain rfl:=iS hd;exact AB ⟨m,t2,j,((e.trans k).trans n),rfl,rfl,o,p⟩
end
end Go.Proofs.YteolcjbobmpdiaaGreatDoor
namespace Go.Proofs.YteolcjbobmpdiaaGreatDoor
open Go Go.Eng Go.RowKit Go.Shelf Go.Sort
set_option linter.unusedVariables false
set_option maxRecDepth 100000
def orI (x y:Int):Int:=if x=0 then y else x
set_option maxHeartbeats 1000000 in
theorem or2 {b:Nat}{x y:Int}(w:World) (h0:w.cell? ⟨b,0,none⟩=some (.int .i64 x)) (h1:w.cell? ⟨b,1,none⟩=some (.int .i64 y)):
 Calls bT 157 #[.slice (some ⟨b,0,none⟩) 2 2] w fun e w'=>e= .returned (.int .i64 (orI x y))∧w'=w:=by
 have hmx:Tryz.prog.follows .mixedOrders=true:=mixed
 go_enter Tryz.func157,Tryz.ntmps157
 go_wp2
 go_loop [5,8] (fun _ i=>∃k:Nat,k≤2∧i= .int .i64 k∧(1≤k→x=0)∧(2≤k→y=0)) (fun _ i=>match i with | .int _ m=>2 - m.toNat | _=>0)
 case atStart=>exact ⟨0,by omega,rfl,by omega,by omega⟩
 case round=>
  obtain ⟨k,hk,rfl,g1,g2⟩:=hrel;have hk3:k=0∨k=1∨k=2:=by omega
  rcases hk3 with rfl | rfl | rfl
  ·go_wp2
   ·have hne:(x !=0)=true:=by assumption
    go_ret
    exact ⟨by unfold orI;rw [if_neg (by simpa using hne)];rfl,rfl⟩
   ·have hne:(x !=0)=false:=by assumption
    exact ⟨⟨1,by omega,rfl,fun _=>by simpa using hne,fun h=>by omega⟩,by decide⟩
  ·go_wp2
   ·have hne:(y !=0)=true:=by assumption
    go_ret
    have hx:=g1 (by omega);subst hx;exact ⟨rfl,rfl⟩
   ·have hne:(y !=0)=false:=by assumption
    exact ⟨⟨2,by omega,rfl,fun _=>g1 (by omega),fun _=>by simpa using hne⟩,by decide⟩
  ·go_wp2
   go_ret
   have hx:=g1 (by omega);have hy:=g2 (by omega);subst hx;subst hy;exact ⟨rfl,rfl⟩
theorem Jq {w:World}{b i:Nat}{c:Array Value}{t:TypeId}{v:Value}(hb:w.heap[b]? =some (.cells c t (0,0))) (hv:c[i]? =some v):w.cell? ⟨b,i,none⟩=some v:=by
 rw [QO,FN (c:=c) (t:=t) (f:=(0,0)) hb rfl];exact hv
theorem OE (w:World) (x y:Int):(w.alloc (.cells #[.int .i64 x,.int .i64 y] 3)).cell? ⟨w.heap.size,0,none⟩=some (.int .i64 x)∧(w.alloc (.cells #[.int .i64 x,.int .i64 y] 3)).cell? ⟨w.heap.size,1,none⟩=some (.int .i64 y):=by
 have hb:(w.alloc (.cells #[.int .i64 x,.int .i64 y] 3)).heap[w.heap.size]? =some (.cells #[.int .i64 x,.int .i64 y] 3 (0,0)):=by
  show (w.heap.push _)[w.heap.size]? =_;rw [eH,if_pos rfl]
 exact ⟨Jq hb rfl,Jq hb rfl⟩
theorem M8 (w:World) (o:Obj):w.alloc o=grow w #[o]:=by
 show ({w with heap:=w.heap.push o} :World)= {w with heap:=w.heap++ #[o]};rw [Array.push_eq_append]
set_option maxHeartbeats 4000000 in
theorem Xi {a b:Int×Int}(w:World):
 Calls bT 128 #[.agg #[.int .i64 a.1,.int .i64 a.2],.agg #[.int .i64 b.1,.int .i64 b.2]] w fun e w'=>e= .returned (.int .i64 (orI (Lib.compareInt a.1 b.1) (Lib.compareInt a.2 b.2)))∧ ∃q os',w'=grow (w.drewN q) os':=by
 have hmx:Tryz.prog.follows .mixedOrders=true:=mixed;have e61:∀args w,(callFunc 158 args).run bT w= .ok (.enter 158 args) w:=enters_of Tryz.func158 (by kernel_rfl) rfl;have e60:∀args w,(callFunc 157 args).run bT w= .ok (.enter 157 args) w:=enters_of Tryz.func157 (by kernel_rfl) rfl
 go_enter Tryz.func128,Tryz.ntmps128
 go_wp2
 obtain ⟨A,hA⟩:∃A,A=Obj.cells #[cQ .i64 a.1,cQ .i64 a.2] 70 (0,0):=⟨_,rfl⟩;obtain ⟨B,hB⟩:∃B,B=Obj.cells #[cQ .i64 b.1,cQ .i64 b.2] 70 (0,0):=⟨_,rfl⟩;obtain ⟨W,hW⟩:∃W,W=(w.alloc A).alloc B:=⟨_,rfl⟩;have hh:W.heap=(w.heap.push A).push B:=by rw [hW];rfl
 have ha:W.heap[w.heap.size]? =some A:=by rw [hh,eH,if_neg (by simp),eH,if_pos rfl]
 have hb:W.heap[w.heap.size+1]? =some B:=by rw [hh,eH,if_pos (by simp)]
 rw [←hA,←hB,←hW];rw [hA]at ha;rw [hB]at hb;have f1:W.drew.cell? ⟨w.heap.size,0,none⟩=some (.int .i64 a.1):=Jq (w:=W.drew) ha rfl;have f2:W.drew.cell? ⟨w.heap.size,1,none⟩=some (.int .i64 a.2):=Jq (w:=W.drew) ha rfl;have f3:W.drew.cell? ⟨w.heap.size+1,0,none⟩=some (.int .i64 b.1):=Jq (w:=W.drew) hb rfl;have f4:W.drew.cell? ⟨w.heap.size+1,1,none⟩=some (.int .i64 b.2):=Jq (w:=W.drew) hb rfl;have hWg:grow w #[A,B] =W:=by rw [hW,M8,M8,grow_grow];rfl
 clear hh ha hb hW hA hB;refine wp_region_still_tail 10 (by kernel_rfl) (by kernel_rfl) ?_;simp only [List.take_succ_cons,List.take_zero,List.drop_succ_cons,List.drop_zero]
 still_step
 still_step
 still_step
 still_step
 still_call (Any.cmp_Compare_int LB _ _ _)
 still_step
 still_step
 still_step
 still_step
 still_call (Any.cmp_Compare_int LB _ _ _)
 refine wpStill_nil ?_;clear f1 f2 f3 f4;change wpList _ _ _ _ _ W.drew
 generalize hV:W.drew=V
 go_wp2_with (go_at_call 157;refine (or2 (x:=Lib.compareInt a.1 b.1) (y:=Lib.compareInt a.2 b.2) _ (OE _ _ _).1 (OE _ _ _).2).mono ?_;rintro e w' ⟨rfl,rfl⟩)
 go_ret
 refine ⟨rfl,1,#[A,B] ++ #[.cells #[.int .i64 (Lib.compareInt a.1 b.1),.int .i64 (Lib.compareInt a.2 b.2)] 3 (0,0)],?_⟩;rw [M8,←hV,←hWg,←grow_grow];rfl
abbrev Item:=Int×Int
def FZ (x:Item):List Value:=[.int .i64 x.1,.int .i64 x.2]
def cfI (x y:Item):Int:=orI (Lib.compareInt x.1 y.1) (Lib.compareInt x.2 y.2)
def Dj (x y:Item):Bool:=decide (x.1<y.1∨x.1=y.1∧x.2<y.2)
def Gh (l:List Item):List Item:=N5 (fun x y=> !Dj y x) l
theorem LJ (a b c:Item) (h1:(!Dj b a)=true) (h2:(!Dj c b)=true):(!Dj c a)=true:=by
 simp only [Dj,eC,decide_eq_false_iff_not]at *;omega
theorem LK (a b:Item):(!Dj b a || !Dj a b)=true:=by
 simp only [Dj,fW,eC,decide_eq_false_iff_not];omega
theorem Sd (l:List Item):Gh l=l.mergeSort fun x y=> !Dj y x:=
 PY LJ LK (fun a b h1 h2=>by
  simp only [Dj,eC,decide_eq_false_iff_not]at *;exact iR (by omega) (by omega)) l
def ID (l:List Item):Option (List Item):=if l.length<4611686018427387904 then some (Gh l) else none
theorem Se {φ:AD}{vs:List Value}{l:List Item}(H:Ck.All φ vs l):vs=l.flatMap FZ:=by
 induction H with
 |nil=>rfl
 |cons h _ ih=>
  obtain ⟨_,_,rfl,rfl,rfl⟩:=h;rw [ih,fN];rfl
theorem Sf {φ:AD}(l:List Item):Ck.All φ (l.flatMap FZ) l:=by
 induction l with
 |nil=>exact .nil
 |cons x l ih=>exact gA (a:=FZ x) ⟨[_],_,rfl,rfl,rfl⟩ ih
theorem UG (l:List Item):∀t:Nat,t<l.length *2→(l.flatMap FZ)[t]? =some ((FZ (l[t / 2]?.getD (0,0)))[t % 2]!):=by
 induction l with
 |nil=>intro t h;simp at h
 |cons x l ih=>
  intro t h;rw [fN]
  match t with
  | 0=>rfl
  | 1=>rfl
  |t+2=>
   rw [cZ (by simp [FZ])];have e:t+2 - (FZ x).length=t:=by simp [FZ]
   rw [e,ih t (by simp at h;omega),show (t+2) / 2=t / 2+1 by omega,List.getElem?_cons_succ,show (t+2) % 2=t % 2 by omega]
theorem LL (l:List Item):(l.flatMap FZ).length=l.length *2:=by
 induction l with
 |nil=>rfl
 |cons x l ih=>rw [fN,cS,ih,cA];simp [FZ];omega
theorem M9 (l:List Item):flatK FZ 2 l.toArray=(l.flatMap FZ).toArray:=by
 refine ext_get! (by rw [size_flatK,cU,cU,LL]) fun t ht=> ?_;rw [size_flatK,cU]at ht;rw [get_flatK _ _ _ _ (by simpa using ht)];have h1:=UG l t ht;have ht':t< (l.flatMap FZ).length:=by rw [LL];exact ht
 rw [bR ht']at h1;rw [getElem!_pos _ t (by simpa using ht')];have h2:t / 2<l.length:=by omega
 rw [getElem!_pos _ (t / 2) (by simpa using h2)];rw [bR h2]at h1;simp only [List.getElem_toArray];exact (Option.some.inj h1).symm
theorem NA (x y:Item):ltOf cfI x y=Dj x y:=by
 unfold ltOf cfI Dj orI Lib.compareInt;by_cases h1:x.1<y.1
 ·simp [h1]
 ·by_cases h2:y.1<x.1
  ·have:¬x.1=y.1:=by omega
   simp [h1,h2,this]
  ·have h3:x.1=y.1:=by omega
   by_cases h4:x.2<y.2
   ·simp [h3,h4]
   ·by_cases h5:y.2<x.2<;>simp [h3,h4,h5]
theorem Q2 (x y:Item):Dj x y=true↔(x.1<y.1∨x.1=y.1∧x.2<y.2):=by unfold Dj;exact decide_eq_true_iff
theorem JT (x y:Item):Dj x y=false↔¬(x.1<y.1∨x.1=y.1∧x.2<y.2):=by unfold Dj;exact decide_eq_false_iff_not
theorem X8:SWO (ltOf cfI) where
 irrefl x:=by rw [NA,JT];omega
 trans x y z h1 h2:=by rw [NA,Q2]at *;omega
 ntrans x y z h1 h2:=by rw [NA,JT]at *;omega
theorem X9 (x y:Item) (h1:ltOf cfI x y=false) (h2:ltOf cfI y x=false):x=y:=by
 rw [NA,JT]at h1 h2;exact iR (by omega) (by omega)
section
variable {φ:AD}{h:AH}{F:List Chk}
theorem Q3 {t:Slc}{l r:List Item}(s0:St φ (cR 70 Ck t l::F) h) (hd:ID l=some r):
 CallsH bT 127 [.slice t.1 t.2.1 t.2.2,.func (.func 128) #[] #[]] h (Ar fun v h'=>∃ψ:AD,∃y:Unit,∃l1:List Item,Sub φ ψ∧v=((.tuple []):Sh).val y∧l1=r∧St ψ (cR 70 Ck t l1::F) h'):=by
 unfold ID at hd;split at hd
 ·rename_i hb
  cases hd;intro w hw;subst hw;rcases St.rowHoldsF s0 with ⟨hl,hn⟩|⟨b,off,vs,ht,hall,hn,hlt,hfit,hH⟩
  ·subst hl;rw [hn];have hc:=AnyF.slices_SortFunc_none JK t.1 t.2.2 (.func (.func 128) #[] #[]) w;refine (show Calls bT 127 #[.slice t.1 0 t.2.2,_] w _ from hc).mono ?_;rintro e w' ⟨rfl,rfl⟩;exact ⟨iO _,_,rfl,φ,(),_,bX _,rfl,rfl,by rw [show Gh [] = [] from rfl];exact s0⟩
  ·have hvs:=Se hall;subst hvs;have hHd:HoldsK FZ 2 w b off l.toArray:=by unfold HoldsK;rw [M9];exact hH
   have hc:=AnyQ.slices_SortFunc_total JK 2 (fun w=>Tryz.isAgg70 w) (fun w=>Tryz.sizeOf70 w) FZ (fun _=>rfl) (fun x v hv=>by simp [FZ]at hv;rcases hv with rfl | rfl<;>rfl) cfI X8 128 #[] b off t.2.2 l.toArray w
    (enters_of Tryz.func128 (by kernel_rfl) rfl) (fun m os dk hdk x y=>Xi (a:=x) (b:=y) _) hHd hlt (by simpa using hb) X9
   have hn2:t.2.1=l.toArray.size:=by rw [hn];simp
   rw [ht,hn2];refine (show Calls bT 127 #[.slice (some ⟨b,off,none⟩) l.toArray.size t.2.2,_] w _ from hc).mono ?_;rintro e w' ⟨rfl,k,os,rfl⟩;have hsrt:(l.toArray.toList.mergeSort fun x y=> !(ltOf cfI) y x)=Gh l:=by
    rw [Sd];congr 1;funext x y;rw [NA]
   rw [hsrt];have hlen:(Gh l).length=l.length:=(Cz _ _).length_eq;have s1:=St.rowSortedF s0 ht ((Gh l).flatMap FZ) (Sf _) hlen (by rw [LL,hlen,←LL];exact hfit) k os;refine ⟨⟨rfl,rfl,rfl,by unfold sortWorldK;rw [size_grow,size_putRowK];exact Nat.le_add_right _ _⟩,_,rfl,φ,(),_,bX _,rfl,rfl,?_⟩;unfold sortWorldK putRowK;rw [M9];exact s1
 ·cases hd
end
end Go.Proofs.YteolcjbobmpdiaaGreatDoor
namespace Go.Proofs.YteolcjbobmpdiaaGreatDoor
open Go Go.Eng
set_option linter.unusedVariables false
set_option maxRecDepth 100000
noncomputable def A9 (a_0:HH) (kernel_1:List Bu):Option (List Bu):=(cloneD kernel_1).bind fun t1=>(loop (σ:=(Int×List Bu×List (Int×Bool))) (β:=(List Bu×List (Int×Bool))) (0,t1,([]:List (Int×Bool))) fun z4=>cond (decide (z4.1< (z4.2.1.length:Int))) (((idx z4.2.1 z4.1).bind fun e45=>(Bc a_0 (e45.1,e45.2)).bind fun t9=>(cond (decide (t9< 0)) (some true) ((BV (a_0.1,a_0.2.1,a_0.2.2.1,a_0.2.2.2.1,a_0.2.2.2.2.1,a_0.2.2.2.2.2.1) t9).bind fun t18=>cond t18 (some true) ((some (BG t9 z4.2.2)).bind fun t19=>some (Option.getD t19 false)))).bind fun z10=>cond z10 (some (z4.2.1,z4.2.2)) ((forS (σ:=List Bu) 0 (a_0.2.2.1.length:Int) z4.2.1 fun i_z24 z24=>(idx a_0.2.2.1 i_z24).bind fun e160=>(cond (e160.1==t9) ((An z24 (i_z24,0)).bind fun t35=>some (!t35)) (some false)).bind fun z31=>(cond z31 ((app z24 ([(i_z24,0)]:List Bu)).bind fun t40=>some t40) (some z24)).bind fun z36=>some z36).bind fun z23=>some (z23,(Bt t9 true z4.2.2)))).bind fun z5=>some (fS ((bU .i64 (z4.1+1)),z5.1,z5.2))) (some (fR (z4.2.1,z4.2.2)))).bind fun z3=>(ID z3.1).bind fun t41=>some t41
theorem Hi {φ:AD}{h:AH}{F:List Chk}{a_0:Option Addr}{b:HH}{kernel_1:Slc}{ar:List Bu}(bk:Ro.SliceIs Ck φ kernel_1 ar) (s0:St φ (cO 131 (dP CM) a_0 b::F) h) {r:(List Bu)}(hd:A9 b ar=some r):
 CallsH bT 101 [(.pointer a_0),(sv kernel_1)] h (Ar fun v h'=>∃ψ:AD,∃y:Slc,∃au:List Bu,Sub φ ψ∧v=((.one aS):Sh).val y∧au=r∧Ro.SliceIs Ck ψ y au∧St ψ (cO 131 (dP CM) a_0 b::F) h'):=by
 refine AO mixed Tryz.func101 ?_;rw [HU];unfold Ew;unfold A9 at hd;obtain ⟨e2,bl,hd⟩:=bS hd;refine AI (MO bk s0 bl) ?_;rintro _ e3 ⟨ad,t1,bm,bn,rfl,rfl,bo⟩;refine ⟨t1,rfl,?_⟩;refine DF (kyI .i64) fV bo fun r2 e4 bp=> ?_;obtain ⟨bq,br,hd⟩:=bS hd;refine Ap (fun (y:Int×Slc×Unit) w_ g=>∃ψ:AD,∃av:List Bu,∃aw:List (Int×Bool),Sub ad ψ∧(av,aw)=g∧St ψ (cR 70 Ck y.2.1 av::cM (kyI .i64) fV r2 aw::cO 131 (dP CM) a_0 b::F) w_) (g:=bq) ?_ ?_
 ·refine DZ br (fun (y:Int×Slc×Unit) w_ g=>∃ψ:AD,∃ax:List Bu,∃ay:List (Int×Bool),Sub ad ψ∧(y.1,ax,ay)=g∧St ψ (cR 70 Ck y.2.1 ax::cM (kyI .i64) fV r2 ay::cO 131 (dP CM) a_0 b::F) w_) ((0:Int),t1,()) rfl ⟨ad,bm,([]:List (Int×Bool)),(bX _),rfl,bp.at1.at2.at2.at2⟩ ?_
  ·rintro z4 e5 _ _ ⟨az,u,k,b0,rfl,w⟩ j bs;try dsimp only at j
   have bt:=w.rowLen;refine AK j (by rw [bt] <;>rfl) (fun _ j=> ?_) (fun _ j=> ?_)
   ·obtain ⟨bu,c,j⟩:=bS j;refine Ap (fun (y:Slc×Unit) w_ g=>∃ψ:AD,∃b1:List Bu,∃b2:List (Int×Bool),Sub az ψ∧(b1,b2)=g∧St ψ (cR 70 Ck y.1 b1::cM (kyI .i64) fV r2 b2::cO 131 (dP CM) a_0 b::F) w_) (g:=bu) ?_ ?_
    ·obtain ⟨z,bv,c⟩:=bS c;obtain ⟨e6,e7,bw,bx,bz,b3⟩:=(w).get bv;refine AF _ bw (AY bx ?_);obtain ⟨_,_,rfl,rfl,rfl⟩:=bz;refine AC (x:=z.1) (b3 0 _ rfl) rfl<|AC (x:=z.2) (by rw [Ah];exact (b3 1 _ rfl)) rfl ?_;obtain ⟨e8,c2,c⟩:=bS c;refine AI (DB (x_1:=(z.1,z.2,())) w.at2 c2) ?_;rintro _ e9 ⟨b4,t9,b5,rfl,rfl,b6⟩;refine ⟨t9,rfl,?_⟩;obtain ⟨c3,e,c⟩:=bS c;refine Aj (fun (y:Bool×Unit) w_ g=>∃ψ:AD,Sub b4 ψ∧y.1=g∧St ψ (cO 131 (dP CM) a_0 b::cR 70 Ck z4.2.1 u::cM (kyI .i64) fV r2 k::F) w_) (g:=c3) ?_ ?_
     ·refine AK e rfl (fun _ e=> ?_) (fun _ e=> ?_)
      ·have c4:=b6.at2;obtain rfl:=iS e;exact AQ (true,()) rfl ⟨b4,(bX _),rfl,c4.at2.at2⟩
      obtain ⟨ea,eb,c5,⟨_,_,rfl,⟨a0,rfl,ae⟩,_,_,rfl,⟨a1,rfl,af⟩,_,_,rfl,⟨a2,rfl,ag⟩,_,_,rfl,⟨a3,rfl,ah⟩,_,_,rfl,⟨a4,rfl,ai⟩,_,_,rfl,⟨a5,rfl,aj⟩,_,_,rfl,rfl,rfl⟩,l⟩:=iL b6;subst c5;refine AF _ rfl<|AA (x:=a0) l rfl<|AA (x:=a1) l rfl<|AA (x:=a2) l rfl<|AA (x:=a3) l rfl<|AA (x:=a4) l rfl<|AA (x:=a5) l rfl ?_;obtain ⟨ec,c6,e⟩:=bS e;refine AI (Ei (p_0:=(a0,a1,a2,a3,a4,a5,())) ae af ag ah ai aj l c6) ?_;rintro _ ed ⟨b7,t18,d,rfl,rfl,ak⟩;refine ⟨t18,rfl,?_⟩;refine AK e rfl (fun _ e=> ?_) (fun _ e=> ?_)
      ·have c7:=iM (r:=CM) (x:=(b.1,b.2.1,b.2.2.1,b.2.2.2.1,b.2.2.2.2.1,b.2.2.2.2.2.1,b.2.2.2.2.2.2.1,(b.2.2.2.2.2.2.2))) ak ⟨[_],_,rfl,⟨a0,rfl,(ae.mono d)⟩,⟨[_],_,rfl,⟨a1,rfl,(af.mono d)⟩,⟨[_],_,rfl,⟨a2,rfl,(ag.mono d)⟩,⟨[_],_,rfl,⟨a3,rfl,(ah.mono d)⟩,⟨[_],_,rfl,⟨a4,rfl,(ai.mono d)⟩,⟨[_],_,rfl,⟨a5,rfl,(aj.mono d)⟩,⟨[_],_,rfl,rfl,rfl⟩⟩⟩⟩⟩⟩⟩;obtain rfl:=iS e;exact AQ (true,()) rfl ⟨b7,d,rfl,c7.at2.at2.at2⟩
      obtain ⟨ee,c8,e⟩:=bS e;obtain rfl:=iS c8;refine GF (a:=.bool) (kk:=(kyI .i64)) (i:=Tryz.t4) false gT eT (by kernel_rfl) rfl ak.at2 ?_;have c9:=iM (r:=CM) (x:=(b.1,b.2.1,b.2.2.1,b.2.2.2.1,b.2.2.2.2.1,b.2.2.2.2.2.1,b.2.2.2.2.2.2.1,(b.2.2.2.2.2.2.2))) ak ⟨[_],_,rfl,⟨a0,rfl,(ae.mono d)⟩,⟨[_],_,rfl,⟨a1,rfl,(af.mono d)⟩,⟨[_],_,rfl,⟨a2,rfl,(ag.mono d)⟩,⟨[_],_,rfl,⟨a3,rfl,(ah.mono d)⟩,⟨[_],_,rfl,⟨a4,rfl,(ai.mono d)⟩,⟨[_],_,rfl,⟨a5,rfl,(aj.mono d)⟩,⟨[_],_,rfl,rfl,rfl⟩⟩⟩⟩⟩⟩⟩;obtain rfl:=iS e;exact AQ (((BG t9 k).getD false),()) rfl ⟨b7,d,rfl,c9.at2.at2.at2⟩
     rintro z10 ef ⟨al,b8,rfl,b9⟩;try dsimp only at c
     refine AK c rfl (fun _ c=> ?_) (fun _ c=> ?_)
     ·have ca:=b9.at1;obtain rfl:=iS c;exact AL (z4.2.1,()) rfl ⟨al,u,k,(b5.trans b8),rfl,ca.at1.at2.at2⟩
     refine I7 (kk:=(kyI .i64)) (y:=true) gT eT b9.at2 rfl fun eg cb=> ?_;obtain ⟨am,eh,cc,⟨_,_,rfl,⟨a6,rfl,cd⟩,_,_,rfl,⟨a7,rfl,ce⟩,_,_,rfl,⟨q,rfl,an⟩,_,_,rfl,⟨a8,rfl,cf⟩,_,_,rfl,⟨a9,rfl,cg⟩,_,_,rfl,⟨aa,rfl,ch⟩,_,_,rfl,rfl,rfl⟩,ba⟩:=iL cb.at1;subst cc;have bb:=an.length;refine AF _ rfl<|AA (x:=q) ba rfl ?_;obtain ⟨ei,ci,c⟩:=bS c;refine B9 ci (fun cj (y:Int×Slc×Unit) w_ g=>∃ψ:AD,∃bc:List Bu,Sub al ψ∧y.1=cj∧bc=g∧St ψ (cR 70 Ck y.2.1 bc::cW 131 am [sv a6,sv a7,sv q,sv a8,sv a9,sv aa,sv b.2.2.2.2.2.2.1,.int .i64 (b.2.2.2.2.2.2.2)]::cM (kyI .i64) fV r2 (Bt t9 true k)::F) w_) ((0:Int),z4.2.1,()) rfl ⟨al,u,(bX _),rfl,rfl,ba.at2.at2.at2.at2⟩ ?_ ?_ ?_
     ·rintro _ z24 ej _ _ ⟨bd,be,bf,rfl,rfl,ab⟩ f ck bg bh;try dsimp only at f ck bg bh
      refine Aa (dT bb bg) ?_;obtain ⟨m,cl,f⟩:=bS f;obtain ⟨ek,el,cm,cn,co,ao⟩:=(an.mono bf).get cl;refine AF _ cm (AY cn ?_);obtain ⟨_,_,rfl,rfl,⟨_,_,rfl,⟨ap,rfl,em⟩,rfl⟩⟩:=co;refine AC (x:=m.1) (AE ab.sub (ao 0 _ rfl)) rfl<|AC (x:=ap) (by rw [Ah];exact (AE ab.sub (ao 1 _ rfl))) rfl<|AC (x:=m.2.2) (by rw [Ah];exact (AE ab.sub (ao 2 _ rfl))) rfl<|AV (vs:=[.int .i64 (0:Int),.slice none 0 0,.int .i64 (0:Int)]) ab fun r29 en ct=>AR ct rfl rfl fun eo cu=>AR cu rfl rfl fun ep cv=>AR cv rfl rfl fun er cw=>AV (vs:=[.int .i64 (0:Int),.int .i64 (0:Int)]) cw fun r30 es cx=>AR cx rfl rfl fun eu cy=>AR cy rfl rfl fun ev s=> ?_;obtain ⟨cz,n,f⟩:=bS f;refine Aj (fun (y:Bool×Unit) w_ g=>∃ψ:AD,Sub bd ψ∧y.1=g∧St ψ (cW 70 r30 [.int .i64 z24.1,.int .i64 (0:Int)]::cW 65 r29 [.int .i64 m.1,sv ap,.int .i64 m.2.2]::cR 70 Ck z24.2.1 be::cW 131 am [sv a6,sv a7,sv q,sv a8,sv a9,sv aa,sv b.2.2.2.2.2.2.1,.int .i64 (b.2.2.2.2.2.2.2)]::cM (kyI .i64) fV r2 (Bt t9 true k)::F) w_) (g:=cz) ?_ ?_
      ·refine AA (x:=m.1) s.at1 rfl<|AK n rfl (fun _ n=> ?_) (fun _ n=> ?_)
       ·refine AA (x:=z24.1) s rfl<|AA (x:=(0:Int)) s rfl ?_;obtain ⟨ew,d0,n⟩:=bS n;refine AI (DI (v_1:=(z24.1,(0:Int),())) s.at2 d0) ?_;rintro _ ex ⟨d1,t35,d2,rfl,rfl,d3⟩;refine ⟨t35,rfl,?_⟩;obtain rfl:=iS n;exact AQ ((!t35),()) rfl ⟨d1,d2,rfl,d3.at4.at4.at2.at4.at4⟩
       obtain rfl:=iS n;exact AQ (false,()) rfl ⟨bd,(bX _),rfl,s.at4.at4.at4.at4.at4⟩
      rintro z31 ey ⟨aq,d4,rfl,ac⟩;try dsimp only at f
      obtain ⟨d5,o,f⟩:=bS f;refine Aj (fun (y:Slc×Unit) w_ g=>∃ψ:AD,∃bi:List Bu,Sub aq ψ∧bi=g∧St ψ (cR 70 Ck y.1 bi::cW 70 r30 [.int .i64 z24.1,.int .i64 (0:Int)]::cW 65 r29 [.int .i64 m.1,sv ap,.int .i64 m.2.2]::cW 131 am [sv a6,sv a7,sv q,sv a8,sv a9,sv aa,sv b.2.2.2.2.2.2.1,.int .i64 (b.2.2.2.2.2.2.2)]::cM (kyI .i64) fV r2 (Bt t9 true k)::F) w_) (g:=d5) ?_ ?_
      ·refine AK o rfl (fun _ o=> ?_) (fun _ o=> ?_)
       ·refine AA (x:=z24.1) ac rfl<|AA (x:=(0:Int)) ac rfl<|AV (vs:=[.int .i64 z24.1,.int .i64 (0:Int)]) ac fun r39 ez bj=> ?_;obtain ⟨d6,d7,o⟩:=bS o;refine Am (r:=Ck) (ms:=([(z24.1,(0:Int))]:List Bu)) M5 bj.tail.at2 rfl (eZ bj) (.cons (a:=[_,_]) ⟨[_],_,rfl,rfl,rfl⟩ .nil) rfl d7 ?_;intro t40 f0 d8;obtain rfl:=iS o;exact AQ (t40,()) rfl ⟨aq,d6,(bX _),rfl,d8.at4.at4.at4.at4.at4⟩
       obtain rfl:=iS o;exact AQ (z24.2.1,()) rfl ⟨aq,be,(bX _),rfl,ac.at2.at4.at4.at4.at4.at4⟩
      rintro z36 f1 ⟨d9,da,db,rfl,dc⟩;try dsimp only at f
      obtain rfl:=iS f;exact Ad ((wN z24.1),z36.1,()) _ rfl rfl ⟨d9,da,((bf.trans d4).trans db),bh,rfl,dc.at1.tail.at1.tail.at2.at2.at2⟩
     ·rintro _ z24 f2 ⟨dd,de,df,rfl,rfl,dg⟩ dh;refine AT (dF bb dh)<|AJ (AL (z24.1,z24.2.1,()) rfl ⟨_,dd,de,df,rfl,rfl,dg.at2.at2.at2⟩)
     rintro z23 f3 ⟨_,di,dj,p,_,rfl,dk⟩;try dsimp only at c
     have dl:=iM (r:=CM) (x:=(b.1,b.2.1,b.2.2.1,b.2.2.2.1,b.2.2.2.2.1,b.2.2.2.2.2.1,b.2.2.2.2.2.2.1,(b.2.2.2.2.2.2.2))) dk.at1 ⟨[_],_,rfl,⟨a6,rfl,(cd.mono p)⟩,⟨[_],_,rfl,⟨a7,rfl,(ce.mono p)⟩,⟨[_],_,rfl,⟨q,rfl,(an.mono p)⟩,⟨[_],_,rfl,⟨a8,rfl,(cf.mono p)⟩,⟨[_],_,rfl,⟨a9,rfl,(cg.mono p)⟩,⟨[_],_,rfl,⟨aa,rfl,(ch.mono p)⟩,⟨[_],_,rfl,rfl,rfl⟩⟩⟩⟩⟩⟩⟩;obtain rfl:=iS c;exact Lc (z23.2.1,()) rfl ⟨di,dj,(Bt t9 true k),((b5.trans b8).trans p),rfl,dl.at2.at2⟩
    rintro z5 f4 ⟨dm,dn,dp,dq,rfl,dr⟩;try dsimp only at j
    obtain rfl:=iS j;exact Ad ((wN z4.1),z5.1,()) _ rfl rfl ⟨dm,dn,dp,(b0.trans dq),rfl,dr.at2.at2.at2⟩
   obtain rfl:=iS j;obtain rfl:=bs _ rfl;exact AJ (AL (z4.1,z4.2.1,()) rfl ⟨az,u,k,b0,rfl,w.at2.at2.at2⟩)
 rintro z3 f5 ⟨f6,f7,f8,ds,rfl,dt⟩;try dsimp only at hd
 obtain ⟨f9,du,hd⟩:=bS hd;refine AI (Q3 dt du) ?_;rintro _ fa ⟨fb,t41,dv,dw,rfl,rfl,dx⟩;refine ⟨t41,rfl,?_⟩;obtain ⟨dy,dz,e0,e1⟩:=fE (t:=z3.2.1) dx;obtain rfl:=iS hd;exact AB ⟨dy,z3.2.1,dv,(((bn.trans ds).trans dw).trans dz),rfl,rfl,e0,e1.tail⟩
abbrev dtB:Type:=(List Item×List Item×Slc×Int×Int)
abbrev roB:Ro dtB:=iP (eV Ck) (iP (eV Ck) (iP Ro.slc (iP (bW .i64) (bW .i64))))
abbrev dtK:Type:=(List Item×List Item×Int×Int)
abbrev LM {ε:Type}(b:dtK) (s:ε):List Item×List Item×ε×Int×Int:=(b.1,b.2.1,s,b.2.2.1,b.2.2.2)
abbrev EP {ε:Type}(B:List dtK) (S:List ε):List (List Item×List Item×ε×Int×Int):=List.zipWith LM B S
theorem EE {ε:Type}{B:List dtK}{S:List ε}(h:S.length=B.length):(EP B S).length=B.length:=by
 unfold EP;rw [List.length_zipWith];omega
theorem Si {ε:Type}{B:List dtK}{S:List ε}(h:S.length=B.length) (b:dtK) (s:ε):EP (B++ [b]) (S++ [s])=EP B S++ [LM b s]:=by
 unfold EP;rw [gH h.symm];rfl
abbrev Fd:Type:=List (ByteArray×Int)
abbrev qA (p:BA) (s:Slc) (t:Int):HH:=(p.1,p.2.1,p.2.2.1,p.2.2.2.1,p.2.2.2.2.1,p.2.2.2.2.2,s,t)
abbrev Fa:Slc:=(none,0,0)
theorem Pv (p:BA) (s:Slc) (t:Int) (k:List Item):A9 (qA p s t) k=A9 (qA p Fa 0) k:=rfl
abbrev bC (c3 c4 c5 c6 m a r1 r2:Nat) (fd:Fd) (p:BA) (ls:Slc) (tot:Int) (L:List dtB) (rm cl:Cc) (F:List Chk):List Chk:=
 cW 185 c3 [.map (some m)]::cM kyS (bW .i64) m fd::cW 41 c4 [pv a]::cO 131 (dP CM) (some ⟨a,0,none⟩) (qA p ls tot)::cR 150 roB ls L::
 cW 183 c5 [pv r1]::cO 211 (dP FP) (some ⟨r1,0,none⟩) rm::cW 183 c6 [pv r2]::cO 211 (dP FP) (some ⟨r2,0,none⟩) cl::F
noncomputable def Sj (p:BA) (fd:Fd) (B:List dtK) (rm cl:Cc) (k:List Item) (fr wi:Int):Option (Int×Int×Fd×List dtK×Cc×Cc):=(Dt k).bind fun s=>cond (BG s fd).isSome (some ((BG s fd).getD 0,0,fd,B,rm,cl)) ((A9 (qA p Fa 0) k).bind fun its=>(CE rm 1).bind fun t=>(cond (t.1==0) ((CE cl (its.length:Int)).bind fun u=>some (u.1,u.2)) (some (t.1,cl))).bind fun z=>(app B [(k,its,fr,wi)]).bind fun B'=>some (bU .i64 ((B'.length:Int) - 1),z.1,Bt s (B.length:Int) fd,B',t.2,z.2))
theorem YA:HG bT 129 129 150 5:=⟨gU,.inl gU,⟨Tryz.t150,by kernel_rfl,rfl,⟨_,rfl,rfl⟩,by decide,by decide⟩,by decide⟩
theorem St.bC_of {φ:AD}{h:AH}{a0 a1 a2 a3 a4 a5 a6 a7 a8:Chk}{F:List Chk}(H:St φ (a3::a4::a1::a8::a6::a0::a2::a5::a7::F) h):St φ (a0::a1::a2::a3::a4::a5::a6::a7::a8::F) h:=
 H.at3.at8.at5.at8.at5.at5.at8.at7.at8
set_option maxHeartbeats 2000000 in
theorem Rh {φ:AD}{h:AH}{F:List Chk}{t:Slc}{k:List Item}{fr wi:Int}{c3 c4 c5 c6 m a r1 r2:Nat}{fd:Fd}{p:BA}{ls:Slc}{tot:Int}{B:List dtK}{S:List Slc}{rm cl:Cc}
 (gk:Glob φ) (k1:Ro.SliceIs Ck φ t k) (hS:S.length=B.length) (s0:St φ (bC c3 c4 c5 c6 m a r1 r2 fd p ls tot (EP B S) rm cl F) h) {r:Int×Int×Fd×List dtK×Cc×Cc} (hd:Sj p fd B rm cl k fr wi=some r):
 CallsH bT 99 [.slice t.1 t.2.1 t.2.2,.int .i64 fr,.int .i64 wi,pv c3,pv c4,pv c5,pv c6] h (Ar fun v h'=>∃(ψ:AD) (y:Int×Int×Unit) (ls':Slc) (S':List Slc),Sub φ ψ∧v=((.tuple [.atom (.int .i64),.atom (.int .i64)]):Sh).val y∧y.1=r.1∧y.2.1=r.2.1∧
  ((r.2.2.2.1=B∧S'=S)∨ ∃x,r.2.2.2.1=B++ [x] ∧S'=S++ [Fa])∧St ψ (bC c3 c4 c5 c6 m a r1 r2 r.2.2.1 p ls' tot (EP r.2.2.2.1 S') r.2.2.2.2.1 r.2.2.2.2.2 F) h'):=by
 refine AO mixed Tryz.func99 ?_;rw [Kb];unfold HW;unfold Sj at hd;obtain ⟨s,hs,hd⟩:=bS hd;refine AA (x:=some m) s0 rfl<|AI (JS gk k1 s0 hs) ?_;rintro _ h1 ⟨ψ1,s,le1,rfl,rfl,s1⟩;refine ⟨s,rfl,?_⟩;refine AM (fD s1 rfl)<|SU (a:=.int .i64) (kk:=kyS) (i:=iV) 0 gV eU (by kernel_rfl) rfl s1.at1 fun y hy=> ?_;subst hy;refine AK hd rfl (fun _ hd=> ?_) (fun _ hd=> ?_)
 ·obtain rfl:=iS hd;exact AB ⟨ψ1,((BG s fd).getD 0,0,()),ls,S,le1,rfl,rfl,rfl,.inl ⟨rfl,rfl⟩,s1⟩
 obtain ⟨its,hc,hd⟩:=bS hd;obtain ⟨tk,ht,hd⟩:=bS hd;obtain ⟨z,hz,hd⟩:=bS hd;obtain ⟨B',hB,hd⟩:=bS hd;obtain rfl:=iS hd;refine AA (x:=some ⟨a,0,none⟩) s1.at2 rfl<|AI (Hi (k1.mono le1) s1.at3 (by rw [Pv];exact hc)) ?_;rintro _ h2 ⟨ψ2,y2,l2,le2,rfl,rfl,k2,s2⟩;refine ⟨y2,rfl,?_⟩;have n2:=k2.length;have le12:=le1.trans le2;refine AV (vs:=[.slice none 0 0,.slice none 0 0,.slice none 0 0,.int .i64 (0:Int),.int .i64 (0:Int)]) s2 fun r6 h3 s3=>AR s3 rfl rfl fun h4 s4=>AR s4 rfl rfl fun h5 s5=>AR s5 rfl rfl fun h6 s6=>AR s6 rfl rfl fun h7 s7=>AR s7 rfl rfl fun h8 s8=> ?_;have s8':St ψ2 (cW 150 r6 [sv t,sv y2,.slice none 0 0,.int .i64 fr,.int .i64 wi]::cO 131 (dP CM) (some ⟨a,0,none⟩) (qA p ls tot)::cW 185 c3 [.map (some m)]::cM kyS (bW .i64) m fd::cW 41 c4 [pv a]::cR 150 roB ls (EP B S)::
  cW 183 c5 [pv r1]::cO 211 (dP FP) (some ⟨r1,0,none⟩) rm::cW 183 c6 [pv r2]::cO 211 (dP FP) (some ⟨r2,0,none⟩) cl::F) h8:=s8
 refine AA (x:=some ⟨r1,0,none⟩) s8'.at6 rfl<|AI (FV s8'.at7 ht) ?_;rintro _ h9 ⟨ψ3,y3,rm',le3,rfl,rfl,s9⟩;refine ⟨y3,rfl,?_⟩;dsimp only at hz;refine Aj (fun (y:Int×Unit) w (g:Int×Cc)=>∃(ψ:AD) (cl':Cc),Sub ψ3 ψ∧(y.1,cl')=g∧St ψ (cO 211 (dP FP) (some ⟨r2,0,none⟩) cl'::cO 211 (dP FP) (some ⟨r1,0,none⟩) rm'::cW 150 r6 [sv t,sv y2,.slice none 0 0,.int .i64 fr,.int .i64 wi]::
  cO 131 (dP CM) (some ⟨a,0,none⟩) (qA p ls tot)::cW 185 c3 [.map (some m)]::cM kyS (bW .i64) m fd::cW 41 c4 [pv a]::cR 150 roB ls (EP B S)::cW 183 c5 [pv r1]::cW 183 c6 [pv r2]::F) w) (g:=z) ?_ ?_
 ·refine AK hz rfl (fun _ hz=> ?_) (fun _ hz=> ?_)
  ·obtain ⟨u,hu,hz⟩:=bS hz;obtain rfl:=iS hz;refine AA (x:=some ⟨r2,0,none⟩) s9.at8 rfl<|AA (x:=y2) s9.at1 rfl ?_;rw [←n2]at hu;refine AI (FV s9.at9 hu) ?_;rintro _ h10 ⟨ψ4,y4,cl',le4,rfl,rfl,s10⟩;refine ⟨y4,rfl,?_⟩;exact AQ (y4,()) rfl ⟨ψ4,cl',le4,rfl,s10⟩
  ·obtain rfl:=iS hz;exact AQ (y3,()) rfl ⟨ψ3,cl,bX _,rfl,s9.at9⟩
 rintro z9 h11 ⟨ψ5,cl',le5,rfl,s11⟩;refine AA (x:=some m) s11.at4 rfl<|AA (x:=some ⟨a,0,none⟩) s11.at6 rfl<|AF _ rfl ?_;have s12':=s11.at3;obtain ⟨b,vs,e,⟨_,_,rfl,⟨u1,rfl,kk1⟩,_,_,rfl,⟨u2,rfl,kk2⟩,_,_,rfl,⟨u3,rfl,kk3⟩,_,_,rfl,⟨u4,rfl,kk4⟩,_,_,rfl,⟨u5,rfl,kk5⟩,_,_,rfl,⟨u6,rfl,kk6⟩,_,_,rfl,rfl,rfl⟩,s12⟩:=iL s12';obtain rfl:a=b:=by simpa using e
 refine AA (x:=ls) s12 rfl ?_;have le25:=(le2.trans le3).trans le5;have le15:=le1.trans le25;refine AI (JS (gk.mono le15) (k1.mono le15) s12 hs) ?_;rintro _ h13 ⟨ψ6,q6,le6,rfl,rfl,s13⟩;refine ⟨q6,rfl,?_⟩;refine AM (fD (b:=a) (j:=6) s13 rfl)<|AM (fD s13.at6 rfl)<|AM (fD s13.at4 rfl) ?_;have nL:=St.rowLen s13.at7;rw [EE hS]at nL;refine I7 (kk:=kyS) (y:=(ls.2.1:Int)) gV eU s13.at5 rfl fun h14 s14=>AA (x:=some ⟨a,0,none⟩) s14.at6 rfl<|AA (x:=some ⟨a,0,none⟩) s14.at6 rfl<|AF _ rfl<|AA (x:=ls) s14.at1 rfl<|AA (x:=t) s14.at4 rfl<|AA (x:=y2) s14.at4 rfl<|AA (x:=Fa) s14.at4 rfl<|AA (x:=fr) s14.at4 rfl<|AA (x:=wi) s14.at4 rfl<|AV (vs:=[sv t,sv y2,.slice none 0 0,.int .i64 fr,.int .i64 wi]) s14 fun r28 h15 s15=>AM (fD (b:=a) (j:=6) s15.at2 rfl)<|AM (fD s15.at7 rfl)<|AM (fD s15.at7 rfl) ?_;have cw:=eZ s15;have le26:=le25.trans le6;have le16:=le1.trans le26;obtain ⟨hapl,rfl⟩:=Mj hB;have hap:app (EP B S) [LM (k,l2,fr,wi) Fa] =some (EP (B++ [(k,l2,fr,wi)]) (S++ [Fa])):=by
  unfold app;rw [EE hS,Si hS,if_pos (by simpa using hapl)]
 refine Am (r:=roB) (ms:=[LM (k,l2,fr,wi) Fa]) YA (s15.tail.at7) rfl cw (.cons (a:=[_,_,_,_,_]) ⟨[_],_,rfl,⟨t,rfl,k1.mono le16⟩,[_],_,rfl,⟨y2,rfl,k2.mono (((le3.trans le5)).trans le6)⟩,[_],_,rfl,rfl,[_],_,rfl,rfl,rfl⟩ .nil) rfl hap fun ls' h16 s16=> ?_;have nL':=St.rowLen s16;rw [EE (by simp [hS])]at nL';refine AM (fD s16.at7 rfl)<|AF _ rfl<|AR s16.at2 rfl rfl fun h17 s17=>AA (x:=some ⟨a,0,none⟩) s17.at7 rfl<|AF _ rfl<|AA (x:=ls') s17 rfl ?_;have s18:=iM (r:=CM) (x:=qA p ls' tot) s17 ⟨[_],_,rfl,⟨u1,rfl,kk1.mono le6⟩,[_],_,rfl,⟨u2,rfl,kk2.mono le6⟩,[_],_,rfl,⟨u3,rfl,kk3.mono le6⟩,[_],_,rfl,⟨u4,rfl,kk4.mono le6⟩,[_],_,rfl,⟨u5,rfl,kk5.mono le6⟩,[_],_,rfl,⟨u6,rfl,kk6.mono le6⟩,[_],_,rfl,rfl,rfl⟩;refine AB ⟨ψ6,(bU .i64 ((ls'.2.1:Int) - 1),z9.1,()),ls',S++ [Fa],le16,rfl,by rw [nL'],rfl,.inr ⟨_,rfl,rfl⟩,?_⟩;rw [nL]at s18;exact St.bC_of s18.at5.tail
abbrev Edge:Type:=Int×Int
abbrev BSt:Type:=Fd×List dtK×List (List Edge)×Cc×Cc
def Fb (E:List (List Edge)) (n n':Nat):List (List Edge):=if n'=n then E else E++ [[]]
noncomputable def Ri (p:BA) (b:dtK) (i sym:Int) (y:BSt):Option (Ab BSt Int):=(Bp (qA p Fa 0) b.2.1 sym).bind fun k=>(Sj p y.1 y.2.1 y.2.2.2.1 y.2.2.2.2 k i sym).bind fun r=>cond (r.2.1 !=0) (some (fR r.2.1)) ((idx (Fb y.2.2.1 y.2.1.length r.2.2.2.1.length) i).bind fun el=>(app el [(sym,r.1)]).bind fun el'=>(DL (Fb y.2.2.1 y.2.1.length r.2.2.2.1.length) i el').bind fun E'=>some (fS (r.2.2.1,r.2.2.2.1,E',r.2.2.2.2.1,r.2.2.2.2.2)))
noncomputable def Ow (p:BA) (b:dtK) (i:Int) (y:BSt):Option (Ab BSt Int):=(BS (qA p Fa 0) b.2.1).bind fun syms=>C2 0 (syms.length:Int) y fun j y=>(idx syms j).bind fun sym=>Ri p b i sym y
noncomputable def MZ (p:BA) (y:BSt):Option (Ab BSt Int):=
 loop (σ:=Int×BSt) (0,y) fun z=>
  cond (decide (z.1< (z.2.2.1.length:Int)))
   ((idx z.2.2.1 z.1).bind fun b=>(Ow p b z.1 z.2).bind fun e=>match e with
    |.next y=>some (fS (bU .i64 (z.1+1),y))
    |.done q=>some (fR (fR q)))
   (some (fR (fS z.2)))
noncomputable def NB (p:BA) (st it:Int):Option (Option Da×Int):=
 (ES st).bind fun rm=>
 (ES it).bind fun cl=>
 (Sj p [] [] rm cl [(0,0)] (-1) (-1)).bind fun r=>
 cond (r.2.1 !=0) (some (none,r.2.1))
 ((MZ p (r.2.2.1,r.2.2.2.1,Fb [] 0 r.2.2.2.1.length,r.2.2.2.2.1,r.2.2.2.2.2)).bind fun e=>match e with
  |.next y=>(DA y.2.2.2.2).bind fun tot=>some (some (p.1,p.2.1,p.2.2.1,p.2.2.2.1,p.2.2.2.2.1,p.2.2.2.2.2,EP y.2.1 y.2.2.1,tot),0)
  |.done q=>some (none,q))
theorem UH (p:BA) (s:Slc) (t:Int) (l:List Item) (x:Int):Bp (qA p s t) l x=Bp (qA p Fa 0) l x:=rfl
theorem Pw (p:BA) (s:Slc) (t:Int) (l:List Item):BS (qA p s t) l=BS (qA p Fa 0) l:=rfl
theorem NC {ε:Type}{B:List dtK}{S:List ε}{i:Int}{b:dtK}{s:ε}(hb:idx B i=some b) (hs:S[i.toNat]? =some s):idx (EP B S) i=some (LM b s):=by
 obtain ⟨h0,_,h2⟩:=CL hb;unfold idx;rw [if_pos h0];unfold EP;rw [List.getElem?_zipWith,h2,hs]
theorem UI {ε:Type}:∀ {B:List dtK}{S:List ε}{n:Nat}{b:dtK}(s:ε),B[n]? =some b→(EP B S).set n (LM b s)=EP B (S.set n s):=by
 intro B
 induction B with
 |nil=>intro S n b s h;simp at h
 |cons x B ih=>
  intro S n b s h;cases S with
  |nil=>rfl
  |cons u S=>
   cases n with
   |zero=>
    simp only [fQ,Option.some.injEq]at h;subst h;rfl
   |succ n=>exact congrArg _ (ih s (by simpa using h))
def DR (φ:AD) (S:List Slc) (E:List (List Edge)) (c:Nat):Prop:= ∀(j:Nat) s e,j≠c→S[j]? =some s→E[j]? =some e→Ro.SliceIs GO φ s e
def Hk (S:List Slc) (E:List (List Edge)) (i:Nat):Prop:= ∀j:Nat,i≤j→(∀s,S[j]? =some s→s=Fa)∧ ∀e,E[j]? =some e→e= []
theorem DR.mono {φ ψ:AD}{S:List Slc}{E:List (List Edge)}{c:Nat}(H:DR φ S E c) (hs:Sub φ ψ):DR ψ S E c:=fun j s e hj h1 h2=>(H j s e hj h1 h2).mono hs
theorem Ep {α:Type}{l:List α}{x y:α}{j:Nat}(h:(l++ [x])[j]? =some y):l[j]? =some y∨j=l.length∧y=x:=by
 rcases dI j l.length with g | g
 ·rw [cG g]at h;exact .inl h
 ·rw [cZ g]at h
  right
  have:j - l.length=0:=by
   rcases Nat.eq_zero_or_pos (j - l.length) with q | q
   ·exact q
   ·rw [cP (by simp;omega)]at h;cases h
  rw [this]at h;simp at h;exact ⟨by omega,h.symm⟩
theorem DR.snoc {φ:AD}{S:List Slc}{E:List (List Edge)}{c:Nat}(H:DR φ S E c) (hl:S.length=E.length):DR φ (S++ [Fa]) (E++ [[]]) c:=by
 intro j s e hj h1 h2;rcases Ep h1 with h1 | ⟨h1,rfl⟩
 ·rcases Ep h2 with h2 | ⟨h2,rfl⟩
  ·exact H j s e hj h1 h2
  ·rw [cP (by omega)]at h1;cases h1
 ·rcases Ep h2 with h2 | ⟨h2,rfl⟩
  ·rw [cP (by omega)]at h2;cases h2
  ·exact eP _ _
theorem Hk.snoc {S:List Slc}{E:List (List Edge)}{i:Nat}(H:Hk S E i):Hk (S++ [Fa]) (E++ [[]]) i:=by
 intro j hj;refine ⟨fun s h=> ?_,fun e h=> ?_⟩
 ·rcases Ep h with h | ⟨_,h⟩
  ·exact (H j hj).1 s h
  ·exact h
 ·rcases Ep h with h | ⟨_,h⟩
  ·exact (H j hj).2 e h
  ·exact h
theorem Vb {φ:AD}:∀ {B:List dtK}{S:List Slc}{E:List (List Edge)}{vs:List Value},S.length=B.length→E.length=B.length→(∀(j:Nat) s e,S[j]? =some s→E[j]? =some e→Ro.SliceIs GO φ s e)→roB.All φ vs (EP B S)→TY.All φ vs (EP B E):=by
 intro B
 induction B with
 |nil=>intro S E vs h1 h2 h3 H;cases H;exact .nil
 |cons b B ih=>
  intro S E vs h1 h2 h3 H;cases S with
  |nil=>cases h1
  |cons s S=>
   cases E with
   |nil=>cases h2
   |cons e E=>
    cases H with
    | @cons a v _ _ hx hr=>
     obtain ⟨_,_,rfl,⟨t0,rfl,q0⟩,_,_,rfl,⟨t1,rfl,q1⟩,_,_,rfl,rfl,_,_,rfl,rfl,rfl⟩:=hx;exact gA (a:=[_,_,_,_,_]) ⟨[_],_,rfl,⟨t0,rfl,q0⟩,[_],_,rfl,⟨t1,rfl,q1⟩,[_],_,rfl,⟨s,rfl,h3 0 s e rfl rfl⟩,[_],_,rfl,rfl,rfl⟩ (ih (by simpa using h1) (by simpa using h2) (fun j s' e' g1 g2=>h3 (j+1) s' e' (by simpa using g1) (by simpa using g2)) hr)
theorem Sk {φ:AD}{t:Slc}{B:List dtK}{S:List Slc}{E:List (List Edge)}(h1:S.length=B.length) (h2:E.length=B.length) (h3:∀(j:Nat) s e,S[j]? =some s→E[j]? =some e→Ro.SliceIs GO φ s e) (H:Ro.SliceIs roB φ t (EP B S)):Ro.SliceIs TY φ t (EP B E):=by
 obtain ⟨g1,g2,g3,g4,vs,g5,g6⟩:=H;have hl:(EP B E).length=(EP B S).length:=by rw [EE h1,EE h2]
 exact ⟨hl.trans g1,g2,g3,fun hp=>dH (by rw [hl,g4 hp];rfl),vs,Vb h1 h2 h3 g5,g6⟩
section
variable {φ:AD}{h:AH}{F:List Chk}
theorem Q4 {c3 c4 c5 c6 m a r1 r2:Nat}{fd:Fd}{p:BA}{ls:Slc}{tot:Int}{L:List dtB}{rm cl:Cc}(H:St φ (bC c3 c4 c5 c6 m a r1 r2 fd p ls tot L rm cl F) h):BI h ⟨a,6,none⟩=some (.slice ls.1 ls.2.1 ls.2.2):=by
 obtain ⟨b,vs,e,⟨_,_,rfl,⟨u1,rfl,kk1⟩,_,_,rfl,⟨u2,rfl,kk2⟩,_,_,rfl,⟨u3,rfl,kk3⟩,_,_,rfl,⟨u4,rfl,kk4⟩,_,_,rfl,⟨u5,rfl,kk5⟩,_,_,rfl,⟨u6,rfl,kk6⟩,_,_,rfl,rfl,rfl⟩,s⟩:=iL H.at3;obtain rfl:a=b:=by simpa using e
 exact fD s rfl
theorem St.back3 {a0 a1 a2 a3:Chk}(H:St φ (a3::a0::a1::a2::F) h):St φ (a0::a1::a2::a3::F) h:=H.at3.at3.at3
theorem St.to9 {e a0 a1 a2 a3 a4 a5 a6 a7 a8:Chk}(H:St φ (e::a0::a1::a2::a3::a4::a5::a6::a7::a8::F) h):St φ (a0::a1::a2::a3::a4::a5::a6::a7::a8::e::F) h:=
 H.at9.at9.at9.at9.at9.at9.at9.at9.at9
theorem St.tail9 {a0 a1 a2 a3 a4 a5 a6 a7 a8:Chk}(H:St φ (a0::a1::a2::a3::a4::a5::a6::a7::a8::F) h):St φ F h:=H.tail.tail.tail.tail.tail.tail.tail.tail.tail
end
theorem Sg.nm_lev {nt nv nl:Nat}{g:C1}(H:Sg nt nv nl g):∀x∈FI g.2.2.1,Nm x:=fun x hx=>by
 have:=H.nl5;have:=H.nt5
 rcases H.levs.names x hx with ⟨i,h,rfl⟩|⟨i,h,rfl⟩
 ·exact .lev (by omega)
 ·exact .tok (by omega)
theorem Ru1.nm {nt nv nl:Nat}{r:C8}(H:Ru1 nt nv nl r) (h1:nt≤5) (h2:nv≤4) (h3:nl≤5):Nm r.1∧(∀x∈r.2.1,Nm x)∧(r.2.2.1= {data:=#[]} ∨Nm r.2.2.1):=by
 refine ⟨?_,fun x hx=> ?_,?_⟩
 ·obtain ⟨i,h,e⟩:=H.left;rw [e];exact .var (by omega)
 ·rcases H.right x hx with ⟨i,h,rfl⟩|⟨i,h,rfl⟩
  ·exact .tok (by omega)
  ·exact .var (by omega)
 ·rcases H.prec with h | ⟨i,h,e⟩
  ·exact .inl h
  ·rw [e];exact .inr (.lev (by omega))
set_option maxHeartbeats 2000000 in
theorem UJ {nt nv nl:Nat}{g:C1}(H:Sg nt nv nl g):CN g=some true:=by
 refine iW ?_;have hlr:=H.room;have hll:=H.levs.len;have htl:=H.toks.1;have hnt:=H.nt5;have hnv:=H.nv4;have hnl:=H.nl5;obtain ⟨r0,hr0,_⟩:=H.all 0 (by have:=H.nv1;omega);have hpos:=dY hr0;unfold CN;have hsk:=H.skips;have hst:=H.start;refine AN (Q:=fun x=>x=false) ?_ fun x hx=> ?_
 ·refine Ak (decide_eq_false (by omega)) (Ak (by rw [hsk];rfl) (Ak (decide_eq_false (by omega)) (Ak (decide_eq_false (by omega)) (Ak (decide_eq_false (by omega)) ?_))));rw [hst];exact AS (RZ (by omega)) (AG rfl)
 subst hx;refine Ak rfl<|El (fun k (l:List ByteArray)=>l.length=k∧ ∀j,j<k→l[j]? =some (nm 97 j)) (by omega) ⟨rfl,fun j h=>by omega⟩ (fun k l hk h=> ?_) fun toks hz=> ?_
 ·have hx:=H.toks.2 k (by omega);refine AW hx (Bo (by have:=h.1;simp only [cA,cI];omega) (AW hx ?_));refine AS (Ol (.tok (by omega))) (Ak rfl (FL ⟨by simp [h.1],fun j hj=> ?_⟩));rcases dI j k with g | g
  ·rw [cG (by rw [h.1];exact g)];exact h.2 j g
  ·have:j=k:=by omega
   subst this;rw [cZ (by rw [h.1];omega),h.1];simp
 refine El (fun k _=>True) (by rw [hsk];decide) trivial (fun k l hk h=>by rw [hsk]at hk;exact absurd hk (Nat.not_lt_zero _)) fun _ _=>El (fun k (l:List ByteArray)=>l=FI (g.2.2.1.take k)) (by omega) rfl (fun k l hk h=> ?_) fun levs hv=> ?_
 ·subst h;have hx:=bR hk;obtain ⟨h1,h2,h3⟩:=H.levs.each k _ hx;have e:FI (g.2.2.1.take (k+1))=FI (g.2.2.1.take k) ++g.2.2.1[k].2:=by
   unfold FI;rw [fL,hx,gI];show _=_;simp
  have hroom:=H.levs.room;have e2:FI g.2.2.1=FI (g.2.2.1.take (k+1)) ++FI (g.2.2.1.drop (k+1)):=by
   unfold FI;rw [←gI,List.take_append_drop]
  have e3:=congrArg eX e2;rw [e,cS,cS]at e3;refine AW hx (Bo (by omega) ?_);refine AN (Q:=fun x=>x=false) (Ak (decide_eq_false (by omega)) (Ak (decide_eq_false (by omega)) (AG ?_))) fun x hx=> ?_
  ·have:=dY h3
   exact beq_eq_false_iff_ne.2 (by omega)
  ·subst hx;refine Ak rfl ?_;rw [←e];exact FL rfl
 refine El (fun k _=>True) (by omega) trivial (fun k _ hk _=> ?_) fun _ _=> ?_
 ·have hx:=bR hk;have hr:=H.rules _ (cK hk);obtain ⟨n1,n2,n3⟩:=hr.nm hnt hnv hnl;have hf:=hr.few;refine AW hx<|AN (Q:=fun x=>x=false) (AS n1.name (Ak rfl (Ak (decide_eq_false (by omega)) (Ae (fun hc=> ?_) fun hc=> ?_)))) fun x hx=> ?_
  ·rw [hr.act];rcases n3 with h | h
   ·rw [h,De]at hc;simp at hc
   ·exact AS h.name (Ak rfl (AS K8 (AG rfl)))
  ·rw [hr.act];exact AS K8 (AG rfl)
  ·subst hx;refine Ak rfl<|El (fun k _=>True) (by omega) trivial (fun j _ hj _=> ?_) fun _ _=>FL trivial;exact AW (bR hj) (AS (n2 _ (cK hj)).name (Ak rfl (FL trivial)))
 have hmem:∀x∈toks,∃j,j<nt∧x=nm 97 j:=fun x hx=>by
  obtain ⟨j,hj⟩:=dO hx;have hjl:=(List.getElem?_eq_some_iff.1 hj).1
  have:=hz.2 j (by omega)
  rw [hj]at this;exact ⟨j,by omega,Option.some.inj this⟩
 have h1:BO toks=some true:=Ra (by omega) (fun x hx=>by obtain ⟨j,hj,rfl⟩:=hmem x hx;exact .tok (by omega)) (List.nodup_iff_pairwise_ne.2 (List.pairwise_iff_getElem.2 fun i j hi hj hij e=>by
  have a:=hz.2 i (by omega);have b:=hz.2 j (by omega);rw [bR hi]at a;rw [bR hj,←e,a]at b
  have:=Kg (by omega) (by omega) (Option.some.inj b)
  omega))
 have h2:BO levs=some true:=by
  rw [hv,fT (dN _)];exact Ra (by have:=H.levs.room;omega) H.nm_lev H.levs.once
 exact AN (Q:=fun x=>x=true) (AS h1 (Cu rfl (AS h2 (AG rfl)))) fun x hx=>AG hx
abbrev UK:ByteArray:={data:=#[36,101,110,100]}
structure TT (nt:Nat) (T:List ByteArray):Prop where
 len:T.length=nt+1
 zero:T[0]? =some UK
 tok:∀j,j<nt→T[j+1]? =some (nm 97 j)
theorem UL (c i:Nat):UK≠nm c i:=fun h=>by unfold nm at h;simp at h
theorem TT.cases {nt:Nat}{T:List ByteArray}(H:TT nt T) {j:Nat}{s:ByteArray}(h:T[j]? =some s):(j=0∧s=UK)∨ ∃i,i<nt∧j=i+1∧s=nm 97 i:=by
 cases j with
 |zero=>rw [H.zero]at h;exact .inl ⟨rfl,(Option.some.inj h).symm⟩
 |succ i=>
  have:=(List.getElem?_eq_some_iff.1 h).1
  have hl:=H.len;rw [H.tok i (by omega)]at h;exact .inr ⟨i,by omega,rfl,(Option.some.inj h).symm⟩
structure VV (nv:Nat) (V:List ByteArray):Prop where
 names:∀x∈V,∃i,i<nv∧x=nm 83 i
 once:V.Nodup
theorem Vc {nt i:Nat}{T V:List ByteArray}(H:TT nt T) (hn:nt≤5) (hi:i<nt):Ok (BJ (T,V) (nm 97 i)) fun k=>k=((i+1:Nat):Int):=by
 have hl:=H.len;unfold BJ;refine AN (Gc (by dsimp only;omega)) fun k hk=> ?_;rcases hk with ⟨rfl,h⟩|⟨j,rfl,h⟩
 ·exact absurd (cV (H.tok i hi)) h
 ·refine Cu (decide_eq_true (by omega)) (AG ?_);rcases H.cases h with ⟨_,h⟩|⟨q,h1,h2,h3⟩
  ·exact absurd h.symm (UL _ _)
  ·have:=Kg (by omega) (by omega) h3
   omega
theorem Ox {nt nv i:Nat}{T V:List ByteArray}(H:TT nt T) (hn:nt≤5) (hv:nv≤4) (hV:V.length≤100) (hi:i<nv) (hm:nm 83 i∈V):Ok (BJ (T,V) (nm 83 i)) fun k=>∃j:Nat,k=((nt+1+j:Nat):Int)∧V[j]? =some (nm 83 i):=by
 have hl:=H.len;unfold BJ;refine AN (Gc (by dsimp only;omega)) fun k hk=> ?_;rcases hk with ⟨rfl,h⟩|⟨j,rfl,h⟩
 ·refine Ak rfl (AN (Gc (by dsimp only;omega)) fun k hk=> ?_);rcases hk with ⟨rfl,h⟩|⟨j,rfl,h⟩
  ·exact absurd hm h
  ·refine Cu (decide_eq_true (by omega)) (AG ⟨j,?_,h⟩)
   have:=(List.getElem?_eq_some_iff.1 h).1
   dsimp only at this;rw [hl,wr (by omega)];omega
 ·rcases H.cases h with ⟨_,h⟩|⟨q,h1,h2,h3⟩
  ·exact absurd h.symm (UL _ _)
  ·have:=Kg (by omega) (by omega) h3
   omega
theorem Px {nt nv nl:Nat}{g:C1}(H:Sg nt nv nl g) (s:ByteArray):Ok (Bs g s) fun k=>0≤k∧k≤nl∧ ∀i,i<nl→s=nm 112 i→k≠0:=by
 have hl:=H.levs.len;have hnl:=H.nl5;unfold Bs;have hr:=H.levs.room;have hnt:=H.nt5;have hlen:∀(j:Nat) x,g.2.2.1[j]? =some x→x.2.length≤100:=fun j x hx=>by
  have:=(List.sublist_flatten_of_mem (List.mem_map_of_mem (f:=(·.2)) (cV hx))).length_le
  have e:FI g.2.2.1=(List.map (·.2) g.2.2.1).flatten:=by unfold FI;rw [List.flatMap_def]
  rw [←e]at this;omega
 refine K7 g.2.2.1 (fun _ x=> @decide (s∈x.2) (dW _)) (fun k _=>bU .i64 ((k:Int)+1)) (by omega) (fun j x hx=> ?_) (fun h=> ?_) fun j x hx hq _=> ?_
 ·rw [CI,hx,cL];obtain ⟨k,h1,h2⟩:=Gc (l:=x.2) (s:=s) (by have:=hlen j x hx;omega);rw [h1,cL];rcases h2 with ⟨rfl,h⟩|⟨q,rfl,h⟩
  ·rw [@decide_eq_false _ (dW _) h];rfl
  ·rw [@decide_eq_true _ (dW _) (cV h),decide_eq_true (by omega)];rfl
 ·refine AG ⟨by omega,by omega,fun i hi hs _=> ?_⟩;have hx:=bR (show i<g.2.2.1.length by omega)
  have:= @of_decide_eq_false _ (dW _) (h i _ hx)
  rw [hs]at this;exact this (H.levs.each i _ hx).2.2
 ·have:=(List.getElem?_eq_some_iff.1 hx).1
  have e:bU .i64 ((j:Int)+1)=(j:Int)+1:=wr (by omega);exact AG ⟨by rw [e];omega,by rw [e];omega,fun _ _ _=>by rw [e];omega⟩
structure Pr (nt nV nl:Nat) (r:Ay):Prop where
 left:((nt+1:Nat):Int) ≤r.1∧r.1< ((nt+1+nV:Nat):Int)
 few:r.2.1.length≤8
 right:∀x∈r.2.1,0<x∧x< ((nt+1+nV:Nat):Int)
 lev:0≤r.2.2∧r.2.2≤nl
structure Pl (nt nl:Nat) (p:BA):Prop where
 nt5:1≤nt∧nt≤5
 nl5:nl≤5
 terms:TT nt p.1
 vars:1≤p.2.1.length∧p.2.1.length≤24
 first:∃st:Int,((nt+1:Nat):Int) ≤st∧st< ((nt+1+p.2.1.length:Nat):Int)∧p.2.2.1[0]? =some (((nt+1+p.2.1.length:Nat):Int),[st],0)
 rules:∀(k:Nat) r,1≤k→p.2.2.1[k]? =some r→Pr nt p.2.1.length nl r
 room:1≤p.2.2.1.length∧p.2.2.1.length≤25
 all:∀v:Nat,v<p.2.1.length→ ∃r∈p.2.2.1,r.1=((nt+1+v:Nat):Int)
 levels:p.2.2.2.1.length=nt+1∧ ∀x∈p.2.2.2.1,0≤x∧x≤nl
 assocs:p.2.2.2.2.1.length=nl+1
theorem UM {α:Type}{l:List α}(h:l.Nodup) {i j:Nat}(hi:i<l.length) (hj:j<l.length) (e:l[i] =l[j]):i=j:=by
 have H:=List.pairwise_iff_getElem.1 (List.nodup_iff_pairwise_ne.1 h);rcases hQ i j with g | g | g
 ·exact absurd e (H i j hi hj g)
 ·exact g
 ·exact absurd e.symm (H j i hj hi g)
set_option maxHeartbeats 4000000 in
theorem of_ok {nt nv nl:Nat}{g:C1}(H:Sg nt nv nl g):Ok (Ct g) fun p=>Pl nt nl (p.1,p.2.1,p.2.2.1,p.2.2.2.1,p.2.2.2.2.1,p.2.2.2.2.2.1):=by
 have hlr:=H.room;have hll:=H.levs.len;have htl:=H.toks.1;have hnt:=H.nt5;have hnt1:=H.nt1;have hnv:=H.nv4;have hnl:=H.nl5;have hnv1:=H.nv1;obtain ⟨r0,hr0,_⟩:=H.all 0 (by omega);have hpos:=dY hr0;unfold Ct;refine AS (UJ H) (Ak rfl ?_);refine B8 (fun k (z:BA)=>z.1= [UK] ∧VV nv z.2.1∧z.2.1.length≤k∧(∀(j:Nat) r,j<k→g.2.2.2.2[j]? =some r→r.1∈z.2.1)∧(∀x∈z.2.1,∃r∈g.2.2.2.2,r.1=x)∧z.2.2.1= [] ∧z.2.2.2.1= [0] ∧z.2.2.2.2.1= [0] ∧z.2.2.2.2.2.length=k+1) (by omega) ⟨rfl,⟨by simp,by simp⟩,by simp,fun j r h=>by omega,by simp,rfl,rfl,rfl,rfl⟩ (fun k z hk h=> ?_) fun z hz=> ?_
 ·obtain ⟨z1,z2,z3,z4,z5,z6⟩:=z;obtain ⟨rfl,hV,hk2,hall,hfr,rfl,rfl,rfl,h6⟩:=h;dsimp only at hV hk2 hall hfr h6 ⊢;have hx:=bR hk;have hr:=H.rules _ (cK hk);refine AW hx (AN (Gc (by omega)) fun t ht=> ?_);refine AN (Q:=fun (z:BA)=>z.1= [UK] ∧VV nv z.2.1∧z.2.1.length≤k+1∧(∀(j:Nat) r,j<k+1→g.2.2.2.2[j]? =some r→r.1∈z.2.1)∧(∀x∈z.2.1,∃r∈g.2.2.2.2,r.1=x)∧z.2.2.1= [] ∧z.2.2.2.1= [0] ∧z.2.2.2.2.1= [0] ∧z.2.2.2.2.2=z6) ?_ fun z hz=> ?_
  ·rcases ht with ⟨rfl,ht⟩|⟨j,rfl,ht⟩
   ·refine Cu rfl (AW hx (Bo (by simp only [cA,cI];omega) (AG ⟨rfl,⟨fun x hx'=> ?_,?_⟩,by simp;omega,fun j r hj hr'=> ?_,fun x hx'=> ?_,rfl,rfl,rfl,rfl⟩)))
    ·rcases List.mem_append.1 hx' with h | h
     ·exact hV.names x h
     ·obtain rfl:=List.mem_singleton.1 h;exact hr.left
    ·exact List.nodup_append.2 ⟨hV.once,by simp,fun x hx' y hy hxy=>ht (by
      have:y=g.2.2.2.2[k].1:=by simpa using hy
      rw [←this,←hxy];exact hx')⟩
    ·rcases Nat.lt_succ_iff_lt_or_eq.1 hj with h | rfl
     ·exact dU _ (hall j r h hr')
     ·rw [hx]at hr';cases hr';exact fZ _ (List.mem_singleton.2 rfl)
    ·rcases List.mem_append.1 hx' with h | h
     ·exact hfr x h
     ·obtain rfl:=List.mem_singleton.1 h;exact ⟨_,cK hk,rfl⟩
   ·refine Ak (decide_eq_false (by omega)) (AG ⟨rfl,hV,by dsimp only;omega,fun i r hi hr'=> ?_,hfr,rfl,rfl,rfl,rfl⟩);rcases Nat.lt_succ_iff_lt_or_eq.1 hi with h | rfl
    ·exact hall i r h hr'
    ·rw [hx]at hr';cases hr';exact cV ht
  ·obtain ⟨y1,y2,y3,y4,y5,y6⟩:=z;obtain ⟨rfl,hV,hk2,hall,hfr,rfl,rfl,rfl,e6⟩:=hz;have e6':y6=z6:=e6;have hy6:y6.length=k+1:=by rw [e6'];exact h6
   exact AW hx (Bo (by simp only [cA,cI];omega) (AG ⟨rfl,hV,hk2,hall,hfr,rfl,rfl,rfl,by simp [hy6]⟩))
 obtain ⟨z1,V,z3,z4,z5,acts⟩:=z;obtain ⟨rfl,hV,hk2,hall,hfr,rfl,rfl,rfl,h6⟩:=hz;dsimp only at hV hk2 hall hfr h6;have hV16:V.length≤24:=by omega
 clear hk2;have hVm:∀v,v<nv→nm 83 v∈V:=fun v hv=>by
  obtain ⟨r,h1,h2⟩:=H.all v hv;obtain ⟨j,hj⟩:=dO h1;rw [←h2];exact hall j r (List.getElem?_eq_some_iff.1 hj).1 hj
 have hVpos:1≤V.length:=dY (hVm 0 (by omega));refine El (fun k (z:BA×BA)=>TT k z.2.1∧z.2.2.1=V∧z.2.2.2.1= [] ∧z.2.2.2.2.1.length=k+1∧(∀x∈z.2.2.2.2.1,0≤x∧x≤nl)∧z.2.2.2.2.2.1= [0]) (by omega) ⟨⟨rfl,rfl,fun j h=>by omega⟩,rfl,rfl,rfl,by simp,rfl⟩ (fun k z hk h=> ?_) fun z hz=> ?_
 ·obtain ⟨w,z1,z2,z3,z4,z5,z6⟩:=z;obtain ⟨hT,e2,e3,h4,h4',e5⟩:=h;dsimp only at hT h4 h4' e2 e3 e5 ⊢;have hz16:z2.length≤24:=by rw [e2];exact hV16
  subst e2 e3 e5;have hx:=H.toks.2 k (by omega);have hTl:=hT.len;refine AW hx (AN (Gc (by omega)) fun t ht=> ?_);rcases ht with ⟨rfl,ht⟩|⟨j,rfl,ht⟩
  ·refine Ak rfl (AW hx (Bo (by simp only [cA,cI];omega) (AW hx (AN (Px H _) fun t ht=>Bo (by simp only [cA,cI];omega) (FL ⟨⟨by simp [hTl],?_,fun j hj=> ?_⟩,rfl,rfl,by simp [h4],fun x hx'=> ?_,rfl⟩)))))
   ·rw [cG (by omega)];exact hT.zero
   ·rcases Nat.lt_succ_iff_lt_or_eq.1 hj with h | rfl
    ·rw [cG (by omega)];exact hT.tok j h
    ·rw [cZ (by omega),show j+1 - z1.length=0 by omega];rfl
   ·rcases List.mem_append.1 hx' with h | h
    ·exact h4' x h
    ·obtain rfl:=List.mem_singleton.1 h;exact ⟨ht.1,ht.2.1⟩
  ·obtain ⟨i,h1,h2⟩:=hV.names _ (cV ht)
   have:=Kg (by omega) (by omega) h2
   omega
 obtain ⟨w,T,z2,z3,levels,z5,z6⟩:=z;obtain ⟨hT,e2,e3,h4,h4',e5⟩:=hz;dsimp only at hT h4 h4' e2 e3 e5 ⊢;subst e2 e3 e5;rw [htl]at hT h4;have hTl:=hT.len;refine B8 (fun k (z:BA)=>z.1=T∧z.2.1=z2∧z.2.2.1= [] ∧z.2.2.2.1=levels∧z.2.2.2.2.1.length=k+1) (by omega) ⟨rfl,rfl,rfl,rfl,rfl⟩ (fun k z hk h=> ?_) fun z hz=> ?_
 ·obtain ⟨y1,y2,y3,y4,y5,y6⟩:=z;obtain ⟨rfl,rfl,rfl,rfl,h5⟩:=h;exact AW (bR hk) (Bo (by dsimp only at h5 ⊢;simp only [cA,cI];omega) (AG ⟨rfl,rfl,rfl,rfl,by dsimp only at h5 ⊢;simp [h5]⟩))
 obtain ⟨y1,y2,y3,y4,assocs,y6⟩:=z;obtain ⟨e1,e2,e3,e4,h5⟩:=hz;dsimp only at h5 e1 e2 e3 e4 ⊢;subst e1 e2 e3 e4;rw [hll]at h5;rw [H.start];refine AN (Ox (nv:=nv) hT hnt hnv (by omega) (by omega) (hVm 0 (by omega))) fun st hst=> ?_;obtain ⟨sj,rfl,hsj⟩:=hst;have hsjl:=(List.getElem?_eq_some_iff.1 hsj).1;rw [wr (show -1000000≤(y1.length:Int)+(y2.length:Int)∧(y1.length:Int)+(y2.length:Int) ≤1000000 by omega)];refine El (fun k (z:BA×BA)=>z.2.1=y1∧z.2.2.1=y2∧z.2.2.2.1.length=k+1∧z.2.2.2.1[0]? =some (((nt+1+y2.length:Nat):Int),[((nt+1+sj:Nat):Int)],0)∧(∀(j:Nat) r,1≤j→z.2.2.2.1[j]? =some r→Pr nt y2.length nl r∧ ∃r'∈g.2.2.2.2,g.2.2.2.2[j - 1]? =some r'∧y2[r.1.toNat - (nt+1)]? =some r'.1)∧z.2.2.2.2.1=y4∧z.2.2.2.2.2.1=assocs) (by omega) ⟨rfl,rfl,rfl,by dsimp only;rw [hTl];simp [Int.natCast_add],fun j r hj hr=>by
  have:=(List.getElem?_eq_some_iff.1 hr).1
  simp at this
  omega,rfl,rfl⟩ (fun k z hk h=> ?_) fun z hz=> ?_
 ·obtain ⟨w,x1,x2,x3,x4,x5,x6⟩:=z;obtain ⟨e1,e2,hlen,h0,hrs,e4,e5⟩:=h;dsimp only at hlen h0 hrs e1 e2 e4 e5 ⊢;subst e1 e2 e4 e5;have hx:=bR hk;have hr:=H.rules _ (cK hk);obtain ⟨vi,hvi,hvl⟩:=hr.left;refine AW hx ?_;rw [hvl];refine AN (Ox (nv:=nv) hT hnt hnv (by omega) hvi (hVm vi hvi)) fun t ht=> ?_;obtain ⟨tj,rfl,htj⟩:=ht;have htjl:=(List.getElem?_eq_some_iff.1 htj).1;have hrf:=hr.few;refine El (fun i (z:BA×Ay)=>z.2.1=((nt+1+tj:Nat):Int)∧z.2.2.1.length=i∧(∀x∈z.2.2.1,0<x∧x< ((nt+1+x2.length:Nat):Int))∧0≤z.2.2.2∧z.2.2.2≤nl) (by omega) ⟨rfl,rfl,by simp,by simp,by simp⟩ (fun i z hi h=> ?_) fun z hz=> ?_
  ·obtain ⟨w,u1,u2,u3⟩:=z;obtain ⟨rfl,hu,hus,hu3,hu3'⟩:=h;dsimp only at hu hus hu3 hu3' ⊢;have hy:=bR hi;have hym:=hr.right _ (cK hi);refine AW hy (AN (Q:=fun t=>0<t∧t< ((nt+1+x2.length:Nat):Int)) ?_ fun t ht=> ?_)
   ·rcases hym with ⟨q,hq,e⟩|⟨q,hq,e⟩
    ·rw [e];exact (Vc hT hnt hq).mono fun k hk=>by subst hk;omega
    ·rw [e];refine (Ox (nv:=nv) hT hnt hnv (by omega) hq (hVm q hq)).mono fun k hk=> ?_;obtain ⟨j,rfl,hj⟩:=hk
     have:=(List.getElem?_eq_some_iff.1 hj).1
     omega
   ·refine Ak (decide_eq_false (by omega)) (Bo (by simp only [cA,cI];omega) ?_);refine AN (Q:=fun (z:Ay)=>z.1=((nt+1+tj:Nat):Int)∧z.2.1=u2++ [t] ∧0≤z.2.2∧z.2.2≤nl) (Ae (fun hc=> ?_) fun _=>AG ⟨rfl,rfl,hu3,hu3'⟩) fun z hz=> ?_
    ·have hc:=of_decide_eq_true hc;have hq:t.toNat<x4.length:=by omega
     refine DC (by omega) (bR hq) (AG ⟨rfl,rfl,h4' _ (cK hq)⟩)
    ·obtain ⟨z1,z2,z3⟩:=z;obtain ⟨rfl,rfl,a,b⟩:=hz;refine FL ⟨rfl,by simp [hu],fun x hx'=> ?_,a,b⟩;rcases List.mem_append.1 hx' with h | h
     ·exact hus x h
     ·obtain rfl:=List.mem_singleton.1 h;exact ht
  ·obtain ⟨w2,u1,u2,u3⟩:=z;obtain ⟨rfl,hu,hus,hu3,hu3'⟩:=hz;dsimp only at hu hus hu3 hu3' ⊢;refine AN (Q:=fun e=>∃(y:Ay×BA),e=fS y∧y.1.1=((nt+1+tj:Nat):Int)∧y.1.2.1=u2∧0≤y.1.2.2∧y.1.2.2≤nl) (Ae (fun hc=> ?_) fun hc=>AG ⟨_,rfl,rfl,rfl,hu3,hu3'⟩) fun e he=> ?_
   ·refine AN (Px H _) fun t ht=> ?_;rcases hr.prec with h | ⟨i,hi,h⟩
    ·rw [h,De]at hc;simp at hc
    ·refine Ak (beq_eq_false_iff_ne.2 (ht.2.2 i hi h)) (AG ⟨_,rfl,rfl,rfl,ht.1,ht.2.1⟩)
   ·obtain ⟨⟨⟨v1,v2,v3⟩,v4⟩,rfl,ev1,ev2,hv3,hv3'⟩:=he;dsimp only at hv3 hv3' ev1 ev2 ⊢;subst ev1 ev2;refine Bo (by simp only [cA,cI];omega) (FL ⟨rfl,rfl,by simp [hlen],?_,fun j r hj hr'=> ?_,rfl,rfl⟩)
    ·rw [cG (by omega)];exact h0
    ·rcases dI j x3.length with gj | gj
     ·rw [cG gj]at hr';exact hrs j r hj hr'
     ·have hjl:=(List.getElem?_eq_some_iff.1 hr').1;simp at hjl
      have:j=x3.length:=by omega
      subst this;rw [cZ (dN _),Nat.sub_self]at hr';cases hr';refine ⟨⟨⟨by dsimp only;omega,by dsimp only;omega⟩,by dsimp only;omega,hus,hv3,hv3'⟩,g.2.2.2.2[k],cK hk,by rw [hlen];exact hx,?_⟩;dsimp only;rw [show ((nt+1+tj:Nat):Int).toNat - (nt+1)=tj by omega,htj,hvl]
 obtain ⟨w,x1,x2,rules,x4,x5,x6⟩:=z;obtain ⟨e1,e2,hlen,h0,hrs,e4,e5⟩:=hz;dsimp only at hlen h0 hrs e1 e2 e4 e5 ⊢;subst e1 e2 e4 e5;refine AN (Gc (by omega)) fun t ht=> ?_;rcases ht with ⟨rfl,ht⟩|⟨j,rfl,ht⟩
 ·exact absurd (hVm 0 (by omega)) ht
 refine Ak (decide_eq_false (by omega)) (AG ⟨⟨hnt1,hnt⟩,hnl,hT,⟨hVpos,by dsimp only;omega⟩,⟨((nt+1+sj:Nat):Int),by omega,by dsimp only;omega,h0⟩,fun k r hk hr=>(hrs k r hk hr).1,⟨by dsimp only;omega,by dsimp only;omega⟩,fun v hv=> ?_,⟨h4,h4'⟩,h5⟩);dsimp only at hv ⊢;have hvx:=bR hv;obtain ⟨r,hr1,hr2⟩:=hfr _ (cK hv);obtain ⟨i,hi⟩:=dO hr1;have hil:=(List.getElem?_eq_some_iff.1 hi).1;have hri:=bR (show i+1<rules.length by omega);obtain ⟨hp,r',_,h1,h2⟩:=hrs (i+1) _ (by omega) hri;rw [Nat.add_sub_cancel,hi]at h1;cases h1;refine ⟨_,cK (show i+1<rules.length by omega),?_⟩;have hl:=hp.left;rw [hr2]at h2;obtain ⟨hq,h2⟩:=List.getElem?_eq_some_iff.1 h2
 have:=UM hV.once hq hv h2
 omega
theorem Vd {s:Le}(G:SmG s) (F:SmF 20 8 s):Ok (Bf s) fun p=>∃nt nl,Pl nt nl p:=by
 unfold Bf;exact AN (Qq G F) fun g hg=>AN (of_ok hg) fun p hp=>AG ⟨_,_,hp⟩
abbrev Rl:Type:=List Ay
def beh (R:Rl) (x:Item):Int:=match R[x.1.toNat]? with
 |some r=>(r.2.1[x.2.toNat]?).getD (-1)
 |none=> -1
def OkI (R:Rl) (x:Item):Prop:=0≤x.1∧0≤x.2∧ ∃r,R[x.1.toNat]? =some r∧x.2.toNat≤r.2.1.length
structure VP (nT:Int) (R:Rl):Prop where
 t0:0≤nT
 left:∀r∈R,nT≤r.1
 right:∀r∈R,∀s∈r.2.1,0≤s
 few:R.length≤100
 short:∀r∈R,r.2.1.length≤100
theorem Lo {p:BA}{x:Item}(h:OkI p.2.2.1 x):Bc (qA p Fa 0) x=some (beh p.2.2.1 x):=by
 obtain ⟨h0,h1,r,h2,h3⟩:=h;refine iW ?_;unfold Bc;refine DC h0 h2 ?_;have e:beh p.2.2.1 x=(r.2.1[x.2.toNat]?).getD (-1):=by unfold beh;rw [h2]
 refine Ae (fun hc=> ?_) fun hc=> ?_
 ·have hc:=of_decide_eq_true hc;refine AG ?_;rw [e,cP (by omega)];rfl
 ·have hc:=of_decide_eq_false hc;have hl:x.2.toNat<r.2.1.length:=by omega
  refine DC h1 (bR hl) (AG ?_);rw [e,bR hl];rfl
theorem W0 {nT:Int}{R:Rl}(V:VP nT R) {x:Item}(h:OkI R x):beh R x= -1∨0≤beh R x:=by
 obtain ⟨h0,h1,r,h2,h3⟩:=h;unfold beh;rw [h2];dsimp only;cases e:r.2.1[x.2.toNat]? with
 |none=>exact .inl rfl
 |some s=>exact .inr (V.right r (cV h2) s (cV e))
theorem IE (q:BA) (s:Int):BV q s=some (decide (0≤s) && decide (s< (q.1.length:Int))):=by
 refine iW ?_;unfold BV;refine AN (Q:=fun b=>b=(decide (0≤s) && decide (s< (q.1.length:Int)))) (Ae (fun h=>AG ?_) fun h=>AG ?_) fun b hb=>AG hb
 ·rw [decide_eq_true (show 0≤s from of_decide_eq_true h),eI]
 ·rw [decide_eq_false (show ¬0≤s from of_decide_eq_false h),gF]
theorem JU {l:List Item}{x:Item}(h:l.length≤9223372036854775807):An l x=some (decide (x∈l)):=by
 refine iW ?_;unfold An Aw;refine AN (Q:=fun k=>(k= -1∧x∉l)∨(0≤k∧x∈l)) ?_ fun k hk=>AG ?_
 ·refine K7 l (fun _ y=>decide (x=y)) (fun k _=>k) h (fun j y hy=> ?_) (fun hn=>AG (.inl ⟨rfl,fun hm=> ?_⟩)) fun j y hy hq _=>AG (.inr ⟨by omega,?_⟩)
  ·rw [CI,hy,cL];have e:((x.1,x.2).1==y.1 && ((x.1,x.2).2==y.2 && true))=decide (x=y):=by
    obtain ⟨a,b⟩:=x;obtain ⟨c,d⟩:=y;rw [gJ,Bool.eq_iff_iff];simp
   rw [e];cases decide (x=y) <;>rfl
  ·obtain ⟨j,hj⟩:=dO hm
   have:=hn j x hj
   simp at this
  ·have:=of_decide_eq_true hq
   subst this;exact cV hy
 ·rcases hk with ⟨rfl,h⟩|⟨h0,h⟩
  ·rw [decide_eq_false h];rfl
  ·rw [decide_eq_true h];exact decide_eq_true h0
inductive Cl (R:Rl) (K:List Item):Item→Prop
 |base {x:Item} :x∈K→Cl R K x
 |step {y:Item} {k:Nat} {r:Ay} :Cl R K y→R[k]? =some r→r.1=beh R y→Cl R K ((k:Int),0)
def Lt (x y:Item):Prop:=x.1<y.1∨x.1=y.1∧x.2<y.2
theorem Lt.irrefl (x:Item):¬Lt x x:=by unfold Lt;omega
theorem Lt.trans {x y z:Item}(h1:Lt x y) (h2:Lt y z):Lt x z:=by unfold Lt at *;omega
theorem Sl {l:List Item}(h:l.Nodup):(Gh l).Pairwise Lt:=by
 have h1:=Mt LJ LK l;have h2:(Gh l).Nodup:=(Cz _ l).nodup_iff.2 h;refine ((List.pairwise_and_iff.2 ⟨h1,List.nodup_iff_pairwise_ne.1 h2⟩).imp fun {a b} h=> ?_);obtain ⟨h3,h4⟩:=h;simp only [Dj,eC,decide_eq_false_iff_not]at h3;have h5:¬(a.1=b.1∧a.2=b.2):=fun e=>h4 (iR e.1 e.2);unfold Lt;omega
theorem Q5 {l:List Item}{x:Item}:x∈Gh l↔x∈l:=(Cz _ l).mem_iff
theorem Nq (l:List Item):(Gh l).length=l.length:=(Cz _ l).length_eq
theorem ND {R:Rl}{E:List Item}(hn:E.Nodup) (h:∀x∈E,∃k:Nat,k<R.length∧x=((k:Int),0)):E.length≤R.length:=by
 have:=List.Nodup.length_le_of_subset (l₂:=(eF R.length).map fun k:Nat=>((k:Int),(0:Int))) hn (fun x hx=>by
  obtain ⟨k,h1,h2⟩:=h x hx;exact List.mem_map.2 ⟨k,List.mem_range.2 h1,h2.symm⟩)
 simpa using this
structure Oy (R:Rl) (K C:List Item):Prop where
 up:C.Pairwise Lt
 mem:∀x,x∈C↔Cl R K x
 len:C.length≤K.length+R.length
theorem Cl.ok {R:Rl}{K:List Item}(hK:∀x∈K,OkI R x) {x:Item}(h:Cl R K x):OkI R x:=by
 induction h with
 |base h=>exact hK _ h
 | @step y k r _ h1 h2 _=>exact ⟨by dsimp only;omega,by dsimp only;omega,r,by simpa using h1,by simp⟩
set_option maxHeartbeats 1000000 in
theorem Q6 {p:BA}(V:VP (p.1.length:Int) p.2.2.1) {K:List Item}(hK:∀x∈K,OkI p.2.2.1 x) (hn:K.Nodup) (hl:K.length≤1000000):Ok (A9 (qA p Fa 0) K) (Oy p.2.2.1 K):=by
 unfold A9;have hf:=V.few;refine AS (x:=K) (by unfold cloneD;rw [if_pos (by omega)]) ?_
 generalize hR:p.2.2.1=R at *
 refine C4 (fun (z:Int×List Item×List (Int×Bool))=>0≤z.1∧z.1≤(z.2.1.length:Int)∧(∃E:List Item,z.2.1=K++E∧E.Nodup∧ ∀x∈E,∃k:Nat,k<R.length∧x=((k:Int),0))∧z.2.1.Nodup∧(∀x∈z.2.1,Cl R K x)∧
  (∀s,BG s z.2.2=some true→ ∀(k:Nat) r,R[k]? =some r→r.1=s→((k:Int),(0:Int))∈z.2.1)∧
  ∀(j:Nat) x,(j:Int) <z.1→z.2.1[j]? =some x→ ∀(k:Nat) r,R[k]? =some r→r.1=beh R x→((k:Int),(0:Int))∈z.2.1)
  (fun z=>K.length+R.length - z.1.toNat) (fun b=>b.1.Nodup∧b.1.length≤K.length+R.length∧ ∀x,x∈b.1↔Cl R K x)
  ⟨Int.le_refl _,by dsimp only;omega,⟨[],by simp,by simp,by simp⟩,hn,fun x hx=>.base hx,(fun s h=>by cases h),fun j x h=>absurd h (by dsimp only;omega)⟩ (fun z hz=> ?_) fun b hb=> ?_
 ·obtain ⟨i,out,come⟩:=z;obtain ⟨h0,h1,hE,hno,hcl,hco,hdo⟩:=hz;dsimp only at h0 h1 hE hno hcl hco hdo ⊢;obtain ⟨E,eE,nE,mE⟩:=hE;have lE:=ND nE mE;have lo:out.length≤K.length+R.length:=by rw [eE,cS];omega
  refine Ae (fun hc=> ?_) fun hc=>Bj ⟨hno,lo,fun x=>⟨hcl x,fun h=> ?_⟩⟩
  ·have hc:=of_decide_eq_true hc;have hi:i.toNat<out.length:=by omega
   have hx:=bR hi;have hxm:=cK hi
   generalize out[i.toNat] =x at hx hxm
   have hox:=(hcl x hxm).ok hK;refine AN (Q:=fun (y:List Item×List (Int×Bool))=>(∃E:List Item,y.1=K++E∧E.Nodup∧ ∀x∈E,∃k:Nat,k<R.length∧x=((k:Int),0))∧y.1.Nodup∧(∀x∈y.1,Cl R K x)∧(∃E2,y.1=out++E2)∧
    (∀s,BG s y.2=some true→ ∀(k:Nat) r,R[k]? =some r→r.1=s→((k:Int),(0:Int))∈y.1)∧ ∀(k:Nat) r,R[k]? =some r→r.1=beh R x→((k:Int),(0:Int))∈y.1) ?_ fun y hy=> ?_
   ·refine DC h0 hx (AS (x:=beh R x) (by have:=Lo (p:=p) (x:=x) (by rw [hR];exact hox);rw [hR]at this;exact this) ?_);have hb:=W0 V hox
    generalize hs:beh R x=s at hb
    have no:s<0∨s< (p.1.length:Int)→ ∀(k:Nat) r,R[k]? =some r→r.1=s→((k:Int),(0:Int))∈out:=fun h k r hr e=>by
     have:=V.left r (cV hr)
     omega
    refine AN (Q:=fun b=>(b=true→ ∀(k:Nat) r,R[k]? =some r→r.1=s→((k:Int),(0:Int))∈out)) (Ae (fun hc=>AG fun _=>no (.inl (of_decide_eq_true hc))) fun hc=> ?_) fun b hb'=> ?_
    ·have hc:=of_decide_eq_false hc;refine AS (IE _ _) (Ae (fun ht=>AG fun _=>no (.inr ?_)) fun ht=> ?_)
     ·simp only [fO,decide_eq_true_eq]at ht;exact ht.2
     ·refine AS rfl (AG fun h=>hco s ?_);cases hm:BG s come with
      |none=>rw [hm]at h;cases h
      |some b=>rw [hm]at h;exact congrArg some h
    ·refine Ae (fun hc=>AG ⟨⟨E,eE,nE,mE⟩,hno,hcl,⟨[],by simp⟩,hco,hb' hc⟩) fun hc=>B8 (fun k (z:List Item)=>(∃E2:List Item,z=out++E2∧ ∀x∈E2,∃q:Nat,q<R.length∧x=((q:Int),0)∧ ∃r,R[q]? =some r∧r.1=s)∧z.Nodup∧ ∀(q:Nat) r,q<k→R[q]? =some r→r.1=s→((q:Int),(0:Int))∈z) (by omega) ⟨⟨[],by simp,by simp⟩,hno,fun q r h=>by omega⟩ (fun k z hk hz=> ?_) fun z hz=> ?_
     ·obtain ⟨⟨E2,e2,m2⟩,n2,d2⟩:=hz;have hr:=bR hk;have lz:z.length≤K.length+R.length:=by
       obtain ⟨n3,n4,n5⟩:=List.nodup_append.1 (show (K++(E++E2)).Nodup by rw [←bV,←eE,←e2];exact n2)
       have:=ND (R:=R) n4 (fun x hx=>by
        rcases List.mem_append.1 hx with h | h
        ·exact mE x h
        ·obtain ⟨q,a,b,_⟩:=m2 x h;exact ⟨q,a,b⟩)
       rw [e2,eE,bV,cS];omega
      refine AW hr (AN (Q:=fun b=>(b=true→R[k].1=s∧((k:Int),(0:Int))∉z)∧(b=false→R[k].1=s→((k:Int),(0:Int))∈z)) (Ae (fun hc=> ?_) fun hc=>AG ⟨by simp,fun _ e=> ?_⟩) fun b hb2=> ?_)
      ·refine AS (JU (by omega)) (AG ⟨fun h=>⟨eq_of_beq hc,?_⟩,fun h _=> ?_⟩)
       ·simpa using h
       ·simpa using h
      ·rw [e]at hc;simp at hc
      ·refine AN (Q:=fun (z':List Item)=>(∃E2:List Item,z'=out++E2∧ ∀x∈E2,∃q:Nat,q<R.length∧x=((q:Int),0)∧ ∃r,R[q]? =some r∧r.1=s)∧z'.Nodup∧ ∀(q:Nat) r,q<k+1→R[q]? =some r→r.1=s→((q:Int),(0:Int))∈z') (Ae (fun hc=> ?_) fun hc=>AG ⟨⟨E2,e2,m2⟩,n2,fun q r hq hr' e=> ?_⟩) fun z' hz'=>AG hz'
       ·obtain ⟨g1,g2⟩:=hb2.1 hc;refine Bo (by simp only [cA,cI];omega) (AG ⟨⟨E2++ [((k:Int),0)],by rw [e2,bV],fun x hx=> ?_⟩,?_,fun q r hq hr' e=> ?_⟩)
        ·rcases List.mem_append.1 hx with h | h
         ·exact m2 x h
         ·exact ⟨k,hk,List.mem_singleton.1 h,_,hr,g1⟩
        ·refine List.nodup_append.2 ⟨n2,by simp,fun x hx y hy hxy=>g2 ?_⟩;rw [←List.mem_singleton.1 hy,←hxy];exact hx
        ·rcases Nat.lt_succ_iff_lt_or_eq.1 hq with h | rfl
         ·exact dU _ (d2 q r h hr' e)
         ·exact fZ _ (List.mem_singleton.2 rfl)
       ·rcases Nat.lt_succ_iff_lt_or_eq.1 hq with h | rfl
        ·exact d2 q r h hr' e
        ·rw [hr]at hr';cases hr';exact hb2.2 hc e
     ·obtain ⟨⟨E2,e2,m2⟩,n2,d2⟩:=hz;have hall:∀(k:Nat) r,R[k]? =some r→r.1=s→((k:Int),(0:Int))∈z:=fun k r hr e=>d2 k r (List.getElem?_eq_some_iff.1 hr).1 hr e;refine AG ⟨⟨E++E2,by rw [e2,eE,bV],?_,fun x hx=> ?_⟩,n2,fun x hx=> ?_,⟨E2,e2⟩,fun s' hs' k r hr e=> ?_,hall⟩
      ·exact (List.nodup_append.1 (show (K++(E++E2)).Nodup by rw [←bV,←eE,←e2];exact n2)).2.1
      ·rcases List.mem_append.1 hx with h | h
       ·exact mE x h
       ·obtain ⟨q,a,b,_⟩:=m2 x h;exact ⟨q,a,b⟩
      ·dsimp only at hx;rw [e2]at hx;rcases List.mem_append.1 hx with h | h
       ·exact hcl x h
       ·obtain ⟨q,a,b,r,c,d⟩:=m2 x h;rw [b];exact .step (hcl _ hxm) c (by rw [d,hs])
      ·dsimp only at hs' ⊢;rw [Cm]at hs';split at hs'
       ·rename_i e'
        exact hall k r hr (by rw [e,e'])
       ·rw [e2];exact dU _ (hco s' hs' k r hr e)
   ·obtain ⟨out',come'⟩:=y;obtain ⟨⟨E',eE',nE',mE'⟩,hno',hcl',⟨E2,e2⟩,hco',hx'⟩:=hy;dsimp only at eE' hno' hcl' e2 hco' hx' ⊢;have hw:bU .i64 (i+(1:Int))=i+1:=w64 (by omega) (by omega);have lo':out.length≤out'.length:=by rw [e2,cS];omega
    refine CX ⟨⟨by dsimp only;rw [hw];omega,by dsimp only;rw [hw];omega,⟨E',eE',nE',mE'⟩,hno',hcl',hco',fun j y hj hy k r hr e=> ?_⟩,by dsimp only;rw [hw];omega⟩;dsimp only at hj hy ⊢;rw [hw]at hj;rcases Int.lt_or_le j i with g | g
    ·rw [e2,cG (by omega)]at hy;rw [e2];exact dU _ (hdo j y g hy k r hr e)
    ·have:j=i.toNat:=by omega
     subst this;rw [e2,cG (by omega),hx]at hy;cases hy;exact hx' k r hr e
  ·have hc:=of_decide_eq_false hc
   induction h with
   |base h=>rw [eE];exact dU _ h
   | @step y k r _ g1 g2 ih=>
    obtain ⟨j,hj⟩:=dO ih
    have:=(List.getElem?_eq_some_iff.1 hj).1
    dsimp only at this;exact hdo j y (by omega) hj k r g1 g2
 ·obtain ⟨b1,b2,b3⟩:=hb;refine AS (x:=Gh b.1) (by unfold ID;rw [if_pos (by omega)]) (AG ⟨Sl b1,fun x=>Q5.trans (b3 x),by rw [Nq];exact b2⟩)
end Go.Proofs.YteolcjbobmpdiaaGreatDoor
