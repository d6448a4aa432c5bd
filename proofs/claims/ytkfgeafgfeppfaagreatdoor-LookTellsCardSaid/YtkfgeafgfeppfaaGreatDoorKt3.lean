/-
  DgEach, DgCollect, DgList, DgApart, DgUnion, DgFrom, DgVisit, DgSetsB, DgObjs, DgWalk, SimW, DgSolveF, LaysS, Str, SetsL, Laws, Clone, Sim3, Sim4, Cmp, SortItems, Sim5, Add, BuildL, G3, G4, P1, P2, P3, P4, LookD, DenL, FirstS, put together.
  Conditions: none; each part tells its own.
-/
import Derived.Test.YtkfgeafgfeppfaaGreatDoorKt2
import Derived.RangeFuncNested
import Derived.RangeFuncBound
import Derived.RangeFuncCalls
import Derived.RangeFuncLeaves
import Derived.Shelf.Abstract
import Derived.Shelf.RegionOpen
import Derived.WalkKit
import Derived.OwnWalkIn
import Derived.TacticsInMore
import Derived.LoopNIn
import Derived.LoopIn
import Derived.RangeFuncBox
import Derived.Maps.AppendAt
import Derived.Shelf.GgClosure.Gives
import Derived.KernelRfl
import Derived.Test.YtkfgeafgfeppfaaGreatDoorProg
import Derived.Shelf.Strconv.AppendIntPublic10
import Derived.Lib.ItoaLen
import Derived.Test.YtkfgeafgfeppfaaGreatDoorKt1
import Derived.Test.YtkfgeafgfeppfaaGreatDoorRows
import Derived.MakeChecks
import Derived.Stop.LaidErr
import Derived.Lib.LaidTab
import Derived.Lib.Walk
import Derived.StillTailTactics
import Derived.Sort.Grow
set_option linter.unusedVariables false
set_option maxRecDepth 100000
set_option maxHeartbeats 4000000
open List renaming getElem?_eq_getElem → gO,getElem?_eq_some_iff → gS,append_assoc → gT,getElem?_append_left → gV,mem_singleton → gW,mem_of_getElem? → gY,length_cons → gZ,getElem_mem → hZ,perm_append_comm → iA,length_nil → iC,mem_append → iD,perm_middle → iF,length_append → iH,size_toArray → iK,length_map → iL,getElem?_eq_none → iO,getElem?_append_right → iT,take_of_length_le → iU,append_toArray → iV,cons_append → iY,mem_append_left → iZ,push_toArray → jA,map_append → jD,pairwise_iff_getElem → jE,length_filter_le → jF,length_take → jG,getElem?_set_ne → jH,nil_append → jJ,getElem?_set_self → jM,nodup_iff_pairwise_ne → jP,findIdx?_eq_none_iff → jS,foldl_cons → jT,take_add_one → jV,getElem?_of_mem → jW,eq_nil_of_length_eq_zero → jZ,getElem?_take → kF,mem_map → kG,length_pos_of_mem → kH,mem_cons → kV,foldl_append → kZ,nodup_append → lF,mem_append_right → lG,filter_cons → lK,length_set → lO,replicate → lS,getElem?_map → lU,length → lV,flatMap_cons → lW,getElem?_cons_zero → lY,range → mA,append_nil → mG,contains_iff_mem → mH,take_append_drop → mI,pairwise_append → mM,mem_range → mP,mem_of_mem_take → mQ,zipWith_append → mS,flatMap_append → mT,getElem_of_mem → mU,map_cons → mV,filter_append → nH,pairwise_map → nJ,ext_getElem? → nN,map_map → nO,getElem_take → nU,not_mem_nil → nX,take_length → nY
open Go.Proofs.Tryz renaming prog → gP,underlying5 → jO,underlying22 → jU,underlying74 → lB,underlying9 → lH,underlying3 → lZ,func104 → mB,underlying153 → mX,underlying102 → mY,underlying197 → mZ,underlying245 → nA,underlying212 → nB,underlying169 → nD,underlying142 → nF,underlying30 → nI,underlying54 → nP,underlying99 → nQ
open Option renaming bind_eq_some_iff → gQ,bind_some → kQ,map → lT,isNone → mW,isNone_some → nC,getD_some → oA
open Go.IntKind renaming wrap → gR
open Go.Eng.T renaming call → gU,out → iB,block → iW,ret → jI,loop → jQ,join → jR,sem → jX,brk → kD,still → kN,both → mF,new → nW,load → nZ,store → oH
open Int renaming toNat → gX,toNat_natCast → kM,not_lt → kO,lt_or_le → mD
open List.Perm renaming cons → hO,append_right → hU,swap → iR,append_left → kJ,trans → lP,refl → oB
open Go.Eng.Ro renaming int → hQ,bool → lL,list → lR,pt → mN,prod → oG
open Array renaming getElem?_eq_getElem → iE,replicate_succ → iP,replicate_zero → iQ,getElem?_push → kU,getElem?_eq_none → kY
open Go.Eng.Rep renaming raw → iG,row → iM,ro → jL
open Nat renaming beq → iI,le_refl → iN,lt_succ_iff_lt_or_eq → iX,lt_or_ge → jK,lt_succ_self → jN,eq_zero_or_pos → nG
open Go.Builtin renaming append_ → iJ
open Go.Eng.Sub renaming refl → jB,trans → lJ
open Go.Value renaming int → jC
open Classical renaming propDecidable → jY
open Go.Instr renaming lookup → kT,makeSlice → kW,mapUpdate → lQ
open UInt8 renaming ofNat → kX
open Go.Eng.Ro.SliceIs renaming nil → lA
open Go.Eng.St renaming freezeRow → lC,cells → lM,get → lN,cell → lX,openR → oC,shutR → oD,there → oI,nil → oJ,lit → oK
open Bool renaming not_eq_true' → lD,and_eq_true → lI
open Go.Eng.AW renaming next → mC,done → mR
open Go.World renaming cell? → mJ
open Go.Eng.BX renaming int → mK
open Go.Addr renaming add → mL
open Prod renaming ext → mO
open Go.Eng.Ok renaming eq → oE
open Go.Sem renaming bind → oF
namespace Go.Proofs.YtkfgeafgfeppfaaGreatDoor.Dg
open Go Go.Eng Go.RowKit Go.Shelf
attribute [local go_sem] Oper.semAt_some
def KpL (L:List Nat) (W W':World):Prop:= ∀b∈L,∀o,W.heap[b]? =some o→W'.heap[b]? =some o
theorem KpL.refl (L:List Nat) (W:World):KpL L W W:=λ_ _ _ h=>h
theorem KpL.trans {L:List Nat}{A B C:World}(h:KpL L A B) (k:KpL L B C):KpL L A C:=λb hb o ho=>k b hb o (h b hb o ho)
theorem KpL.cell {L:List Nat}{b off:Nat}{A B:World}(h:KpL L A B) (hb:b∈L) {v:Value}(hc:A.cell? ⟨b,off,none⟩=some v):B.cell? ⟨b,off,none⟩=some v:=by
 unfold mJ at hc ⊢;dsimp only at hc ⊢;cases ho:A.heap[b]? with
 |none=>rw[ho]at hc;cases hc
 |some o=>rw[h b hb o ho];rw[ho]at hc;exact hc
theorem KpL.glob {L:List Nat}{A B:World}(h:KpL L A B) (hb:0∈L) (gk:Glob (Bj A.heap)):Glob (Bj B.heap):=by
 obtain⟨t,f,hg⟩:=gk;exact⟨t,f,h 0 hb _ hg⟩
theorem KpL.grown {L:List Nat}{A B:World}(h:A.grownBy B none):KpL L A B:=λb _ o ho=>by
 have hlt:b<A.heap.size:=by
  rcases jK b A.heap.size with g | g
  ·exact g
  ·rw[kY g]at ho;cases ho
 obtain⟨_,_,_,_,hk⟩:=h;rw[hk b hlt (by simp)];exact ho
def Dy (ws:List Nat) (k:Nat):gM:=((mA k).map λ(i:Nat)=>(F8 (ws[i]?.getD 0)).map λ(j:Nat)=>((i:Int) *64+(j:Int))).flatten
theorem O6 (ws:List Nat):Dy ws 0= []:=rfl
theorem Gn (ws:List Nat) (k:Nat):Dy ws (k+1)=Dy ws k++(F8 (ws[k]?.getD 0)).map λ(j:Nat)=>((k:Int) *64+(j:Int)):=by
 unfold Dy;rw[List.range_succ,jD,List.flatten_append];simp
theorem ce (m:Nat) {W:World}{u:Nat}(gk:Glob (Bj W.heap)) (hu:u<18446744073709551616):CallsIn Fence.wide m gP 105 #[.int .u64 (u:Int)] W λe W'=>e= .returned (.int .i64 ((tzN u:Nat):Int))∧W.grownBy W' none:=by
 refine callsIn_wide.2 ?_;have h:=bA (x:=(u:Int)) gk (St.start W.heap) (r:=((tzN u:Nat):Int)) (by unfold tzD;rw[gF (by omega),kM]) W rfl;refine h.mono λe W' ⟨hs,he⟩=> ?_;cases e with
 |returned v=>
  obtain⟨v',hv,ψ,y,b,f,i,d⟩:=he;cases hv;refine⟨by rw[f,i];rfl,hs.os,hs.tape,hs.output,?_,?_⟩
  ·rcases jK W'.heap.size W.heap.size with g | g
   ·have a:Bj W.heap W'.heap.size=some W.heap[W'.heap.size]:=iE g
    have:=Ay ((b.trans d.sub) _ _ a)
    omega
   ·exact g
  ·intro k hk _;have a:Bj W.heap k=some W.heap[k]:=iE hk;have j:W'.heap[k]? =some W.heap[k]:=(b.trans d.sub) _ _ a;rw[j,iE hk]
 |panicked c=>obtain⟨v',hv,_⟩:=he;cases hv
 |outgrown=>exact he.elim
theorem XG {a b:Nat}(ha:a<18446744073709551616) (hb:b<18446744073709551616):bits BinOp.and IntKind.u64 (a:Int) (b:Int)=((a &&& b:Nat):Int):=O4 ha hb
theorem XH (ws:List Nat) {k m:Nat}(h:k≤m):∃r,Dy ws m=Dy ws k++r:=by
 induction h with
 |refl=>exact⟨[],by simp⟩
 |step _ ih=>
  obtain⟨r,e⟩:=ih;exact⟨r++_,by rw[Nat.succ_eq_add_one,Gn,e,gT]⟩
set_option maxRecDepth 100000 in
theorem XI (n:Nat) (hn:3≤n) (l bx ba off cap:Nat) (ws:List Nat) (hws:∀w∈ws,w<18446744073709551616) (hlen:ws.length≤1000) (J Jx:gM→World→Prop) (W:World) (gk:Glob (Bj W.heap)) (hJ:AbidesFrom W.heap.size J)
 (hY:∀pre x W1,J pre W1→pre.length< (Dy ws ws.length).length→YieldAt Fence.wide (n - 1) gP l #[.int .i64 x] W1 λe W'=>
  (e= .returned (.bool true)∧J (pre++ [x]) W'∧KpL [bx,ba,0] W1 W')∨(e= .returned (.bool false)∧Jx (pre++ [x]) W'))
 (hbx:W.cell? ⟨bx,0,none⟩=some (.slice (some ⟨ba,off,none⟩) ws.length cap)) (hc:∀j,j<ws.length→W.cell? ⟨ba,off+j,none⟩=some (.int .u64 ((ws[j]?.getD 0:Nat):Int))) (F:J [] W):
 CallsIn Fence.wide n gP 104 #[.func (.yield l) #[] #[],.pointer (fH bx)] W λe W'=>(∃v,e= .returned v)∧
  ((∃xs,xs=Dy ws ws.length∧J xs W')∨(∃pre,pre<+:Dy ws ws.length∧Jx pre W')):=by
 refine callsIn_of_wp mB rfl trivial ?_ rfl;simp only[Tryz.ntmps104,iK,gZ,iC,Nat.reduceAdd,Nat.reduceSub,iP,iQ,jA,iV,jJ,iY]
 gi_wp2
 gi_loopw [7] (λi wr=>∃k:Nat,k≤ws.length∧i= .int .i64 k∧J (Dy ws k) wr∧KpL [bx,ba,0] W wr)
  (λi _=>ws.length - (intOf i).toNat)
 case atStart=>exact⟨0,Nat.zero_le _,rfl,F,KpL.refl _ _⟩
 case round=>
  obtain⟨k,hk,rfl,hJs,hnx⟩:=hrel;by_cases hlt:k<ws.length
  ·have hcx:wr.cell? ⟨ba,off+k,none⟩=some (.int .u64 ((ws[k]?.getD 0:Nat):Int)):=hnx.cell (by simp) (hc k hlt);obtain⟨x0,c⟩:∃x0,ws[k]?.getD 0=x0:=⟨_,rfl⟩;have h:x0<18446744073709551616:=by
    rw[←c,gO hlt];exact hws _ (hZ hlt)
   have hsucc:=Gn ws k;rw[c]at hcx hsucc;obtain⟨rest,hrest⟩:=XH ws (k:=k+1) (m:=ws.length) (by omega)
   gi_wp2
   gi_loopw [4] (λx d=>∃(u:Nat) (p:List Nat),x= .int .u64 (u:Int)∧u<18446744073709551616∧F8 x0=p++F8 u∧J (Dy ws k++p.map λ(j:Nat)=>((k:Int) *64+(j:Int))) d∧KpL [bx,ba,0] wr d)
    (λx _=>(intOf x).toNat)
   case atStart=>exact⟨_,[],rfl,h,rfl,by simpa using hJs,KpL.refl _ _⟩
   case round=>
    obtain⟨u,p,rfl,hu,hp,f,a⟩:=hrel;by_cases g:u=0
    ·subst g
     gi_wp2
     exact⟨⟨k+1,by omega,rfl,by rw[hsucc,hp,O5,mG];exact f,hnx.trans a⟩,by simp only[intOf];omega⟩
    ·have⟨z,B,C,D,E,G⟩:=Uy g hu;have hz:tzN u=z:=by
      unfold tzN;rw[MP B C D E];rfl
     have hst:=MP B C D E;have hgk:=(hnx.trans a).glob (by simp) gk
     gi_wp2
     refine⟨trivial,λ_=>by omega,(ce _ hgk hu).mono ?_⟩;rintro e W1 ⟨rfl,hg⟩;have o:=hJ _ _ W1 none f hg (λr e=>by cases e);rw[hz];have b:(Dy ws k++p.map λ(j:Nat)=>((k:Int) *64+(j:Int))).length< (Dy ws ws.length).length:=by
      rw[hrest,hsucc,hp,hst];simp only[iH,iL,gZ];omega
     have⟨fn,tmps,assign,body,hy,hR⟩:=hY _ ((k:Int) *64+(z:Int)) W1 o b
     gi_wp2
     refine⟨λ_=>by omega,hR.mono ?_⟩;rintro e W3 (⟨rfl,q,s⟩|⟨rfl,t⟩)
     ·gi_wp2
      have y:(u:Int) - 1=((u - 1:Nat):Int):=by omega
      have hle:u &&& (u - 1) ≤u - 1:=Nat.and_le_right;have A:J (Dy ws k++(p++ [z]).map λ(j:Nat)=>((k:Int) *64+(j:Int))) W3:=by
       rw[jD,←gT];exact q
      rw[y,XG hu (by omega)];exact⟨⟨_,p++ [z],rfl,by omega,by rw[hp,hst,gT];rfl,A,(a.trans (KpL.grown hg)).trans s⟩,by simp only[intOf];omega⟩
     ·gi_wp2
      refine bodyPost_ret (results_none rfl _ _ _) rfl ?_;refine⟨⟨_,rfl⟩,.inr ⟨_,?_,t⟩⟩;rw[hrest,hsucc,hp,hst,jD,mV];exact⟨((F8 (u &&& (u - 1))).map λ(j:Nat)=>((k:Int) *64+(j:Int))) ++rest,by simp⟩
  ·obtain rfl:k=ws.length:=by omega
   gi_wp2
   go_end0
   exact⟨⟨_,rfl⟩,.inl ⟨_,rfl,hJs⟩⟩
attribute [local go_sem] Oper.semAt_some
theorem KpL.of_below {L:List Nat}{n₀:Nat}(hL:∀b∈L,b<n₀) {A B:World}(h:Below n₀ A B):KpL L A B:=λb hb o ho=>(h.block b (hL b hb)).trans ho
theorem KpL.putObj {L:List Nat}{n₀:Nat}(hL:∀b∈L,b<n₀) (W:World) (l:Nat) (o o':Obj) (hl:n₀≤l) (h:W.heap[l]? =some o) (a:o.isCells=false) (c:o.isWalk=false):KpL L W (W.putObj l o'):=λb hb q hq=>by
 have:=hL b hb
 rw[World.putObj_heap_other (by omega)];exact hq
theorem Y4:(Tryz.prog.info? 3).map (λi=>(i.zero,i.size,i.bytes))=some (some (.int .i64 0),1,8):=by kernel_rfl
abbrev Y5 (x:Int):Array Value:=#[.int .i64 x]
set_option maxRecDepth 100000 in
theorem RL (n:Nat) (hn:3≤n) (g:Nat) (lb:Array Value) (eg:∀args w,(callFunc g args).run gP w= .ok (.enter g args) w) (L:List Nat) (xs:gM) (Sp:gM→Prop) (hlen:xs.length≤1000000) (w:World) (hL:∀b∈L,b<w.heap.size)
 (hseq:SeqStopsK Fence.wide (n - 1) gP g lb Y5 (KpL L) (λys=>ys=xs) Sp xs.length w):
 CallsIn Fence.wide n gP 102 #[.slice none 0 0,.func (.func g) #[] lb] w λe W'=>∃v,e= .returned v∧W'.ownsRow w.heap.size 3 1 v xs.length (xs.map (jC .i64))∧(v= .slice none 0 0↔xs= [])∧Below w.heap.size w W':=by
 have r:1≤n:=by omega
 have⟨s,hi,i,j,m⟩:=info_parts Y4;refine callsIn_of_wp_marks Tryz.func102 rfl trivial ?_ rfl;simp only[Tryz.ntmps102,iK,gZ,iC,Nat.reduceAdd,Nat.reduceSub,iP,iQ,jA,iV,jJ,iY]
 gi_wp2
 have bO:=Boxed.new w 30 (.slice none 0 0);have a:Below w.heap.size w (w.alloc (.cells #[.slice none 0 0] 30)):=(Below.refl _ w).alloc (iN _) _;refine wpIn_rangeFunc_ownG rfl r (gf:=g) (lb:=lb) rfl trivial eg hseq (λh k=>h.trans k) (KpL.putObj (λb hb=>by have:=hL b hb;simp;omega)) a (λ_=>rfl)
  (λpre W=>(∃v,Boxed W w.heap.size 30 v∧W.ownsRow w.heap.size 3 1 v pre.length (pre.map (jC .i64))∧(v= .slice none 0 0↔pre= []))∧Below w.heap.size w W)
  (λ_ _ _=>False)
  (OwnFrom.and (Own.from (holdsRow_own w.heap.size w.heap.size 30 3 1 (λpre=>pre.length) (λpre=>pre.map (jC .i64)) (λpre v=>v= .slice none 0 0↔pre= [])) _) (ownFrom_below (iN _) (by simp)))
  (λ_ _ _ _ _ hs _ _=>hs)
  ⟨⟨_,bO,World.ownsRow_nil _ _ _ _,by simp⟩,a⟩
  (λx=>{tmps:=#[.slice none 0 0,.func (.func g) #[] lb,.pointer (some ⟨w.heap.size,0,none⟩),undef,.slice none 0 0,.int .i64 x,.func (.func g) #[] lb,.int .i64 x,undef,undef,undef,undef,undef],defers:=[]}) ?assign ?body ?done ?stop
 case assign=>
  intro l x W K hK
  gi_wp2
  exact hK
 case body=>
  rintro l pre x W ⟨⟨v,hv,hrow,hnil⟩,hB⟩ hlt;have hc:=hv.cell
  gi_wp2_with (gi_at_builtin;refine wpListIn_append_own _ rfl _ _ 30 rfl w.heap.size 3 s (.int .i64 0) 1 8 nI hi i j m rfl (by decide) _ _ _ rfl (hrow.alloc _) ⟨W.heap.size,0,none⟩ 1 1 [.int .i64 x] rfl rfl (cell_one_new _ _ _) (by simp[Value.oneCell']) (by unfold maxLen;omega) (by omega) (by have:=hB.size;simp;omega) ?_;intro v' y hown' hgrow _;obtain⟨g',cap',rfl⟩:=ownsRow_succ hown';obtain⟨d,o,p,q,f⟩:=hv.appended (by decide) hrow hB.size (iN _) hown' hgrow;have t:=d.cell;have u:=d.frozen)
  exact⟨q.from _,KpL.of_below hL f,⟨_,o,by simpa using p,by simp⟩,hB.trans f⟩
 case done=>
  rintro D ys W hD rfl ⟨⟨v,hv,hrow,hnil⟩,hB⟩ hK;have hc:=hv.cell
  gi_wp2
  refine⟨by simp,.inl ⟨_,_,rfl,run_takeDeferred hK,?_⟩⟩;exact⟨_,results_tmp rfl _ _ _,v,rfl,ownsRow_putObj hrow _ hK rfl,hnil,hB.trans (belowK_b (w:=w) (iN _) W D _ _ (by simp at hD;omega) hK rfl rfl)⟩
 case stop=>
  rintro D c pre W _ _ h _;exact h.elim
theorem T1 (n:Nat) (hn:4≤n) (g:Nat) (lb:Array Value) (eg:∀args w,(callFunc g args).run gP w= .ok (.enter g args) w) (L:List Nat) (xs:gM) (Sp:gM→Prop) (hlen:xs.length≤1000000) (w:World) (hL:∀b∈L,b<w.heap.size)
 (hseq:SeqStopsK Fence.wide (n - 1 - 1) gP g lb Y5 (KpL L) (λys=>ys=xs) Sp xs.length w):
 CallsIn Fence.wide n gP 70 #[.func (.func g) #[] lb] w λe W'=>∃v,e= .returned v∧W'.ownsRow w.heap.size 3 1 v xs.length (xs.map (jC .i64))∧(v= .slice none 0 0↔xs= [])∧Below w.heap.size w W':=by
 refine callsIn_of_wp Tryz.func70 rfl trivial ?_ rfl;simp only[Tryz.ntmps70,iK,gZ,iC,Nat.reduceAdd,Nat.reduceSub,iP,iQ,jA,iV,jJ,iY]
 gi_wp2
 refine⟨trivial,λ_=>by omega,(RL (n - 1) (by omega) g lb eg L xs Sp hlen w hL hseq).mono ?_⟩;rintro e W' ⟨v,rfl,a,c,d⟩
 gi_wp2
 go_ret
 exact⟨v,rfl,a,c,d⟩
attribute [local go_sem] Oper.semAt_some
section
variable {φ:AD}{h:AE}{F:List Chk}
theorem St.ofOwns {α:Type}{φ:AD}{Γ:List Chk}{w W':World}{e:TypeId}{r:Ro α}{v:Value}{l:List α}{vs:List Value}(H:St φ Γ w.heap) (hB:Below w.heap.size w W') (ho:W'.ownsRow w.heap.size e 1 v l.length vs) (ha:r.All φ vs l) (hsz:r.sz=1):
 ∃t:Slc,v= .slice t.1 t.2.1 t.2.2∧St φ (⟨iM e r,[.slice t.1 t.2.1 t.2.2],l⟩::Γ) W'.heap:=by
 have hs:=H.sub;have hs':Sub φ (Bj W'.heap):=λk o hk=>by
  have j:=hs k o hk
  have:=Ay j
  show W'.heap[k]? =some o;rw[hB.block k this];exact j
 have H1:StX φ w.heap Γ λk=>w.heap.size≤k:=StX.more H λk hk=>.inl hk;have H2:StX φ W'.heap Γ λk=>w.heap.size≤k:=StX.heap H1 (λk hk _=>hB.block k hk) hs';obtain⟨hl,⟨rfl,hn⟩|⟨g,cap,cur,rfl,hg,hcur,a,c,d,h⟩⟩:=ho
 ·have:l= []:=jZ hn
  subst this;exact⟨(none,0,0),rfl,oJ _ _ (H2.less λk hk=>hk.elim)⟩
 ·refine⟨(some ⟨g,0,none⟩,l.length,cap),rfl,λk=>k=g,⟨some ⟨g,0,none⟩,l.length,cap,vs,rfl,rfl,c,?_,.inr ⟨g,0,cur,rfl,hcur,?_,a,?_,λi u hu=> ?_⟩,ha,λi=>by simp[blk]⟩,λk hk=>⟨?_,λq=>q⟩,H2.less λk hk=> ?_⟩
  ·intro b off s q;cases q;exact⟨rfl,λarr ty f harr=>by rw[hcur]at harr;cases harr;rw[hsz];exact d⟩
  ·rw[hsz];omega
  ·rw[hsz];omega
  ·rw[←h,kF]at hu;split at hu
   ·rw[Nat.zero_add];simpa using hu
   ·cases hu
  ·subst hk;cases hφ:φ k with
   |none=>rfl
   |some o=>have:=Ay (hs k o hφ);omega
  ·rcases hk with hk | hk
   ·exact hk.elim
   ·subst hk;exact hg
theorem RM (n:Nat) (l bx:Nat) (p:gL) (cap:Nat) (J:gM→World→Prop) (W:World) (hbx:W.cell? ⟨bx,0,none⟩=some (.slice p 0 cap)) (a:J [] W):
 CallsIn Fence.wide n gP 104 #[.func (.yield l) #[] #[],.pointer (fH bx)] W λe W'=>(∃v,e= .returned v)∧J [] W':=by
 refine callsIn_of_wp mB rfl trivial ?_ rfl;simp only[Tryz.ntmps104,iK,gZ,iC,Nat.reduceAdd,Nat.reduceSub,iP,iQ,jA,iV,jJ,iY]
 gi_wp2
 gi_loopw [7] (λi wr=>i= .int .i64 0∧J [] wr) (λ_ _=>0)
 case atStart=>exact⟨rfl,a⟩
 case round=>
  obtain⟨rfl,hJs⟩:=hrel
  gi_wp2
  go_end0
  exact⟨⟨_,rfl⟩,hJs⟩
theorem O7 (n:Nat) (hn:3≤n) {w:World}{bx:Nat}{t:Slc}{l:gM}(gk:Glob (Bj w.heap)) (hws:∀x∈l,0≤x∧x<18446744073709551616) (hlen:l.length≤1000)
 (hbx:w.cell? ⟨bx,0,none⟩=some (.slice t.1 t.2.1 t.2.2)) (hl:l.length=t.2.1) (hc:CX w.heap t.1 (l.map (mK .u64).val)) (hpl:∀a,t.1=some a→a.spot=none) (hlt:bx<w.heap.size) (f:0<w.heap.size):
 ∃L:List Nat,(∀b∈L,b<w.heap.size∧(b=bx∨b=0∨ ∃a,t.1=some a∧b=a.block))∧SeqStopsK Fence.wide n gP 104 #[.pointer (fH bx)] Y5 (KpL L) (λys=>ys=Dy (l.map gX) l.length) (λpre=>pre<+:Dy (l.map gX) l.length) (Dy (l.map gX) l.length).length w:=by
 cases l with
 |nil=>
  refine⟨[],(λb hb=>by cases hb),λq J Jx W hW hJ hJx hY g=> ?_⟩;have d:=(hW.cell (p:=⟨bx,0,none⟩) hlt).trans hbx;have hz:t.2.1=0:=hl.symm;rw[hz]at d;exact(RM n q bx t.1 t.2.2 J W d g).mono λe W' ⟨he,hj⟩=>⟨he,.inl ⟨[],rfl,hj⟩⟩
 |cons x l=>
  obtain⟨⟨ba,off,sp⟩,ha,_⟩:=hc 0 ((mK .u64).val x) rfl
  have:sp=none:=hpl _ ha
  subst this;have hcell:∀j v,(((x::l).map (mK .u64).val))[j]? =some v→w.cell? ⟨ba,off+j,none⟩=some v:=λj v hv=>by
   obtain⟨a',ha',hc'⟩:=hc j v hv;rw[ha]at ha';cases ha';rw[Dt]at hc';exact hc'
  have hba:ba<w.heap.size:=by
   have:=hcell 0 _ rfl
   unfold mJ at this;dsimp only at this;cases ho:w.heap[ba]? with
   |none=>rw[ho]at this;cases this
   |some o=>exact Ay ho
  refine⟨[bx,ba,0],λb hb=> ?_,λq J Jx W hW hJ hJx hY g=> ?_⟩
  ·simp only[kV,nX,or_false]at hb;rcases hb with rfl | rfl | rfl
   ·exact⟨hlt,.inl rfl⟩
   ·exact⟨hba,.inr (.inr ⟨_,ha,rfl⟩)⟩
   ·exact⟨f,.inr (.inl rfl)⟩
  ·have d:=(hW.cell (p:=⟨bx,0,none⟩) hlt).trans hbx;have hn':((x::l).map gX).length=t.2.1:=by rw[iL];exact hl
   have c:((x::l).map gX).length=(x::l).length:=iL _;have h:=XI n hn q bx ba off t.2.2 ((x::l).map gX) (λu hu=>by
    obtain⟨y,hy,rfl⟩:=kG.1 hu
    have:=hws y hy
    omega) (by rw[c];exact hlen) J Jx W (KpL.glob (L:=[0]) (KpL.of_below (λb hb=>by simp at hb;omega) hW) (by simp) gk) hJ (by rw[c];exact hY) (by rw[hn',←ha];exact d) (λj hj=>by
    rw[c]at hj;have hv:((x::l).map (mK .u64).val)[j]? =some (.int .u64 (x::l)[j]):=by
     rw[lU,gO hj];rfl
    have i:=(hW.cell (p:=⟨ba,off+j,none⟩) hba).trans (hcell j _ hv);have m:=hws _ (hZ hj);have k:((((x::l).map gX)[j]?.getD 0:Nat):Int)=(x::l)[j]:=by
     rw[lU,gO hj];show(((x::l)[j].toNat:Nat):Int)=_;omega
    rw[k];exact i) g
   rw[c]at h;exact h
def JM (s:Ad):Option gM:=if s.2.length≤1000∧ ∀x∈s.2,0≤x∧x<18446744073709551616 then some (Dy (s.2.map gX) s.2.length) else none
theorem Vn (w:Nat):(F8 w).length≤64:=by
 unfold F8
 have:=jF w.testBit (mA 64)
 simpa using this
theorem QS (ws:List Nat) (k:Nat):(Dy ws k).length≤64 *k:=by
 induction k with
 |zero=>exact iN _
 |succ k ih=>
  rw[Gn,iH,iL]
  have:=Vn (ws[k]?.getD 0)
  omega
abbrev Bd (p:gL) (x:Ad):Chk:=⟨Rep.obj 199 (Rep.prod (jL (hQ .i64)) (iM 197 (hQ .u64))),[.pointer p],x⟩
theorem ST {p:gL}{s:Ad}(A:St φ (Bd p s::F) h) (hb:s.2.length≤1073741824):CallsH gP 71 [.pointer p] h
 (Ap λv h'=>∃ψ:AD,∃r:Nat,∃y:Slc,Sub φ ψ∧v= .func (.func 104) #[] #[.pointer (fH r)] ∧St ψ (⟨iG 195,[.pointer (fH r)],[.slice y.1 y.2.1 y.2.2]⟩::⟨iM 197 (hQ .u64),[.slice y.1 y.2.1 y.2.2],s.2⟩::Bd p s::F) h'):=by
 refine Av mixed Tryz.func71 ?_;rw[LL];unfold HI;obtain⟨e,B,w,C,D⟩:=A.open;obtain rfl:p=some ⟨e,0,none⟩:=by simpa using w
 clear w;have E:=D.at1;obtain⟨H,I,rfl,z,f⟩:=E.pair;obtain⟨g,c⟩:=f.ro;subst g;obtain⟨a,i⟩:=c.rowCs;subst i;have d:St φ (⟨iM 197 (hQ .u64),[.slice a.1 a.2.1 a.2.2],s.2⟩::⟨iG 199,[.pointer (fH e)],[.int .i64 s.1,.slice a.1 a.2.1 a.2.2]⟩::F) _:=c;refine AF _ rfl<|AA (b:=e) (j:=1) (x:=a) d.at1 rfl<|AK (clone53_own d (r:=s.2) (by unfold cloneD;rw[gF hb])) ?_;rintro _ J ⟨ψ,y,K,k,rfl,rfl,l⟩;refine⟨y,rfl,?_⟩;refine AV (vs:=[.slice none 0 0]) l ?_;intro r L m;refine Cf (b:=r) (j:=0) (v:=.slice y.1 y.2.1 y.2.2) m rfl (by decide) ?_;intro G n;have o:=n.at 2;have q:=St.unro (r:=(hQ .i64)) (cs:=[.int .i64 s.1]) (x:=s.1) o rfl;have t:=St.unpair q;have u:St ψ (Bd (fH e) (s.1,s.2)::⟨iG 195,[.pointer (fH r)],[.slice y.1 y.2.1 y.2.2]⟩::⟨iM 197 (hQ .u64),[.slice y.1 y.2.1 y.2.2],s.2⟩::F) G:=St.shut (t.at 3);exact AC ⟨ψ,r,y,k,rfl,(u.at 2).at 2⟩
theorem SU {k:IntKind}{ty:TypeId}{t:Slc}{l:gM}(s:St φ (⟨iM ty (hQ k),[.slice t.1 t.2.1 t.2.2],l⟩::F) h):∀a,t.1=some a→a.spot=none:=by
 intro a ha;obtain⟨F,⟨p,n,c,vs,e,hn,hc,hfu,ho,hall,hF⟩,d,H⟩:=s;simp only[List.cons.injEq,Value.slice.injEq,and_true]at e;rw[ha]at e;rcases ho with⟨hp,_⟩|⟨b,off,arr,hp,_⟩
 ·rw[hp]at e;cases e.1
 ·rw[hp]at e;cases e.1;rfl
theorem XJ {p:gL}{s:Ad}(gk:Glob φ) (m:St φ (Bd p s::F) h) {r:gM}(hd:JM s=some r):CallsH gP 39 [.pointer p] h
 (Ap λv h'=>∃ψ:AD,∃y:Slc,∃l:gM,Sub φ ψ∧v=fP.val y∧l=r∧St ψ (⟨iM 3 (hQ .i64),[.slice y.1 y.2.1 y.2.2],l⟩::Bd p s::F) h'):=by
 unfold JM at hd;split at hd
 ·rename_i hg
  cases hd;obtain⟨hlen,hws⟩:=hg;refine Av mixed Tryz.func39 ?_;rw[LK];unfold HH;refine AK (ST m (by omega)) ?_;rintro _ c ⟨ψ,bx,y,d,rfl,a⟩;refine⟨some (.func 104,#[],#[.pointer (fH bx)]),rfl,?_⟩;have g:=(gk.mono d).mono a.sub;have hbox:BW c ⟨bx,0,none⟩=some (.slice y.1 y.2.1 y.2.2):=a.cell rfl;have hlt:bx<c.size:=by
   unfold BW EX mJ at hbox;dsimp only at hbox;cases ho:c[bx]? with
   |none=>rw[ho]at hbox;cases hbox
   |some o=>exact Ay ho
  have i:0<c.size:=by
   obtain⟨t,f,hg⟩:=g;exact Ay hg
  have hcol:CallsH gP 70 [.func (.func 104) #[] #[.pointer (fH bx)]] c (Ap λv h'=>∃t:Slc,v=fP.val t∧
   St ψ (⟨iM 3 (hQ .i64),[.slice t.1 t.2.1 t.2.2],Dy (s.2.map gX) s.2.length⟩::⟨iG 195,[.pointer (fH bx)],[.slice y.1 y.2.1 y.2.2]⟩::⟨iM 197 (hQ .u64),[.slice y.1 y.2.1 y.2.2],s.2⟩::Bd p s::F) h'):=by
   intro w hw;subst hw;obtain⟨L,hL,hseq⟩:=O7 8 (by decide) g hws hlen hbox (a.at 1).rowLen.symm (Nd (a.at 1)) (SU (a.at 1)) hlt i;have hbl:=QS (s.2.map gX) s.2.length;have hc:=callsIn_wide.1 (T1 10 (by decide) 104 #[.pointer (fH bx)] (enters_of mB (by kernel_rfl) rfl) L (Dy (s.2.map gX) s.2.length) _ (by omega) w (λb hb=>(hL b hb).1) hseq);refine hc.mono ?_;rintro e W' ⟨v,rfl,hown,_,hB⟩;have⟨t,hv,j⟩:=St.ofOwns a hB hown (FP (k:=.i64) _) rfl;exact⟨⟨hB.os,hB.tape,hB.output,hB.size⟩,v,rfl,t,hv,j⟩
  refine AK hcol ?_;rintro _ u ⟨t,rfl,j⟩;refine⟨t,rfl,?_⟩;have n:=(j.at 1).tail;have q:=(n.at 1).tail;exact AC ⟨ψ,t,_,d,rfl,rfl,q⟩
 ·cases hd
end
end Go.Proofs.YtkfgeafgfeppfaaGreatDoor.Dg
namespace Go.Proofs.YtkfgeafgfeppfaaGreatDoor.Dg
open Go Go.Eng
def RN (c:Chk):Prop:=(∀φ φ' h F,c.on φ h F→c.on φ' h F)∧ ∀φ h F,c.on φ h F→ ∀k,F k→ ∃cs ty f,h[k]? =some (.cells cs ty f)
theorem SV (ty:TypeId) (b:Nat) (vs:List Value):RN ⟨iG ty,[.pointer (fH b)],vs⟩:=by
 refine⟨λφ φ' h F H=>H,λφ h F H k hk=> ?_⟩;obtain⟨b',e,hb,hF⟩:=H;have hkb:=(hF k).1 hk;subst hkb;exact⟨_,_,_,hb⟩
theorem Y6 {k:IntKind}{φ φ':AD}{vs:List Value}{l:gM}(h:(hQ k).All φ vs l):(hQ k).All φ' vs l:=by
 rw[DZ h];exact FP l
theorem Vo (p:gL) (s:Ad):RN (Bd p s):=by
 constructor
 ·rintro φ φ' h F ⟨b,vs,G,e,hb,⟨a,c,A,B,i,ha,hc,j,d⟩,hG,hF⟩;refine⟨b,vs,G,e,hb,⟨a,c,A,B,i,ha,?_,j,d⟩,hG,hF⟩;obtain⟨q,n,cp,us,l,m,o,r,f,t,g⟩:=hc;exact⟨q,n,cp,us,l,m,o,r,f,Y6 t,g⟩
 ·rintro φ h F ⟨b,vs,G,e,hb,⟨a,c,A,B,i,ha,hc,j,d⟩,hG,hF⟩ k hk;rcases(hF k).1 hk with rfl | hk
  ·exact⟨_,_,_,hb⟩
  ·rcases(d k).1 hk with hk | hk
   ·exact gI hk (ha.1 k)
   ·obtain⟨q,n,cp,us,l,m,o,r,f,t,g⟩:=hc;have⟨arr,harr⟩:=f.ty k ((g k).1 hk);exact⟨_,_,_,harr⟩
theorem StX.frame {ψ:AD}{h:AE}:∀ {Γ Δ:List Chk}{X:FU},StX ψ h (Γ++Δ) X→ ∃Y:FU,(∀k,Y k→ψ k=none∧ ¬X k∧k<h.size)∧StX ψ h Δ (λk=>X k∨Y k)∧
 ∀Δ' (h':AE),Sub ψ (Bj h')→(∀k,Y k→h'[k]? =h[k]?)→StX ψ h' Δ' (λk=>X k∨Y k)→StX ψ h' (Γ++Δ') X:=by
 intro Γ
 induction Γ with
 |nil=>intro Δ X H;exact⟨λ_=>False,λk hk=>hk.elim,H.less λk hk=>hk.elim id False.elim,λΔ' h' _ _ H'=>H'.less λk hk=>.inl hk⟩
 |cons c Γ ih=>
  intro Δ X ⟨F,d,a,H⟩;obtain⟨Y,b,e,f⟩:=ih H;refine⟨λk=>F k∨Y k,λk hk=> ?_,e.less λk hk=> ?_,λΔ' h' hs hy H'=>⟨F,c.R.loc (λi hi=>hy i (.inl hi)) d,a,f Δ' h' hs (λk hk=>hy k (.inr hk)) (H'.less λk hk=> ?_)⟩⟩
  ·rcases hk with hk | hk
   ·exact⟨(a k hk).1,(a k hk).2,c.R.lt d k hk⟩
   ·exact⟨(b k hk).1,λg=>(b k hk).2.1 (.inl g),(b k hk).2.2⟩
  ·rcases hk with hk | hk | hk
   ·exact .inl (.inl hk)
   ·exact .inl (.inr hk)
   ·exact .inr hk
  ·rcases hk with(hk | hk)|hk
   ·exact .inl hk
   ·exact .inr (.inl hk)
   ·exact .inr (.inr hk)
theorem StX.alone {ψ:AD}{h:AE}:∀ {Δ:List Chk}{X:FU},(∀c∈Δ,RN c)→StX ψ h Δ X→ ∃Z:FU,(∀k,Z k→ψ k=none∧ ¬X k)∧(∀k,Z k→ ∃cs ty f,h[k]? =some (.cells cs ty f))∧ ∀(φ0:AD) (X0:FU),(∀k,Z k→φ0 k=none∧ ¬X0 k)→Sub φ0 (Bj h)→StX φ0 h Δ X0:=by
 intro Δ
 induction Δ with
 |nil=>intro X _ H;exact⟨λ_=>False,λk hk=>hk.elim,λk hk=>hk.elim,λφ0 X0 _ hs=>hs⟩
 |cons c Δ ih=>
  intro X hf ⟨F,b,d,H⟩;obtain⟨Z,a,e,i⟩:=ih (λc hc=>hf c (by simp[hc])) H;refine⟨λk=>F k∨Z k,λk hk=> ?_,λk hk=>hk.elim (λg=>(hf c (by simp)).2 _ _ _ b k g) (e k),λφ0 X0 hz hs=>⟨F,(hf c (by simp)).1 _ _ _ _ b,λk hk=>hz k (.inl hk),i φ0 _ (λk hk=>⟨(hz k (.inr hk)).1,λg=> ?_⟩) hs⟩⟩
  ·rcases hk with hk | hk
   ·exact d k hk
   ·exact⟨(a k hk).1,λg=>(a k hk).2 (.inl g)⟩
  ·rcases g with g | g
   ·exact(hz k (.inr hk)).2 g
   ·exact(a k hk).2 (.inr g)
theorem St.apart {ψ:AD}{h:AE}{Γ Δ:List Chk}(H:St ψ (Γ++Δ) h) (hf:∀c∈Δ,RN c):∃φ0:AD,(∀k,φ0 k≠none→k<h.size)∧St φ0 Δ h∧Sub ψ φ0∧(∀k o,h[k]? =some o→φ0 k=some o∨ ∃cs ty f,o= .cells cs ty f)∧
 ∀Δ' (h':AE),(∀c∈Δ',RN c)→St φ0 Δ' h'→St ψ (Γ++Δ') h':=by
 classical
 have hs:Sub ψ (Bj h):=H.sub;have⟨Y,d,i,j⟩:=StX.frame H;have⟨Z,a,l,m⟩:=StX.alone hf i;have hdef:∀k,¬Z k→(λk=>if Z k then none else h[k]? :AD) k=h[k]? :=λk hk=>gG hk;refine⟨λk=>if Z k then none else h[k]?,λk hk=> ?_,m _ _ (λk hk=>⟨gF hk,λg=>g⟩) (λk o ho=> ?_),λk o ho=> ?_,λk o ho=> ?_,λΔ' h' hf' H'=> ?_⟩
 ·rcases jK k h.size with g | g
  ·exact g
  ·exfalso;apply hk
   show(if Z k then none else h[k]?)=none;split
   ·rfl
   ·exact kY g
 ·have ho:(if Z k then none else h[k]?)=some o:=ho;split at ho
  ·cases ho
  ·exact ho
 ·show(if Z k then none else h[k]?)=some o;rw[gG]
  ·exact hs k o ho
  ·intro hz;rw[(a k hz).1]at ho;cases ho
 ·by_cases hz:Z k
  ·have⟨cs,ty,f,e⟩:=l k hz;rw[ho]at e;exact .inr ⟨cs,ty,f,Option.some.inj e⟩
  ·exact .inl (by show(if Z k then none else h[k]?)=some o;rw[gG hz];exact ho)
 ·obtain⟨Z',n,_,p⟩:=StX.alone hf' H';have hs':=H'.sub;have hno:∀k,Z' k→ψ k=none∧ ¬Y k:=λk hk=>by
   have b:(if Z k then none else h[k]?)=none:=(n k hk).1;split at b
   ·rename_i hz
    exact⟨(a k hz).1,λg=>(a k hz).2 (.inr g)⟩
   ·constructor
    ·cases hψ:ψ k with
     |none=>rfl
     |some o=>have:=hs k o hψ;rw[show Bj h k=h[k]? from rfl,b]at this;cases this
    ·intro g
     have:=(d k g).2.2
     rw[iE this]at b;cases b
  have hsψ:Sub ψ (Bj h'):=λk o ho=>hs' k o (by
   show(if Z k then none else h[k]?)=some o;rw[gG]
   ·exact hs k o ho
   ·intro hz;rw[(a k hz).1]at ho;cases ho)
  refine j Δ' h' hsψ (λk hk=> ?_) (p ψ _ (λk hk=>⟨(hno k hk).1,λg=>g.elim id (hno k hk).2⟩) hsψ);have hlt:=(d k hk).2.2
  have:(if Z k then none else h[k]?)=some h[k]:=by
   rw[gG]
   ·exact iE hlt
   ·intro hz;exact(a k hz).2 (.inr hk)
  rw[show h'[k]? =some h[k] from hs' k _ this,iE hlt]
theorem St.abide {φ0:AD}{h h':AE}:∀ {Δ:List Chk}{X:FU},(∀c∈Δ,RN c)→StX φ0 h Δ X→(∀k,k<h.size→(∃cs ty f,h[k]? =some (.cells cs ty f))→h'[k]? =h[k]?)→Sub φ0 (Bj h')→StX φ0 h' Δ X:=by
 intro Δ
 induction Δ with
 |nil=>intro X _ _ _ hs;exact hs
 |cons c Δ ih=>
  intro X hf ⟨F,a,b,H⟩ hk hs;exact⟨F,c.R.loc (λi hi=>hk i (c.R.lt a i hi) ((hf c (by simp)).2 _ _ _ a i hi)) a,b,ih (λc hc=>hf c (by simp[hc])) H hk hs⟩
theorem St.back {φ ψ:AD}{h:AE}{Δ:List Chk}(hf:∀c∈Δ,RN c) (le:Sub φ ψ) (H:St ψ Δ h):St φ Δ h:=by
 have⟨Z,a,_,b⟩:=StX.alone hf H;have hn:∀k,Z k→φ k=none:=λk hk=>by
  cases hφ:φ k with
  |none=>rfl
  |some o=>have:=le k o hφ;rw[(a k hk).1]at this;cases this
 exact b φ _ (λk hk=>⟨hn k hk,λg=>g⟩) λk o ho=>H.sub k o (le k o ho)
theorem St.hide {φ:AD}{h:AE}{c:Chk}{Γ:List Chk}(H:St φ (c::Γ) h):∃(ψ:AD) (F:FU),Sub φ ψ∧c.on φ h F∧(∀k,F k→ψ k=h[k]?)∧St ψ Γ h:=by
 classical
 obtain⟨F,a,b,H⟩:=H;have hs:=H.sub;have le:Sub φ (λi=>if F i then h[i]? else φ i):=λi o ho=>by
  show(if F i then h[i]? else φ i)=some o;rw[gG]
  ·exact ho
  ·intro hF;have e:=(b i hF).1;rw[e]at ho;cases ho
 refine⟨λi=>if F i then h[i]? else φ i,F,le,a,λi hi=>gF hi,?_⟩;refine StX.less (StX.grow H le (λi o ho=> ?_) λk hk hn=> ?_) λk hk=>hk.elim
 ·split at ho
  ·exact ho
  ·exact hs i o ho
 ·split at hk
  ·exact .inr (by assumption)
  ·exact gI hn hk
theorem bB {φ:AD}{h:AE}{p:gL}{s:Ad}{F:List Chk}(H:St φ (Bd p s::F) h):∃b,p=some ⟨b,0,none⟩∧BW h ⟨b,0,none⟩=some (.int .i64 s.1):=by
 have⟨b,vs,e,hl,a⟩:=St.open H;obtain⟨c,d,rfl,hc,f⟩:=St.pair (a.at1);have⟨hr,_⟩:=St.ro f;cases hr;refine⟨b,by cases e;rfl,a.cell rfl⟩
end Go.Proofs.YtkfgeafgfeppfaaGreatDoor.Dg
namespace Go.Proofs.YtkfgeafgfeppfaaGreatDoor.Dg
open Go Go.Eng Go.RowKit Go.Shelf
attribute [local go_sem] Oper.semAt_some
noncomputable def H5 (a:Ad×Bool) (i:Int):Ad×Bool:=if a.2 then a else if a.1.1≤i then(a.1,true) else(((Aq a.1 i).getD (false,a.1)).2,false)
noncomputable def cf (s:Ad) (l:gM):Ad×Bool:=l.foldl H5 (s,false)
def Dz (s:Ad):gM:=Dy (s.2.map gX) s.2.length
noncomputable def BL (s o:Ad):Ad:=(cf s (Dz o)).1
noncomputable def stepG (a:Ad×Bool×Bool) (i:Int):Ad×Bool×Bool:=if a.2.1 then a else if a.1.1≤i then(a.1,true,a.2.2) else(((Aq a.1 i).getD (false,a.1)).2,false,((Aq a.1 i).getD (false,a.1)).1 || a.2.2)
noncomputable def Jd (s:Ad) (l:gM):Ad×Bool×Bool:=l.foldl stepG (s,false,false)
noncomputable def FQ (s o:Ad):Bool:=(Jd s (Dz o)).2.2
theorem QU (s:Ad) (l:gM) (i:Int):Jd s (l++ [i])=stepG (Jd s l) i:=by simp[Jd]
theorem Y7 (l:gM):∀(a:Ad×Bool×Bool),((l.foldl stepG a).1,(l.foldl stepG a).2.1)=l.foldl H5 (a.1,a.2.1):=by
 induction l with
 |nil=>intro a;rfl
 |cons i l ih=>
  intro a;rw[jT,jT,ih];congr 1;unfold stepG H5;dsimp only;by_cases h:a.2.1=true
  ·rw[gF h,gF h]
  ·rw[gG h,gG h];by_cases b:a.1.1≤i
   ·rw[gF b,gF b]
   ·rw[gG b,gG b]
theorem bE (s:Ad) (l:gM):((Jd s l).1,(Jd s l).2.1)=cf s l:=Y7 l (s,false,false)
theorem XK (l:gM) {a:Ad×Bool×Bool}(h:a.2.1=true):l.foldl stepG a=a:=by
 induction l with
 |nil=>rfl
 |cons i l ih=>
  rw[jT]
  have:stepG a i=a:=gF h
  rw[this,ih]
theorem bF {s:Ad}{l pre:gM}(hp:pre<+:l) (h:(Jd s pre).2.1=true):Jd s l=Jd s pre:=by
 obtain⟨r,rfl⟩:=hp;unfold Jd at h ⊢;rw[kZ,XK r h]
theorem XL (s o:Ad):(Jd s (Dz o)).1=BL s o:=(Prod.mk.inj (bE s (Dz o))).1
theorem bG (l:gM) {a:Ad×Bool}(h:a.2=true):l.foldl H5 a=a:=by
 induction l with
 |nil=>rfl
 |cons i l ih=>
  rw[jT]
  have:H5 a i=a:=gF h
  rw[this,ih]
abbrev HO (bs bg:Nat) (p:gL) (g:Bool) (s:Ad):List Chk:=[⟨iG 111,[.pointer (fH bs)],[.pointer p]⟩,⟨iG 4,[.pointer (fH bg)],[.bool g]⟩,Bd p s]
theorem Dd (bs bg:Nat) (p:gL) (g:Bool) (s:Ad):∀c∈HO bs bg p g s,RN c:=by
 intro c hc;simp only[kV,nX,or_false]at hc;rcases hc with rfl | rfl | rfl
 ·exact SV _ _ _
 ·exact SV _ _ _
 ·exact Vo _ _
theorem Kw {φ0:AD}{B:Nat}{W W':World}{row:Option Nat}{Δ:List Chk}(hB:∀k,φ0 k≠none→k<B) (hf:∀c∈Δ,RN c) (H:St φ0 Δ W.heap) (hg:W.grownBy W' row) (hr:∀r,row=some r→B≤r∧ ∃o:Obj,W.heap[r]? =some o∧o.isCells=false):St φ0 Δ W'.heap:=by
 obtain⟨_,_,_,hsz,hk⟩:=hg;refine St.abide hf H (λk hk' ⟨cs,ty,f,hc⟩=>hk k hk' λe=> ?_) λk o ho=> ?_
 ·have⟨_,o,a,b⟩:=hr k e.symm;rw[hc]at a;cases a;cases b
 ·have a:=H.sub k o ho
  have:=Ay a
  show W'.heap[k]? =some o;rw[hk k this λe=>by have:=hB k (by rw[ho];simp);have:=(hr k e.symm).1;omega];exact a
theorem bH {φ0:AD}{bs bg:Nat}{p:gL}{g:Bool}{s:Ad}{x:Int}{W:World}(H:OkS s) (b:St φ0 (HO bs bg p g s) W.heap):
 Calls gP 88 #[.pointer p,.int .i64 x] W λe W'=>B8 W W'∧W.heap.size≤W'.heap.size∧(∀(k:Nat) (o:Obj),W.heap[k]? =some o→o.isCells=false→W'.heap[k]? =some o)∧
  ∃y:Bool,e= .returned (.bool y)∧y=((Aq s x).getD (false,s)).1∧St φ0 (HO bs bg p g ((Aq s x).getD (false,s)).2) W'.heap∧OkS ((Aq s x).getD (false,s)).2∧((Aq s x).getD (false,s)).2.1=s.1:=by
 obtain⟨s',hd,d,h,_⟩:=add_ok H x;rw[hd];have⟨q,_,i,r,j,m⟩:=St.apart (Γ:=[]) b (Dd bs bg p g s);have hc:=CV (i.at 2) hd W rfl;refine(show Calls gP 88 #[.pointer p,.int .i64 x] W _ from hc).mono ?_;rintro e W' ⟨hs,he⟩;cases e with
 |returned v=>
  obtain⟨v',hv,ψ,y,l,le,rfl,hr,a⟩:=he;cases hv;obtain⟨rfl,rfl⟩:=Prod.mk.inj hr;refine⟨hs,hs.size,λk o hk ho=> ?_,_,rfl,rfl,?_,d,h⟩
  ·rcases j k o hk with g | ⟨cs,ty,f,rfl⟩
   ·exact a.sub k o (le k o g)
   ·cases ho
  ·have n:St ψ (HO bs bg p g l) W'.heap:=(a.at 2).at 2;exact m _ _ (Dd _ _ _ _ _) (St.back (Dd _ _ _ _ _) le n)
 |panicked c=>obtain⟨v',hv,_⟩:=he;cases hv
 |outgrown=>exact he.elim
theorem Y8 {φ:AD}{W:World}{F:List Chk}{q:gL}{o:Ad}(a:St φ (Bd q o::F) W.heap) (hb:o.2.length≤1073741824):
 Calls gP 71 #[.pointer q] W λe W'=>B8 W W'∧ ∃(ψ:AD) (r:Nat) (y:Slc),Sub φ ψ∧e= .returned (.func (.func 104) #[] #[.pointer (fH r)])∧
  St ψ (⟨iG 195,[.pointer (fH r)],[.slice y.1 y.2.1 y.2.2]⟩::⟨iM 197 (hQ .u64),[.slice y.1 y.2.1 y.2.2],o.2⟩::Bd q o::F) W'.heap:=by
 refine(show Calls gP 71 #[.pointer q] W _ from ST a hb W rfl).mono ?_;rintro e W' ⟨hs,he⟩;cases e with
 |returned v=>
  obtain⟨v',hv,ψ,r,y,b,d,f⟩:=he;cases hv;exact⟨hs,ψ,r,y,b,by rw[d],f⟩
 |panicked c=>obtain⟨v',hv,_⟩:=he;cases hv
 |outgrown=>exact he.elim
theorem OD {h:AE}{b:Nat}{j:Nat}{v:Value}(hc:BW h ⟨b,j,none⟩=some v):b<h.size:=by
 unfold BW EX mJ at hc;dsimp only at hc;cases ho:h[b]? with
 |none=>rw[ho]at hc;cases hc
 |some o=>exact Ay ho
theorem ready (n:Nat) (hn:3≤n) {ψ:AD}{W:World}{bx bs bg:Nat}{y:Slc}{p q:gL}{s o:Ad}{G G':List Chk}(gk:Glob ψ) (ho:OkS o) (hp:(Bd p s::G).Perm (Bd q o::G'))
 (d:St ψ (⟨iG 195,[.pointer (fH bx)],[.slice y.1 y.2.1 y.2.2]⟩::⟨iM 197 (hQ .u64),[.slice y.1 y.2.1 y.2.2],o.2⟩::Bd q o::⟨iG 111,[.pointer (fH bs)],[.pointer p]⟩::⟨iG 4,[.pointer (fH bg)],[.bool false]⟩::G') W.heap):
 ∃(m φ0:AD) (L:List Nat),Sub ψ m∧(∀k,φ0 k≠none→k<W.heap.size)∧(∀b∈L,φ0 b≠none)∧St φ0 (HO bs bg p false s) W.heap∧
  SeqStopsK Fence.wide n gP 104 #[.pointer (fH bx)] Y5 (KpL L) (λys=>ys=Dz o) (λpre=>pre<+:Dz o) (Dz o).length W∧
  ∀s' g (h':AE),St φ0 (HO bs bg p g s') h'→St m (Bd p s'::G) h':=by
 have e:=gk.mono d.sub;have hbox:BW W.heap ⟨bx,0,none⟩=some (.slice y.1 y.2.1 y.2.2):=d.cell rfl;have i:0<W.heap.size:=by
  obtain⟨t,f,hg⟩:=e;exact Ay hg
 have B:=ho.len;have C:=ho.hi;obtain⟨L,hL,hseq⟩:=O7 n hn e ho.word (by omega) hbox (d.at 1).rowLen.symm (Nd (d.at 1)) (SU (d.at 1)) (OD hbox) i;obtain⟨ψa,F1,h,⟨D,u,j,l⟩,v,w⟩:=St.hide d;cases u;have⟨ψb,F2,c,hrow,x,z⟩:=St.hide w;have hpm:(Bd q o::⟨iG 111,[.pointer (fH bs)],[.pointer p]⟩::⟨iG 4,[.pointer (fH bg)],[.bool false]⟩::G').Perm (G++HO bs bg p false s):=by
  refine(BF 1 _).trans<|(hO _ (BF 1 _)).trans<|(hO _ (hO _ hp.symm)).trans (iA (l₁:=HO bs bg p false s) (l₂:=G))
 have⟨φ0,d1,d2,d3,d4,d5⟩:=St.apart (z.perm hpm) (Dd bs bg p false s);refine⟨ψb,φ0,L,h.trans c,d1,λb hb=> ?_,d2,hseq,λs' g h' H=> ?_⟩
 ·have key:∃ob,ψb b=some ob:=by
   rcases(hL b hb).2 with rfl | rfl | ⟨a,ha,rfl⟩
   ·exact⟨_,c _ _ ((v b ((l b).2 rfl)).trans j)⟩
   ·obtain⟨t,f,hg⟩:=gk;exact⟨_,c _ _ (h _ _ hg)⟩
   ·obtain⟨p',n',c',vs,r,E,F,I,J,K,A⟩:=hrow;simp only[List.cons.injEq,Value.slice.injEq,and_true]at r;have hlt:=(hL _ hb).1;refine⟨_,(x a.block ((A _).2 ?_)).trans (iE hlt)⟩;rw[←r.1,ha];simp[blk]
  obtain⟨ob,hob⟩:=key;rw[d3 _ _ hob];simp
 ·have H2:=d5 _ _ (Dd bs bg p g s') H;have H3:St ψb (HO bs bg p g s'++G) h':=H2.perm iA;exact H3.tail.tail
theorem cg {φ0:AD}{L:List Nat}{A B:World}(hL:∀b∈L,φ0 b≠none) (ha:Sub φ0 (Bj A.heap)) (hb:Sub φ0 (Bj B.heap)):KpL L A B:=λb hb' o ho=>by
 cases hφ:φ0 b with
 |none=>exact gI hφ (hL b hb')
 |some o'=>
  have a:=ha b o' hφ;have c:=hb b o' hφ;rw[show Bj A.heap b=A.heap[b]? from rfl,ho]at a;cases a;exact c
theorem XM {φ:AD}{w:World}{p q:gL}{s o:Ad}{G G':List Chk}(gk:Glob φ) (hs:OkS s) (ho:OkS o) (hp:(Bd p s::G).Perm (Bd q o::G')) (P:St φ (Bd p s::G) w.heap):
 Calls gP 94 #[.pointer p,.pointer q] w λe W'=>B8 w W'∧ ∃(ψ:AD),Sub φ ψ∧e= .returned (.bool (FQ s o))∧St ψ (Bd p (BL s o)::G) W'.heap:=by
 refine(callsIn_wide (n:=12)).1<|callsIn_of_wp_marks Tryz.func94 rfl trivial ?_ rfl;simp only[Tryz.ntmps94,iK,gZ,iC,Nat.reduceAdd,Nat.reduceSub,iP,iQ,jA,iV,jJ,iY]
 gi_wp2
 have hlen:o.2.length≤1000:=by have d:=ho.len;have a:=ho.hi;omega
 have sA:St φ (Bd q o::⟨iG 111,[.pointer (some ⟨w.heap.size,0,none⟩)],[.pointer p]⟩::⟨iG 4,[.pointer (some ⟨w.heap.size+1,0,none⟩)],[.bool false]⟩::G') ((w.alloc (.cells #[.pointer p] 111)).alloc (.cells #[.bool false] 4)).heap:=by
  have d:=St.new (ty:=111) [.pointer p] P;have a:=St.new (ty:=4) [.bool false] d;rw[Array.size_push]at a;refine a.perm<|(iR _ _ _).trans ((hO _ (hO _ hp)).trans ((BF 2 _)))
 refine⟨trivial,(callsIn_wide.2 (Y8 sA (by omega))).mono ?_⟩;rintro e W1 ⟨i,ψ,bx,y,u,rfl,Q⟩;obtain⟨R,φ0,L,J,hB,hL,z,hseq,hback⟩:=ready 11 (by decide) (gk.mono u) ho hp Q;have m:B8 w W1:=B8.trans (b:=(w.alloc (.cells #[.pointer p] 111)).alloc (.cells #[.bool false] 4)) ⟨rfl,rfl,rfl,by simp;omega⟩ i;have hfin:∀(g:Bool) (s':Ad) (W':World),B8 w W'→Jd s (Dz o)=(s',true,g)∨Jd s (Dz o)=(s',false,g)→St φ0 (HO w.heap.size (w.heap.size+1) p g s') W'.heap→B8 w W'∧ ∃(ψ:AD),Sub φ ψ∧Ending.returned (Value.bool g)= .returned (.bool (FQ s o))∧St ψ (Bd p (BL s o)::G) W'.heap:=by
  rintro g s' W' d C a;have S:BL s o=s':=by rw[←XL];rcases C with h | h<;>rw[h]
  have T:FQ s o=g:=by unfold FQ;rcases C with h | h<;>rw[h]
  rw[S,T];exact⟨d,R,u.trans J,rfl,hback _ _ _ a⟩
 have hgrow:∀ {A B:World} {row:Option Nat},B8 w A→A.grownBy B row→B8 w B:=λh ⟨U,V,X,Y,_⟩=>h.trans ⟨U,V,X,Y⟩
 gi_wp2
 refine wpIn_rangeFunc_ownG rfl (by decide) (gf:=104) (lb:=#[.pointer (fH bx)]) rfl trivial (enters_of mB (by kernel_rfl) rfl) hseq (λh k=>h.trans k)
  (λW l o o' hl h d a=>KpL.putObj (n₀:=W1.heap.size) (λb hb=>hB b (hL b hb)) W l o o' hl h d a) (Below.refl _ _) (λ_=>rfl)
  (λpre W=>B8 w W∧ ∃(s':Ad) (g:Bool),OkS s'∧Jd s pre=(s',false,g)∧St φ0 (HO w.heap.size (w.heap.size+1) p g s') W.heap)
  (λc pre W=>c= .exit 0∧B8 w W∧ ∃(s':Ad) (g:Bool),Jd s pre=(s',true,g)∧St φ0 (HO w.heap.size (w.heap.size+1) p g s') W.heap)
  (λpre A B row ⟨d,s',g,a,M,N⟩ hg hr=>⟨hgrow d hg,s',g,a,M,Kw hB (Dd _ _ _ _ _) N hg hr⟩)
  (λc pre A B row ⟨Z,d,s',g,a,N⟩ hg hr=>⟨Z,hgrow d hg,s',g,a,Kw hB (Dd _ _ _ _ _) N hg hr⟩)
  ⟨m,s,false,hs,rfl,z⟩
  (λx=>{tmps:=#[.pointer p,.pointer q,.pointer (some ⟨w.heap.size,0,none⟩),undef,.bool false,.pointer (some ⟨w.heap.size+1,0,none⟩),.int .i64 x,.pointer q,.func (.func 104) #[] #[.pointer (fH bx)],.int .i64 x,undef,undef,undef,undef,undef,undef,undef,undef,undef,undef,undef,undef,undef],defers:=[]}) ?assign ?body ?done ?stop
 case assign=>
  intro l x W K hK
  gi_wp2
  exact hK
 case body=>
  rintro l pre x W ⟨hsame,s',g,hok,hrun,hst⟩ hlt;have hbox:W.cell? ⟨w.heap.size,0,none⟩=some (.pointer p):=hst.cell rfl;obtain⟨bp,rfl,hn⟩:=bB (hst.at 2);have hn':W.cell? ⟨bp,0,none⟩=some (.int .i64 s'.1):=hn
  gi_wp2
  ·have hx:s'.1≤x:=by assumption
   have hr:Jd s (pre++ [x])=(s',true,g):=by
    rw[QU,hrun];unfold stepG;rw[gG (by simp),gF hx]
   exact⟨KeepsFrom.refl _ _,rfl,hsame,s',g,hr,hst⟩
  ·have hx:¬s'.1≤x:=by omega
   refine⟨trivial,(CallsIn.inRound l (callsIn_wide.2 (bH (x:=x) hok hst))).mono ?_⟩;obtain⟨E,F⟩:∃E,((Aq s' x).getD (false,s')).2=E:=⟨_,rfl⟩;rw[F];rintro e W3 ⟨t,H,O,y,rfl,hy,f,I,a0⟩;have hr:Jd s (pre++ [x])=(E,false,y || g):=by
    rw[QU,hrun];unfold stepG;rw[gG (by simp),gG hx];dsimp only;rw[F,←hy]
   have a1:W3.cell? ⟨w.heap.size+1,0,none⟩=some (.bool g):=(f.at 1).cell rfl;have a2:W3.frozen? ⟨w.heap.size+1,0,none⟩=false:=(St.put (j:=0) (.bool true) (f.at 1) (jN 0)).2.1;have hend:∀v:Bool,v=(y || g)→KeepsFrom W1.heap.size W (W3.setCell ⟨w.heap.size+1,0,none⟩ (.bool v))∧KpL L W (W3.setCell ⟨w.heap.size+1,0,none⟩ (.bool v))∧B8 w (W3.setCell ⟨w.heap.size+1,0,none⟩ (.bool v))∧ ∃(s':Ad) (g:Bool),OkS s'∧Jd s (pre++ [x])=(s',false,g)∧St φ0 (HO w.heap.size (w.heap.size+1) (fH bp) g s') (W3.setCell ⟨w.heap.size+1,0,none⟩ (.bool v)).heap:=by
    intro v hv;rw[←hv]at hr;have d:=(St.put (j:=0) (.bool v) (f.at 1) (jN 0)).2.2;have a:St φ0 (HO w.heap.size (w.heap.size+1) (fH bp) v E) (W3.setCell ⟨w.heap.size+1,0,none⟩ (.bool v)).heap:=d.at 1;have M:KeepsFrom W1.heap.size W W3:=⟨H,λk o _ hk ho=>O k o hk ho⟩;exact⟨M.trans ((KeepsOthers.setCell _ _ _).from _),cg hL hst.sub a.sub,(hsame.trans t).trans (B8.setCell _ _ _),E,v,I,hr,a⟩
   clear hy hr;cases y
   all_goals gi_wp2
   all_goals exact hend _ rfl
 case done=>
  rintro D xs W hD rfl ⟨hsame,s',g,hok,hrun,hst⟩ hK;have hg:W.cell? ⟨w.heap.size+1,0,none⟩=some (.bool g):=(hst.at 1).cell rfl
  gi_wp2
  refine⟨by simp,.inl ⟨_,_,rfl,run_takeDeferred hK,?_⟩⟩;refine⟨_,results_tmp rfl _ _ _,hfin g s' _ (hgrow hsame (grownBy_putObj' W D _)) (.inr hrun) ?_⟩;exact Kw hB (Dd _ _ _ _ _) hst (grownBy_putObj' W D _) (λr e=>by cases e;exact⟨hD,_,hK,rfl⟩)
 case stop=>
  rintro D c pre W hD hpre ⟨rfl,hsame,s',g,hrun,hst⟩ hK;have hg:W.cell? ⟨w.heap.size+1,0,none⟩=some (.bool g):=(hst.at 1).cell rfl
  gi_wp2
  refine⟨by simp,.inl ⟨_,_,rfl,run_takeDeferred hK,?_⟩⟩;refine⟨_,results_tmp rfl _ _ _,hfin g s' _ (hgrow hsame (grownBy_putObj' W D _)) (.inl ((bF hpre (by rw[hrun])).trans hrun)) ?_⟩;exact Kw hB (Dd _ _ _ _ _) hst (grownBy_putObj' W D _) (λr e=>by cases e;exact⟨hD,_,hK,rfl⟩)
theorem Ig {φ:AD}{h:AE}{p q:gL}{s o:Ad}{G G':List Chk}(gk:Glob φ) (hs:OkS s) (ho:OkS o) (hp:(Bd p s::G).Perm (Bd q o::G')) (a:St φ (Bd p s::G) h):
 CallsH gP 94 [.pointer p,.pointer q] h (Ap λv h'=>∃(ψ:AD),Sub φ ψ∧v=fR.val (FQ s o)∧St ψ (Bd p (BL s o)::G) h'):=by
 intro w hw;subst hw;refine(show Calls gP 94 #[.pointer p,.pointer q] w _ from XM gk hs ho hp a).mono ?_;rintro e W' ⟨b,ψ,c,rfl,d⟩;exact⟨b,_,rfl,ψ,c,rfl,d⟩
theorem Vp {φ:AD}{h:AE}{p q:gL}{s o:Ad}{G G':List Chk}(gk:Glob φ) (hs:OkS s) (ho:OkS o) (hp:(Bd p s::G).Perm (Bd q o::G')) (a:St φ (Bd p s::G) h):
 CallsH gP 94 [.pointer p,.pointer q] h (Ap λv h'=>∃(ψ:AD) (g:Bool),Sub φ ψ∧v=fR.val g∧St ψ (Bd p (BL s o)::G) h'):=by
 refine(Ig gk hs ho hp a).mono ?_;rintro e h' ⟨u,rfl,ψ,le,rfl,b⟩;exact⟨_,rfl,ψ,_,le,rfl,b⟩
end Go.Proofs.YtkfgeafgfeppfaaGreatDoor.Dg
namespace Go.Proofs.YtkfgeafgfeppfaaGreatDoor.Dg
open Go Go.Eng Go.RowKit Go.Shelf Go.Sort
attribute [local go_sem] Oper.semAt_some
section
variable {φ:AD}{h:AE}{F:List Chk}
theorem Z9 {W:World}{b:Nat}{n x:Int}(hc:W.cell? ⟨b,0,none⟩=some (.int .i64 n)):FnGives gP 146 #[.pointer (fH b)] #[.int .i64 x] (.bool (KM n x)) W:=by
 refine(callsIn_wide (n:=3)).1<|callsIn_of_wp Tryz.func146 rfl trivial ?_ rfl;simp only[Tryz.ntmps146,iK,gZ,iC,Nat.reduceAdd,Nat.reduceSub,iP,iQ,jA,iV,jJ,iY];have hmx:Tryz.prog.follows .mixedOrders=true:=mixed;by_cases a:x<0
 ·have e:KM n x=true:=by unfold KM;rw[gC a];rfl
  rw[e]
  gi_wp2
  go_ret
  exact⟨rfl,0,rfl⟩
 ·have e:KM n x=decide (n≤x):=by unfold KM;rw[gB a];rfl
  rw[e]
  gi_wp2
  go_ret
  exact⟨rfl,0,rfl⟩
theorem T2 (n:Nat) (p:gL) (cap:Nat) (fv:Value) (W:World):CallsIn Fence.wide n gP 159 #[.slice p 0 cap,fv] W λe W'=>e= .returned (.int .i64 (-1))∧W'=W:=by
 refine callsIn_of_wp Tryz.func159 rfl trivial ?_ rfl;simp only[Tryz.ntmps159,iK,gZ,iC,Nat.reduceAdd,Nat.reduceSub,iP,iQ,jA,iV,jJ,iY]
 gi_wp2
 refine wpIn_loop_rounds 1 ?_;rw[roundsIn_succ]
 gi_wp2
 go_ret
 exact⟨rfl,rfl⟩
theorem T3 (n:Nat) (hn:1≤n) (p:gL) (cap:Nat) (fv:Value) (W:World):CallsIn Fence.wide n gP 145 #[.slice p 0 cap,fv] W λe W'=>e= .returned (.slice p 0 cap)∧W'=W:=by
 refine callsIn_of_wp Tryz.func145 rfl trivial ?_ rfl;simp only[Tryz.ntmps145,iK,gZ,iC,Nat.reduceAdd,Nat.reduceSub,iP,iQ,jA,iV,jJ,iY]
 gi_wp2
 refine⟨trivial,(T2 (n - 1) p cap fv W).mono ?_⟩;rintro e W' ⟨rfl,rfl⟩
 gi_wp2
 go_ret
 exact⟨rfl,rfl⟩
theorem ci {t:Slc}{l:gM}{b:Nat}{n:Int}(c:St φ (⟨iM 3 (hQ .i64),[.slice t.1 t.2.1 t.2.2],l⟩::⟨iG 3,[.pointer (fH b)],[.int .i64 n]⟩::F) h):
 CallsH gP 145 [.slice t.1 t.2.1 t.2.2,.func (.func 146) #[] #[.pointer (fH b)]] h (Ap λv h'=>∃(ψ:AD) (y:Slc),Sub φ ψ∧v=fP.val y∧Ro.SliceIs (hQ .i64) ψ y (l.filter λx=> !KM n x)∧St ψ F h'):=by
 intro w hw;subst hw;have hcn:w.cell? ⟨b,0,none⟩=some (.int .i64 n):=(c.at 1).cell rfl;rcases c.rowHolds rfl (jC .i64) (λvs ha=>⟨l,DZ ha⟩) with⟨hl,hn⟩|⟨bb,off,bs,ht,hall,hn,hlen,hlt,hfit,hH⟩
 ·subst hl;rw[hn];have hc:=(callsIn_wide (n:=3)).1 (T3 3 (by decide) t.1 t.2.2 (.func (.func 146) #[] #[.pointer (fH b)]) w);refine(show Calls gP 145 #[.slice t.1 0 t.2.2,_] w _ from hc).mono ?_;rintro e w' ⟨rfl,rfl⟩;obtain⟨ψ,le,hsl,d⟩:=c.freezeRow;refine⟨B8.refl _,_,rfl,ψ,t,le,by rw[←hn];rfl,hsl,d.tail⟩
 ·have hbl:bs=l:=RJ (DZ hall);subst hbl;rw[ht,hn];have hmax:=c.rowMax;have hcap:bs.length≤t.2.2:=by
   obtain⟨_,_,hsl,_⟩:=c.freezeRow
   have:=hsl.2.1
   omega
  have hc:=AnyE.slices_DeleteFunc O2 (jC .i64) (λx=>rfl) (KM n) 146 #[.pointer (fH b)] (enters_of Tryz.func146 (by kernel_rfl) rfl) 0 (Tryz.zeroValue3) bb off t.2.2 bs.toArray w
   (λW x hW=>Z9 ((hW.cell (p:=⟨b,0,none⟩) (OD hcn)).trans hcn))
   (λm os dk x hdk=>Z9 (((c.rowSorted ht (jC .i64) dk.toList (FP _) (by simpa using hdk) (by simpa using hdk) hfit m os).at 1).cell rfl)) hH (by unfold maxLen at hmax;simp;omega) (by simpa using hcap)
  obtain⟨fl,hfl⟩:∃fl,(bs.filter λx=> !KM n x)=fl:=⟨_,rfl⟩;have hfle:fl.length≤bs.length:=by rw[←hfl];exact jF _ _
  have hsz:bs.toArray.size=bs.length:=by simp
  have htl:bs.toArray.toList=bs:=rfl;rw[hsz,htl,hfl]at hc;refine(show Calls gP 145 #[.slice (some ⟨bb,off,none⟩) bs.length t.2.2,_] w _ from hc).mono ?_;rintro e w' ⟨rfl,q,rfl⟩;have hln:(fl++lS (bs.length - fl.length) (0:Int)).length=bs.length:=by simp;omega
  have d:=c.rowSorted ht (jC .i64) (fl++lS (bs.length - fl.length) (0:Int)) (FP _) hln hln hfit q #[];rw[grow_empty]at d;obtain⟨ψ,le,hsl,g⟩:=d.freezeRow;have hct:=Ro.SliceIs.cut (a:=0) (b:=(fl.length:Int)) (m:=fl) hsl (by
   unfold cut;rw[gF ⟨by omega,by omega,by rw[hln];omega⟩]
   simp) (sz:=1) rfl
  refine⟨⟨rfl,rfl,rfl,by rw[size_putRow];exact iN _⟩,_,rfl,ψ,(some ⟨bb,off,none⟩,fl.length,t.2.2),le,rfl,?_,g.tail⟩;rw[hfl];have f:=hct.2;rw[ht]at f;have i:(if t.2.2=gX 0 then some (⟨bb,off,none⟩:Addr) else lT (λx=>mL x (gX 0 *1)) (some ⟨bb,off,none⟩))=some ⟨bb,off,none⟩:=by
   split
   ·rfl
   ·rfl
  rw[i]at f;exact f
theorem XN {t:Slc}{ll:List gM}{x n:Int}(k:Ro.SliceIs (lR (hQ .i64)) φ t ll) (g:St φ F h) (i:0≤x) (hb:∀l∈ll,l.length≤1073741824):
 CallsH gP 120 [.slice t.1 t.2.1 t.2.2,.int .i64 x,.int .i64 n] h (Ap λv h'=>∃(ψ:AD) (y:Slc),Sub φ ψ∧v=fP.val y∧Ro.SliceIs (hQ .i64) ψ y (C9 ll x n)∧St ψ F h'):=by
 refine Av mixed Tryz.func120 ?_;rw[Nc];unfold KG;refine AV (vs:=[.int .i64 n]) g ?_;intro r w b;have hlen:=k.length;by_cases hx:x≥ (t.2.1:Int)
 ·rw[gC hx,cond_true];refine AC ⟨φ,(none,0,0),jB _,rfl,?_,b.tail⟩;unfold C9;rw[gF (by omega)];exact lA _ _
 ·rw[gB hx,cond_false];have hlt:x.toNat<ll.length:=by omega
  have hix:idx ll x=some ll[x.toNat]:=by
   unfold idx;rw[gF i,gO hlt]
  obtain⟨a,cs,ha,hi,⟨t1,j,m⟩,hcs⟩:=k.get hix;subst j;refine AF _ ha (Ah hi ?_);refine AG (x:=t1) (by
   have e:=Ao b.sub (hcs 0 _ rfl);exact e) rfl ?_
  refine AK (Tz m b (r:=ll[x.toNat]) (by unfold cloneD;rw[gF (hb _ (hZ _))])) ?_;rintro _ z ⟨A,o,B,c,rfl,rfl,p⟩;refine⟨o,rfl,?_⟩;refine AK (ci p) ?_;rintro _ e ⟨q,f,d,rfl,s,u⟩;refine⟨f,rfl,?_⟩;refine AC ⟨q,f,c.trans d,rfl,?_,u⟩;unfold C9;rw[gG (by omega),gO hlt];exact s
end
end Go.Proofs.YtkfgeafgfeppfaaGreatDoor.Dg
namespace Go.Proofs.YtkfgeafgfeppfaaGreatDoor.Dg
open Go Go.Eng Go.RowKit
theorem Y9 {P:Program} {Q:Bh→AE→Prop} {h:AE} {f:FuncId} {fn:Func} {first cap args:Array Value} {sh:Sh} {k:Value→T} (hf:P.funcs[f]? =some fn) (hn:(fn.name== "runtime.NumGoroutine")=false) (hb:fn.body.isNone=false) (hsh:Uh P fn=sh)
 (H:(gU f ((first++args) ++cap).toList sh λx=>k (sh.val x)).wp P Q h):(Ju false P (.func (.func f) first cap) args k).wp P Q h:=by
 subst hsh;unfold Ju;simp only[hf,hn,hb];exact H
theorem St.rowTake {α:Type}{φ:AD}{h:AE}{Γ:List Chk}{ty:TypeId}{r:Ro α}{t:Slc}{l:List α}(H:St φ (⟨iM ty r,[.slice t.1 t.2.1 t.2.2],l⟩::Γ) h) {k:Nat}(hk:k≤l.length):
 St φ (⟨iM ty r,[.slice t.1 k t.2.2],l.take k⟩::Γ) h:=by
 obtain⟨F,⟨p,n,c,vs,e,hn,hc,hfu,ho,hall,hF⟩,g,H⟩:=H;have hn:l.length=n:=hn;simp only[List.cons.injEq,Value.slice.injEq,and_true]at e;obtain⟨j,w,m⟩:=e;refine⟨F,⟨p,k,c,vs.take (k *r.sz),by rw[j,m],by rw[jG];omega,hc,hfu,?_,hall.take k,hF⟩,g,H⟩;rcases ho with⟨hp,o,a,d⟩|⟨b,off,arr,hp,f,q,x,s,u⟩
 ·exact .inl ⟨hp,by omega,a,by rw[d];exact List.take_nil⟩
 ·refine .inr ⟨b,off,arr,hp,f,?_,by omega,s,λi v hv=> ?_⟩
  ·rw[jG,q];exact Nat.min_eq_left (Nat.mul_le_mul_right _ (by omega))
  ·rw[kF]at hv;split at hv
   ·exact u i v hv
   ·cases hv
abbrev Gp (a b:Nat) (s o:Slc) (stk low:gM):List Chk:=[⟨iG 30,[.pointer (fH a)],[.slice s.1 s.2.1 s.2.2]⟩,⟨iM 3 (hQ .i64),[.slice s.1 s.2.1 s.2.2],stk⟩,⟨iG 30,[.pointer (fH b)],[.slice o.1 o.2.1 o.2.2]⟩,⟨iM 3 (hQ .i64),[.slice o.1 o.2.1 o.2.2],low⟩]
section
variable {X A:Type}(K:X→List Chk) (al:X→A) (ledA:A→Int→Int→Option A) (partA:A→gM→Option A) (gl gp:Nat) (bl bp:Array Value)
def XO:Prop:= ∀ {φ:AD}{h:AE}{F:List Chk}{v:X}{x to:Int}{a':A},ledA (al v) x to=some a'→St φ (K v++F) h→
 CallsH gP gl (((#[]:Array Value) ++ #[jC .i64 x,jC .i64 to]) ++bl).toList h (Ap λu h'=>u= .tuple #[] ∧ ∃(ψ:AD) (v':X),Sub φ ψ∧al v'=a'∧St ψ (K v'++F) h')
def T4:Prop:= ∀ {φ:AD}{h:AE}{F:List Chk}{v:X}{t:Slc}{l:gM}{a':A},partA (al v) l=some a'→St φ (⟨iM 3 (hQ .i64),[.slice t.1 t.2.1 t.2.2],l⟩::(K v++F)) h→
 CallsH gP gp (((#[]:Array Value) ++ #[Value.slice t.1 t.2.1 t.2.2]) ++bp).toList h (Ap λu h'=>u= .tuple #[] ∧ ∃(ψ:AD) (v':X),Sub φ ψ∧al v'=a'∧St ψ (K v'++F) h')
abbrev Ga (a b c d e f g:Nat):Array Value:=#[.pointer (fH a),.pointer (fH b),.pointer (fH c),.pointer (fH d),.pointer (fH e),.pointer (fH f),.pointer (fH g)]
structure O8 (φ:AD) (t:Slc) (n:Int) (c1 c2 c3 c4 c5 c6 c7:Nat):Prop where
 edges:EB φ ⟨c3,0,none⟩=some (.slice t.1 t.2.1 t.2.2)
 num:EB φ ⟨c4,0,none⟩=some (.int .i64 n)
 visit:EB φ ⟨c5,0,none⟩=some (.func (.func 119) #[] (Ga c1 c2 c3 c4 c5 c6 c7))
 led:EB φ ⟨c6,0,none⟩=some (.func (.func gl) #[] bl)
 part:EB φ ⟨c7,0,none⟩=some (.func (.func gp) #[] bp)
theorem O8.mono {φ ψ:AD}{t:Slc}{n:Int}{a b c d e f g:Nat}(H:O8 gl gp bl bp φ t n a b c d e f g) (hs:Sub φ ψ):O8 gl gp bl bp ψ t n a b c d e f g:=
 ⟨Ao hs H.edges,Ao hs H.num,Ao hs H.visit,Ao hs H.led,Ao hs H.part⟩
def RO (rec:Dk A→Int→Option (Dk A)) (ll:List gM) (n:Int) (t:Slc) (a b c d e f g:Nat):Prop:=
 ∀ {φ:AD} {h:AE} {F:List Chk} {v:X} {s o:Slc} {stk low stk' low':gM} {x:Int} {a':A},O8 gl gp bl bp φ t n a b c d e f g→Ro.SliceIs (lR (hQ .i64)) φ t ll→
  rec (low,stk,al v) x=some (low',stk',a')→St φ (Gp a b s o stk low++(K v++F)) h→
  CallsH gP 119 (((#[]:Array Value) ++ #[jC .i64 x]) ++Ga a b c d e f g).toList h (Ap λu h'=>u= .tuple #[] ∧ ∃(ψ:AD) (v':X) (s':Slc),Sub φ ψ∧al v'=a'∧St ψ (Gp a b s' o stk' low'++(K v'++F)) h')
def Ew (g:FuncId):Prop:= ∃fn,Tryz.prog.funcs[g]? =some fn∧(fn.name== "runtime.NumGoroutine")=false∧fn.body.isNone=false∧Uh Tryz.prog fn= .tuple []
theorem SW:Ew 119:=⟨Tryz.f119,Tryz.func119,by decide,by kernel_rfl,by kernel_rfl⟩
theorem Ew.call {P':Bh→AE→Prop}{h:AE}{g:FuncId}{cap args:Array Value}{k:Value→T}(H:Ew g) {S:Value→AE→Prop}(hc:CallsH gP g (((#[]:Array Value) ++args) ++cap).toList h (Ap S)) (hk:∀h',S (.tuple #[]) h'→(k (.tuple #[])).wp gP P' h') (hu:∀v h',S v h'→v= .tuple #[]):
 (Ju false gP (.func (.func g) #[] cap) args k).wp gP P' h:=by
 obtain⟨fn,a,b,c,d⟩:=H;refine Y9 a b c d<|AK hc ?_;intro v h' hS
 have:=hu v h' hS
 subst this;exact⟨(),rfl,hk h' hS⟩
abbrev QW (K:X→List Chk) (al:X→A) (a b:Nat) (o:Slc) (F:List Chk) (c:AD) (w:AE) (g:Dk A):Prop:= ∃(ψ:AD) (v:X) (s:Slc),Sub c ψ∧al v=g.2.2∧St ψ (Gp a b s o g.2.1 g.1++(K v++F)) w
theorem T5 {ll:List gM}{n:Int}{t:Slc}{l d S T U V W:Nat}{rec:Dk A→Int→Option (Dk A)}(hl:XO K al ledA gl bl) (hp:T4 K al partA gp bp) (cl:Ew gl) (cp:Ew gp)
 (ih:RO K al gl gp bl bp rec ll n t l d S T U V W):RO K al gl gp bl bp (O3 ll n ledA partA rec) ll n t l d S T U V W:=by
 intro φ h F v s o stk low stk' low' x a' B k hd s0;refine Av mixed Tryz.func119 ?_;rw[show Ab gP Tryz.f119 (((#[]:Array Value) ++ #[jC .i64 x]) ++Ga l d S T U V W).toList=_ from MM x l d S T U V W];unfold Hy;unfold O3 at hd;have⟨f,e1,hd⟩:=gQ.1 hd;have⟨N,e2,hd⟩:=gQ.1 hd;have⟨hb,hd⟩:=CD hd;have⟨c,e3,hd⟩:=gQ.1 hd;refine AA (b:=l) (j:=0) (x:=s) s0 rfl<|AV (vs:=[.int .i64 x]) s0 ?_;intro r2 h1 s1;have cw:=lM s1;have s2:=s1.tail.at1;refine AX (r:=hQ .i64) (ms:=[x]) W0 s2 rfl cw (.cons (a:=[_]) rfl .nil) rfl e1 ?_;intro s' h2 s3;refine Cf (b:=l) (j:=0) (v:=.slice s'.1 s'.2.1 s'.2.2) s3.at1 rfl (jN 0) ?_;intro h3 s4;refine AA (b:=l) (j:=0) (x:=s') s4 rfl<|AA (b:=d) (j:=0) (x:=o) s4.at2 rfl ?_;have hsl:s'.2.1=f.length:=s4.at1.rowLen;have s5:=s4.at3;have⟨a5,X,q5⟩:=s5.there e2;rw[hsl];refine AF _ X (Ah q5 (Ef s5 e2 rfl X ?_));intro h4 s6;have s7:St φ (Gp l d s' o f N++(K v++F)) h4:=s6.perm (BF 3 (Gp l d s' o f N++(K v++F))).symm;refine AG (x:=t) (Ao s7.sub B.edges) rfl<|AG (x:=n) (Ao s7.sub B.num) rfl ?_;have a8:0≤x:=(Dr e2).1;refine AK (XN k s7 a8 hb) ?_;rintro _ h5 ⟨ψ1,y,p,rfl,k1,s8⟩;refine⟨y,rfl,?_⟩;have ny:=k1.length;refine Ag (λ(z:Int×Unit) w g=>QW K al l d o F ψ1 w g) (g:=c) ?_ ?_
 ·refine By e3 (λi (z:Int×Unit) w g=>z.1=i∧QW K al l d o F ψ1 w g) ((0:Int),()) rfl ⟨rfl,ψ1,v,s',jB _,rfl,s8⟩ ?_ ?_
  ·rintro i z w g e ⟨hz,ψ,v',s'',le,hal,st⟩ he h0 hlt hw;subst hz;refine Ac (by rw[ny];exact gC hlt) ?_;have⟨to,hto,he⟩:=gQ.1 he;unfold toD at he;have⟨e0,a9,he⟩:=gQ.1 he;have⟨Y,b0,he⟩:=gQ.1 he;have⟨p1,b1,he⟩:=gQ.1 he;have⟨q1,b2,he⟩:=gQ.1 he;have⟨D,E,he⟩:=gQ.1 he;have⟨a2,Z,he⟩:=gQ.1 he;obtain rfl:=Option.some.inj he;obtain⟨A1,f0,b3,b4,r1,b5⟩:=(k1.mono le).get hto;refine AF _ b3 (Ah b4 ?_);obtain rfl:=r1;refine AG (x:=to) (Ao st.sub (b5 0 _ rfl)) rfl<|AA (b:=d) (j:=0) (x:=o) st.at2 rfl ?_;have⟨A2,f1,b6,b7,r2,b8⟩:=lN (st.at3) a9;refine AF _ b6 (Ah b7 ?_);obtain rfl:=r2;refine AG (x:=e0) (b8 0 _ rfl) rfl<|Aa (λ(_:Unit) w g=>QW K al l d o F ψ1 w g) (g:=Y) ?_ ?_
   ·refine AH b0 rfl (λ_ hg=> ?_) (λ_ hg=> ?_)
    ·refine AG (x:=some (.func 119,#[],Ga l d S T U V W)) (Ao st.sub (Ao (p.trans le) B.visit)) rfl ?_;obtain⟨f2,f3,f4⟩:=Y;obtain⟨f5,f6,f7⟩:=g;dsimp only at hal;subst hal;refine Ew.call SW (ih (O8.mono gl gp bl bp B (p.trans le)) (k.mono (p.trans le)) hg st) ?_ (λ_ _ hS=>hS.1);rintro h6 ⟨_,ψ2,v2,u,J,G,m⟩;exact AO () rfl ⟨ψ2,v2,u,le.trans J,G,m⟩
    ·obtain rfl:=Option.some.inj hg;exact AO () rfl ⟨ψ,v',s'',le,hal,st⟩
   ·rintro _ h6 ⟨ψ2,v2,u,J,G,m⟩;refine AA (b:=d) (j:=0) (x:=o) m.at2 rfl<|AA (b:=d) (j:=0) (x:=o) m.at2 rfl ?_;have⟨A3,f8,b9,c0,r3,c8⟩:=lN (m.at3) b1;refine AF _ b9 (Ah c0 ?_);obtain rfl:=r3;refine AG (x:=p1) (c8 0 _ rfl) rfl<|AA (b:=d) (j:=0) (x:=o) m.at2 rfl ?_;have⟨A4,f9,c9,d0,r4,d1⟩:=lN (m.at3) b2;refine AF _ c9 (Ah d0 ?_);obtain rfl:=r4;refine AG (x:=q1) (d1 0 _ rfl) rfl ?_;have⟨A5,L,q6⟩:=oI (m.at3) E;refine AF _ L (Ah q6 (Ef (m.at3) E rfl L ?_));intro h7 s9;have M:St ψ2 (Gp l d u o Y.2.1 D++(K v2++F)) h7:=s9.perm (BF 3 (Gp l d u o Y.2.1 D++(K v2++F))).symm;refine AG (x:=some (.func gl,#[],bl)) (Ao M.sub (Ao (p.trans J) B.led)) rfl ?_;rw[←G]at Z;refine Ew.call cl (hl Z (F:=F++Gp l d u o Y.2.1 D) (M.perm (List.perm_append_comm.trans (by rw[gT])))) ?_ (λ_ _ hS=>hS.1);rintro h8 ⟨_,ψ3,v3,Q,I,a0⟩;refine AZ (gR .i64 (z.1+(1:Int)),()) _ rfl rfl ⟨hw,ψ3,v3,u,J.trans Q,I,?_⟩;exact a0.perm (by rw[←gT];exact iA)
  ·rintro i z w ⟨hz,ψ,v',s'',le,hal,st⟩ hge;subst hz;refine AU (by rw[ny];exact gB (kO.2 hge))<|AI (AL (z.1,()) rfl ⟨ψ,v',s'',le,hal,st⟩)
 ·rintro z h6 ⟨ψ,v',s'',le,hal,st⟩;unfold Wz at hd;have⟨e,he,hd⟩:=gQ.1 hd;refine AA (b:=d) (j:=0) (x:=o) st.at2 rfl ?_;have⟨A6,g0,L,d2,r6,d3⟩:=lN (st.at3) he;refine AF _ L (Ah d2 ?_);obtain rfl:=r6;refine AG (x:=e) (d3 0 _ rfl) rfl<|AH hd rfl (λ_ hd=> ?_) (λ_ hd=> ?_)
  ·obtain rfl:=Option.some.inj hd;exact AC ⟨rfl,ψ,v',s'',p.trans le,hal,st⟩
  ·obtain⟨⟨g2,d4,g3⟩,hd⟩:=CD hd;have⟨O,e4,hd⟩:=gQ.1 hd;have⟨a4,R,hd⟩:=gQ.1 hd;obtain⟨rfl,d5⟩:=Prod.mk.inj (Option.some.inj hd);obtain⟨rfl,rfl⟩:=Prod.mk.inj d5;obtain⟨dp,hdp⟩:∃dp:Nat,f.length=dp+1:=⟨f.length - 1,by omega⟩;have hsub:f.length - 1=dp:=by omega
   rw[hsub]at d4 e4 R;rw[hsub];have d6:gR .i64 ((f.length:Int) - (1:Int))=((dp:Nat):Int):=by
    have:f.length≤1073741825:=by omega
    rw[Vm (by omega) (by omega)];omega
   rw[d6];have hlen'':s''.2.1=c.2.1.length:=st.at1.rowLen;have hcap:s''.2.1≤s''.2.2:=by
    obtain⟨_,_,a1,_⟩:=(st.at1).freezeRow;exact a1.2.1
   refine AA (b:=l) (j:=0) (x:=s'') st rfl<|Ah ⟨by omega,by omega,by omega⟩ ?_;have hcut:cut c.2.1 ((dp:Nat):Int) (s''.2.1:Int)=some (c.2.1.drop dp):=by
    unfold cut;rw[gF ⟨by omega,by omega,by omega⟩,kM,kM,hlen'',nY]
   have hpart:∀h',St ψ (Gp l d s'' o c.2.1 c.1++(K v'++F)) h'→ ∃ψ',Sub ψ ψ'∧Sub ψ' (Bj h')∧Ro.SliceIs (hQ .i64) ψ' ((if s''.2.2=gX ((dp:Nat):Int) then s''.1 else lT (λx=>mL x (gX ((dp:Nat):Int) *1)) s''.1),gX (s''.2.1:Int) - gX ((dp:Nat):Int),s''.2.2 - gX ((dp:Nat):Int)) (c.2.1.drop dp):=λh' H=>by
    obtain⟨ψ',le',sl,H2⟩:=(H.at1).freezeRow;exact⟨ψ',le',H2.sub,(sl.cut hcut (sz:=1) rfl).2⟩
   have⟨_,_,_,P⟩:=hpart _ st;have hcl:=Mu (t:=((if s''.2.2=gX ((dp:Nat):Int) then s''.1 else lT (λx=>mL x (gX ((dp:Nat):Int) *1)) s''.1),gX (s''.2.1:Int) - gX ((dp:Nat):Int),s''.2.2 - gX ((dp:Nat):Int))) st P.1 (λh' H=>by
    obtain⟨ψ',_,hs',sl⟩:=hpart h' H;have⟨vs,ha,hc⟩:=sl.heap hs';rw[DZ ha]at hc;exact hc) P.2.2.2.1 (by rw[List.length_drop];omega)
   dsimp only at hcl;refine AK hcl ?_;rintro _ h7 ⟨q,rfl,s9⟩;refine⟨q,rfl,?_⟩;have a3:q.2.1=(c.2.1.drop dp).length:=s9.rowLen;refine AA (b:=l) (j:=0) (x:=s'') s9.at1 rfl<|Ah ⟨by omega,by omega,by omega⟩ ?_;have hzero:(if s''.2.2=gX (0:Int) then s''.1 else lT (λx=>mL x (gX (0:Int) *1)) s''.1)=s''.1:=by
    split
    ·rfl
    ·cases s''.1 with
     |none=>rfl
     |some a=>cases a;rfl
   rw[hzero];refine Cf (b:=l) (j:=0) (v:=.slice s''.1 (gX ((dp:Nat):Int) - gX 0) (s''.2.2 - gX 0)) s9.at1 rfl (jN 0) ?_;intro h8 M;have d7:=St.rowTake (M.at2) (k:=dp) (by omega);have d8:St ψ (⟨iM 3 (hQ .i64),[.slice q.1 q.2.1 q.2.2],c.2.1.drop dp⟩::(Gp l d (s''.1,dp,s''.2.2) o (c.2.1.take dp) c.1++(K v'++F))) h8:=d7.perm ((BF 2 _).trans (hO _ (iR _ _ _)));refine Ag (λ(z:Int×Unit) w g=>St ψ (⟨iM 3 (hQ .i64),[.slice q.1 q.2.1 q.2.2],c.2.1.drop dp⟩::(Gp l d (s''.1,dp,s''.2.2) o (c.2.1.take dp) g++(K v'++F))) w) (g:=O) ?_ ?_
   ·refine By e4 (λi (z:Int×Unit) w g=>z.1=i∧St ψ (⟨iM 3 (hQ .i64),[.slice q.1 q.2.1 q.2.2],c.2.1.drop dp⟩::(Gp l d (s''.1,dp,s''.2.2) o (c.2.1.take dp) g++(K v'++F))) w) ((0:Int),()) rfl ⟨rfl,d8⟩ ?_ ?_
    ·rintro i z w g e' ⟨hz,C⟩ he' h0 hlt hw;subst hz;refine Ac (by rw[a3];exact gC hlt) ?_;obtain⟨y3,d9,he'⟩:=gQ.1 he';have⟨A7,g4,e5,e6,r7,e7⟩:=lN C d9;refine AF _ e5 (Ah e6 ?_);obtain rfl:=r7;refine AG (x:=y3) (e7 0 _ rfl) rfl<|AA (b:=d) (j:=0) (x:=o) C.at3 rfl ?_;have⟨A8,a6,q8⟩:=oI (C.at4) he';refine AF _ a6 (Ah q8 (Ef (C.at4) he' rfl a6 ?_));intro h9 e8;refine AZ (gR .i64 (z.1+(1:Int)),()) _ rfl rfl ⟨hw,e8.perm (BF 4 (⟨iM 3 (hQ .i64),[.slice q.1 q.2.1 q.2.2],c.2.1.drop dp⟩::(Gp l d (s''.1,dp,s''.2.2) o (c.2.1.take dp) e'++(K v'++F)))).symm⟩
    ·rintro i z w ⟨hz,C⟩ hge;subst hz;refine AU (by rw[a3];exact gB (kO.2 hge))<|AI (AL (z.1,()) rfl C)
   ·rintro z2 h9 a7;refine AG (x:=some (.func gp,#[],bp)) (Ao a7.sub (Ao (p.trans le) B.part)) rfl ?_;rw[←hal]at R;refine Ew.call cp (hp R (F:=F++Gp l d (s''.1,dp,s''.2.2) o (c.2.1.take dp) O) (a7.perm (hO _ (List.perm_append_comm.trans (by rw[gT]))))) ?_ (λ_ _ hS=>hS.1);rintro g5 ⟨_,ψ3,v3,Q,I,e9⟩;exact AC ⟨rfl,ψ3,v3,(s''.1,dp,s''.2.2),(p.trans le).trans Q,I,e9.perm (by rw[←gT];exact iA)⟩
theorem SX {ll:List gM}{n:Int}{t:Slc}{a b c d e g h:Nat}(hl:XO K al ledA gl bl) (hp:T4 K al partA gp bp) (cl:Ew gl) (cp:Ew gp):∀f:Nat,RO K al gl gp bl bp (KN ll n ledA partA f) ll n t a b c d e g h
 | 0=>λ_ _ hd _=>by cases hd
 |f+1=>T5 K al ledA partA gl gp bl bp hl hp cl cp (SX hl hp cl cp f)
end
end Go.Proofs.YtkfgeafgfeppfaaGreatDoor.Dg
namespace Go.Proofs.YtkfgeafgfeppfaaGreatDoor.Dg
open Go Go.Eng
theorem QX {ws:List Nat}{x:Int}:∀ {k:Nat},x∈Dy ws k↔∃i j:Nat,i<k∧j∈F8 (ws[i]?.getD 0)∧x=(i:Int) *64+(j:Int):=by
 intro k
 induction k with
 |zero=>rw[O6];simp
 |succ k ih=>
  rw[Gn,iD,ih,kG];constructor
  ·rintro(⟨i,j,c,a,b⟩|⟨j,c,a⟩)
   ·exact⟨i,j,by omega,a,b⟩
   ·exact⟨k,j,by omega,c,a.symm⟩
  ·rintro⟨i,j,c,a,b⟩;by_cases e:i=k
   ·subst e;exact .inr ⟨j,a,b.symm⟩
   ·exact .inl ⟨i,j,by omega,a,b⟩
theorem XP (w:Nat):(F8 w).Pairwise (· < ·):=List.pairwise_lt_range.filter _
theorem XQ (ws:List Nat):∀k:Nat,(Dy ws k).Pairwise (· < ·):=by
 intro k
 induction k with
 |zero=>rw[O6];exact .nil
 |succ k ih=>
  rw[Gn,mM];refine⟨ih,?_,?_⟩
  ·rw[nJ];exact(XP _).imp λh=>by omega
  ·intro a ha b hb;obtain⟨i,j,d,c,rfl⟩:=QX.1 ha;obtain⟨j',e,rfl⟩:=kG.1 hb
   have:=(Ng.1 c).1
   omega
theorem SY (s:Ad):(Dz s).Pairwise (· < ·):=XQ _ _
theorem E6 {s:Ad}(H:OkS s) (x:Int):x∈Dz s↔mem s x=true:=by
 unfold Dz;rw[QX];have hget:∀i:Nat,(s.2.map gX)[i]?.getD 0=(s.2[i]?.getD 0).toNat:=λi=>by
  rw[lU];cases s.2[i]? <;>rfl
 constructor
 ·rintro⟨i,j,b,a,rfl⟩;rw[hget]at a;have⟨d,c⟩:=Ng.1 a;rw[show(i:Int) *64+(j:Int)=((i *64+j:Nat):Int) by omega,Mv];unfold Jc;rw[show(i *64+j) / 64=i by omega,show(i *64+j) % 64=j by omega];exact c
 ·intro h;have⟨e,b⟩:=Nf H h;obtain⟨k,rfl⟩:∃k:Nat,x=(k:Int):=⟨x.toNat,by omega⟩;rw[Mv]at h;have hl:=H.len;refine⟨k / 64,k % 64,by omega,?_,by omega⟩;rw[hget];exact Ng.2 ⟨Nat.mod_lt _ (by decide),h⟩
theorem H6 {s:Ad}(H:OkS s):JM s=some (Dz s):=by
 unfold JM Dz;have a:=H.len;have b:=H.hi;rw[gF ⟨by omega,H.word⟩]
theorem KO {s:Ad}(H:OkS s) {x:Int}(h:x∈Dz s):0≤x∧x<s.1:=Nf H ((E6 H x).1 h)
theorem bI:∀(l:gM) {s:Ad},OkS s→l.Pairwise (· < ·)→(∀i∈l,0≤i)→
 OkS (l.foldl H5 (s,false)).1∧(l.foldl H5 (s,false)).1.1=s.1∧ ∀j,mem (l.foldl H5 (s,false)).1 j=(mem s j || (l.contains j && decide (j<s.1))):=by
 intro l
 induction l with
 |nil=>intro s H _ _;exact⟨H,rfl,λj=>by simp⟩
 |cons i l ih=>
  intro s H hp a;rw[jT];have hp':=List.pairwise_cons.1 hp;by_cases hi:s.1≤i
  ·have e:H5 (s,false) i=(s,true):=by unfold H5;rw[gG (by simp),gF hi]
   rw[e,bG l rfl];refine⟨H,rfl,λj=> ?_⟩
   have:((i::l).contains j && decide (j<s.1))=false:=by
    by_cases hj:j<s.1
    ·have hne:j∉i::l:=by
      intro hm;rcases kV.1 hm with h | h
      ·omega
      ·have:=hp'.1 j h;omega
     have:(i::l).contains j=false:=by
      rw[Bool.eq_false_iff];intro hc;exact hne (mH.1 hc)
     rw[this];rfl
    ·rw[gB hj,Bool.and_false]
   rw[this,Bool.or_false]
  ·obtain⟨s',hd,c,b,d⟩:=add_ok H i;have e:H5 (s,false) i=(s',false):=by unfold H5;rw[gG (by simp),gG hi,hd];rfl
   rw[e];obtain⟨f,k,m⟩:=ih c hp'.2 λi hi=>a i (List.mem_cons_of_mem _ hi);have n:=a i (by simp);refine⟨f,k.trans b,λj=> ?_⟩;rw[m,d,b,List.contains_cons];by_cases hj:j=i
   ·subst hj;rw[gC (show j=j∧0≤j∧j<s.1 by omega),gC (show j<s.1 by omega)];simp
   ·rw[gB λg=>hj g.1,Bool.or_false,show(j==i)=false by simpa using hj,Bool.false_or]
theorem Mw {s o:Ad}(H:OkS s) (K:OkS o):OkS (BL s o)∧(BL s o).1=s.1∧ ∀j,mem (BL s o) j=(mem s j || (mem o j && decide (j<s.1))):=by
 have⟨a,b,c⟩:=bI (Dz o) H (SY o) λi hi=>(KO K hi).1;refine⟨a,b,λj=> ?_⟩;show mem (List.foldl H5 (s,false) (Dz o)).1 j=_;rw[c]
 have:(Dz o).contains j=mem o j:=by
  rw[Bool.eq_iff_iff,mH,E6 K]
 rw[this]
section
variable {φ:AD}{h:AE}{F:List Chk}
abbrev AT (ps:List gL) (ss:List Ad):List Chk:=List.zipWith Bd ps ss
theorem Ih:∀ {ps:List gL}{ss:List Ad}{i:Nat}{p:gL}{s:Ad},ps[i]? =some p→ss[i]? =some s→
 ∃rest,(AT ps ss).Perm (Bd p s::rest)∧ ∀p' s',(AT (ps.set i p') (ss.set i s')).Perm (Bd p' s'::rest):=by
 intro ps
 induction ps with
 |nil=>intro ss i p s h;simp at h
 |cons q ps ih=>
  intro ss i p s hp hs;cases ss with
  |nil=>simp at hs
  |cons t ss=>
   cases i with
   |zero=>
    simp only[lY,Option.some.injEq]at hp hs;subst hp hs;exact⟨AT ps ss,oB _,λp' s'=>oB _⟩
   |succ i=>
    obtain⟨rest,a,b⟩:=ih (by simpa using hp) (by simpa using hs);exact⟨Bd q t::rest,(hO _ a).trans (iR _ _ _),λp' s'=>(hO _ (b p' s')).trans (iR _ _ _)⟩
theorem Ej {ps:List gL}{ss:List Ad}{i:Nat}{p:gL}{s:Ad}(hp:ps[i]? =some p) (hs:ss[i]? =some s):
 ∃rest,(AT ps ss).Perm (Bd p s::rest)∧ ∀s',(AT ps (ss.set i s')).Perm (Bd p s'::rest):=by
 have⟨rest,a,b⟩:=Ih hp hs;refine⟨rest,a,λs'=> ?_⟩
 have:=b p s'
 have e:ps.set i p=ps:=nN λk=>by
  rw[List.getElem?_set];split
  ·rename_i h
   subst h;rw[hp];split
   ·rfl
   ·rename_i h;rw[iO (by omega)]at hp;cases hp
  ·rfl
 rwa [e]at this
theorem Kx {ps:List gL}{ss:List Ad}(hl:ps.length=ss.length) (p:gL) (s:Ad):AT (ps++ [p]) (ss++ [s])=AT ps ss++ [Bd p s]:=by
 unfold AT;rw[mS hl];rfl
def bJ:Ro Unit where
 sz:=0
 is φ cs _:=cs= [] ∧Glob φ
 len h:=by rw[h.1];rfl
 mono hs h:=⟨h.1,h.2.mono hs⟩
 plain h v hv:=by rw[h.1]at hv;cases hv
abbrev XR:Chk:=⟨jL bJ,[],()⟩
theorem H7 (s:St φ (XR::F) h):Glob φ∧St φ F h:=⟨(St.ro s).1.2,(St.ro s).2⟩
theorem O9 (g:Glob φ) (s:St φ F h):St φ (XR::F) h:=St.unro s ⟨rfl,g⟩
structure Mx where
 o:Slc
 ps:List gL
 ss:List Ad
 eq:ps.length=ss.length
abbrev My (c:Nat) (v:Mx):List Chk:=XR::⟨iG 153,[.pointer (fH c)],[.slice v.o.1 v.o.2.1 v.o.2.2]⟩::⟨iM 111 mN,[.slice v.o.1 v.o.2.1 v.o.2.2],v.ps⟩::AT v.ps v.ss
noncomputable def PA (a:List Ad) (x to:Int):Option (List Ad):=(idx a x).bind λs=>(idx a to).bind λo=>need (OkS s∧OkS o)<|DB a x (BL s o)
noncomputable def OE (a:List Ad) (l:gM):Option (List Ad):=(idx l 0).bind λb=>(forS 0 (((l.drop 1).length:Nat):Int) a λi a=>(idx (l.drop 1) i).bind λy=>PA a b y).bind λa=>forS 0 (((l.drop 1).length:Nat):Int) a λi a=>(idx (l.drop 1) i).bind λy=>(idx a b).bind λs=>(DK s).bind λs=>DB a y s
theorem Ik {α β:Type}{ps:List α}{ss:List β}(hl:ps.length=ss.length) {i:Int}{s:β}(h:idx ss i=some s):0≤i∧ss[i.toNat]? =some s∧ ∃p,ps[i.toNat]? =some p∧idx ps i=some p:=by
 have⟨a,c,b⟩:=CC h;have hlt:i.toNat<ps.length:=by omega
 exact⟨a,b,ps[i.toNat],gO hlt,by rw[Ku a hlt]⟩
theorem SZ {c:Nat}{v:Mx}{x to:Int}{s o:Ad}{p q:gL}(hs:v.ss[x.toNat]? =some s) (ho:v.ss[to.toNat]? =some o) (hp:v.ps[x.toNat]? =some p) (hq:v.ps[to.toNat]? =some q) (ks:OkS s) (ko:OkS o)
 (d:St φ (My c v++F) h):CallsH gP 94 [.pointer p,.pointer q] h (Ap λu h'=>∃(ψ:AD) (g:Bool),Sub φ ψ∧u=fR.val g∧
  ∀v':Mx,v'.o=v.o→v'.ps=v.ps→v'.ss=v.ss.set x.toNat (BL s o)→St ψ (My c v'++F) h'):=by
 have⟨g,f⟩:=H7 d;have⟨r1,a,i⟩:=Ej hp hs;have⟨j,k,_⟩:=Ej hq ho;obtain⟨B,hB⟩:∃B:List Chk,B= [⟨iG 153,[.pointer (fH c)],[.slice v.o.1 v.o.2.1 v.o.2.2]⟩,⟨iM 111 mN,[.slice v.o.1 v.o.2.1 v.o.2.2],v.ps⟩]:=⟨_,rfl⟩;have l:St φ (B++(AT v.ps v.ss++F)) h:=by rw[hB];exact f
 have mv:∀(p:gL) (s:Ad) (r:List Chk) (L:List Chk),L.Perm (Bd p s::r)→(B++(L++F)).Perm (Bd p s::(B++(r++F))):=λp s r L hL=>((kJ B (hU F hL)).trans iF);have m:=l.perm (mv p s r1 _ a);have hpm:=(mv p s r1 _ a).symm.trans (mv q o j _ k);refine(Vp g ks ko hpm m).mono ?_;rintro e h' ⟨u,rfl,ψ,gr,le,rfl,n⟩;refine⟨_,rfl,ψ,gr,le,rfl,?_⟩;rintro⟨o',ps',ss',eq'⟩ rfl rfl rfl;refine O9 (g.mono le) ?_;have b:=n.perm (mv p (BL s o) r1 _ (i _)).symm;rw[hB]at b;exact b
theorem T6 {c:Nat}{v:Mx}{x to:Int}{a':List Ad}(hd:PA v.ss x to=some a') (r:St φ (My c v++F) h):
 CallsH gP 97 [.int .i64 x,.int .i64 to,.pointer (fH c)] h (Ap λu h'=>u= .tuple #[] ∧ ∃(ψ:AD) (v':Mx),Sub φ ψ∧v'.ss=a'∧St ψ (My c v'++F) h'):=by
 unfold PA at hd;have⟨s,hs,hd⟩:=gQ.1 hd;have⟨o,ho,hd⟩:=gQ.1 hd;obtain⟨⟨ks,ko⟩,hd⟩:=CD hd;obtain⟨_,d,p,hp,hp'⟩:=Ik v.eq hs;obtain⟨_,e,q,hq,hq'⟩:=Ik v.eq ho;refine Av mixed Tryz.func97 ?_;rw[LN];unfold HJ;have a:=(H7 r).2;refine AA (b:=c) (j:=0) (x:=v.o) a rfl ?_;have⟨A1,t,f,i,r1,k⟩:=lN (a.at1) hp';refine AF _ f (Ah i ?_);obtain rfl:=r1;refine AG (x:=p) (k 0 _ rfl) rfl<|AA (b:=c) (j:=0) (x:=v.o) a rfl ?_;have⟨A2,w,l,m,y,n⟩:=lN (a.at1) hq';refine AF _ l (Ah m ?_);obtain rfl:=y;refine AG (x:=q) (n 0 _ rfl) rfl<|AK (SZ d e hp hq ks ko r) ?_;rintro _ A ⟨ψ,g,le,rfl,H⟩;refine⟨g,rfl,?_⟩;obtain⟨B,z,rfl⟩:=Dr hd;exact AC ⟨rfl,ψ,⟨v.o,v.ps,v.ss.set x.toNat (BL s o),by rw[lO];exact v.eq⟩,le,rfl,H _ rfl rfl rfl⟩
theorem T7 {c:Nat}{v:Mx}{t:Slc}{l:gM}{a':List Ad}(hd:OE v.ss l=some a') (s0:St φ (⟨iM 3 (hQ .i64),[.slice t.1 t.2.1 t.2.2],l⟩::(My c v++F)) h):
 CallsH gP 99 [.slice t.1 t.2.1 t.2.2,.pointer (fH c)] h (Ap λu h'=>u= .tuple #[] ∧ ∃(ψ:AD) (v':Mx),Sub φ ψ∧v'.ss=a'∧St ψ (My c v'++F) h'):=by
 unfold OE at hd;have⟨V,n,hd⟩:=gQ.1 hd;have⟨a1,W,hd⟩:=gQ.1 hd;obtain⟨X,Y,k0,s1⟩:=s0.freezeRow;have hlen:=k0.length;have⟨_,b2,_⟩:=CC n;have hcut:cut l 1 (t.2.1:Int)=some (l.drop 1):=by
  unfold cut;rw[gF ⟨by omega,by omega,by omega⟩,kM,hlen,nY];rfl
 have⟨q1,kt⟩:=k0.cut hcut (sz:=1) rfl;refine Av mixed Tryz.func99 ?_;rw[LO];unfold HL;refine Ah q1 ?_;have ntl:=kt.length;dsimp only at ntl;refine Ag (λ(z:Int×Unit) w (g:List Ad)=>∃(ψ:AD) (v':Mx),Sub X ψ∧v'.ss=g∧St ψ (My c v'++F) w) (g:=a1) ?_ ?_
 ·refine By W (λi (z:Int×Unit) w g=>z.1=i∧ ∃(ψ:AD) (v':Mx),Sub X ψ∧v'.ss=g∧St ψ (My c v'++F) w) ((0:Int),()) rfl ⟨rfl,X,v,jB _,rfl,s1⟩ ?_ ?_
  ·rintro i z w g e ⟨hz,ψ,v',le,hal,st⟩ he h0 hlt hw;subst hz;subst hal;refine Ac (by rw[ntl];exact gC hlt) ?_;have⟨y,hy,he⟩:=gQ.1 he;obtain⟨A1,Z,r,A,r1,C⟩:=(kt.mono le).get hy;refine AF _ r (Ah A ?_);obtain rfl:=r1;refine AG (x:=y) (Ao st.sub (C 0 _ rfl)) rfl ?_;unfold PA at he;have⟨s,hs,he⟩:=gQ.1 he;have⟨o,ho,he⟩:=gQ.1 he;obtain⟨⟨ks,ko⟩,he⟩:=CD he;obtain⟨_,D,p,hp,hp'⟩:=Ik v'.eq hs;obtain⟨_,a0,q,hq,hq'⟩:=Ik v'.eq ho;have a:=(H7 st).2;refine AA (b:=c) (j:=0) (x:=v'.o) a rfl ?_;obtain⟨A0,a2,E,G,r0,I⟩:=(k0.mono le).get n;refine AF _ E (Ah G ?_);obtain rfl:=r0;refine AG (x:=V) (Ao st.sub (I 0 _ rfl)) rfl ?_;have⟨A2,a3,J,K,r2,L⟩:=lN (a.at1) hp';refine AF _ J (Ah K ?_);obtain rfl:=r2;refine AG (x:=p) (L 0 _ rfl) rfl<|AA (b:=c) (j:=0) (x:=v'.o) a rfl ?_;have⟨A3,b3,a4,a5,r3,a6⟩:=lN (a.at1) hq';refine AF _ a4 (Ah a5 ?_);obtain rfl:=r3;refine AG (x:=q) (a6 0 _ rfl) rfl<|AK (SZ D a0 hp hq ks ko st) ?_;rintro _ h1 ⟨m,g2,d,rfl,H⟩;refine⟨g2,rfl,?_⟩;obtain⟨b4,b5,rfl⟩:=Dr he;exact AZ (gR .i64 (z.1+(1:Int)),()) _ rfl rfl ⟨hw,m,⟨v'.o,v'.ps,v'.ss.set V.toNat (BL s o),by rw[lO];exact v'.eq⟩,le.trans d,rfl,H _ rfl rfl rfl⟩
  ·rintro i z w ⟨hz,H⟩ hge;subst hz;refine AU (by rw[ntl];exact gB (kO.2 hge))<|AI (AL (z.1,()) rfl H)
 ·rintro _ h2 ⟨ψ1,v1,P,rfl,a⟩;refine Ah q1<|Ag (λ(z:Int×Unit) w (g:List Ad)=>∃(ψ:AD) (v':Mx),Sub ψ1 ψ∧v'.ss=g∧St ψ (My c v'++F) w) (g:=a') ?_ ?_
  ·refine By hd (λi (z:Int×Unit) w g=>z.1=i∧ ∃(ψ:AD) (v':Mx),Sub ψ1 ψ∧v'.ss=g∧St ψ (My c v'++F) w) ((0:Int),()) rfl ⟨rfl,ψ1,v1,jB _,rfl,a⟩ ?_ ?_
   ·rintro i z w g e ⟨hz,ψ,v',le',hal,st⟩ he h0 hlt hw;have le:=P.trans le';subst hz;subst hal;refine Ac (by rw[ntl];exact gC hlt) ?_;have⟨y,hy,he⟩:=gQ.1 he;obtain⟨A1,Z,r,A,r1,C⟩:=(kt.mono le).get hy;refine AF _ r (Ah A ?_);obtain rfl:=r1;refine AG (x:=y) (Ao st.sub (C 0 _ rfl)) rfl ?_;have⟨s,hs,he⟩:=gQ.1 he;obtain⟨s',hs',he⟩:=gQ.1 he;obtain⟨_,D,p,hp,hp'⟩:=Ik v'.eq hs;have⟨g0,k⟩:=H7 st;refine AA (b:=c) (j:=0) (x:=v'.o) k rfl<|AA (b:=c) (j:=0) (x:=v'.o) k rfl ?_;obtain⟨A0,a2,E,G,r0,I⟩:=(k0.mono le).get n;refine AF _ E (Ah G ?_);obtain rfl:=r0;refine AG (x:=V) (Ao st.sub (I 0 _ rfl)) rfl ?_;have⟨A2,a3,J,K,r2,L⟩:=lN (k.at1) hp';refine AF _ J (Ah K ?_);obtain rfl:=r2;refine AG (x:=p) (L 0 _ rfl) rfl ?_;obtain⟨rr,a7,b6⟩:=Ej hp D;obtain⟨B,hB⟩:∃B:List Chk,B= [⟨iG 153,[.pointer (fH c)],[.slice v'.o.1 v'.o.2.1 v'.o.2.2]⟩,⟨iM 111 mN,[.slice v'.o.1 v'.o.2.1 v'.o.2.2],v'.ps⟩]:=⟨_,rfl⟩;have M:St ψ (B++(AT v'.ps v'.ss++F)) w:=by rw[hB];exact k
    have mv:(B++(AT v'.ps v'.ss++F)).Perm (Bd p s::(B++(rr++F))):=(kJ B (hU F a7)).trans iF;refine AK (LQ (M.perm mv) hs') ?_;rintro _ h3 ⟨m,f,O,d,rfl,rfl,a8⟩;refine⟨f,rfl,?_⟩;have Q:St m (Bd f O::(B++(AT v'.ps v'.ss++F))) h3:=a8.perm (hO _ mv.symm);have N:St m (⟨iG 153,[.pointer (fH c)],[.slice v'.o.1 v'.o.2.1 v'.o.2.2]⟩::⟨iM 111 mN,[.slice v'.o.1 v'.o.2.1 v'.o.2.2],v'.ps⟩::Bd f O::(AT v'.ps v'.ss++F)) h3:=by
     rw[hB]at Q;exact Q.perm ((iR _ _ _).trans (hO _ (iR _ _ _)))
    refine AN (N.cell rfl) ?_;obtain⟨y0,y1,rfl⟩:=Dr he;have hyl:y.toNat<v'.ps.length:=by have:=v'.eq;omega
    have hset:DB v'.ps y f=some (v'.ps.set y.toNat f):=by unfold DB;rw[gF ⟨y0,by have:=v'.eq;omega⟩]
    have⟨A4,R,q4⟩:=oI (N.at1) hset;refine AF _ R (Ah q4 (Ef (N.at1) hset (v:=.pointer f) rfl R ?_));intro h4 a9;have hyp:v'.ps[y.toNat]? =some v'.ps[y.toNat]:=gO hyl;have hys:v'.ss[y.toNat]? =some (v'.ss[y.toNat]'(by have:=v'.eq;omega)):=gO _;have⟨r3,c1,c2⟩:=Ih hyp hys;refine AZ (gR .i64 (z.1+(1:Int)),()) _ rfl rfl ⟨hw,m,⟨v'.o,v'.ps.set y.toNat f,v'.ss.set y.toNat O,by rw[lO,lO];exact v'.eq⟩,le'.trans d,rfl,?_⟩;refine O9 (g0.mono d) ?_;have b0:St m (Bd f O::(AT v'.ps v'.ss++(⟨iG 153,[.pointer (fH c)],[.slice v'.o.1 v'.o.2.1 v'.o.2.2]⟩::⟨iM 111 mN,[.slice v'.o.1 v'.o.2.1 v'.o.2.2],v'.ps.set y.toNat f⟩::F))) h4:=by
     refine a9.perm<|((hO _ (iR _ _ _)).trans (iR _ _ _)).trans (hO _ ?_);refine(lP ?_ (iF (l₁:=AT v'.ps v'.ss)).symm);refine(lP (iR _ _ _) (hO _ ?_));exact(iF (l₁:=AT v'.ps v'.ss)).symm
    have b1:=b0.perm (hO _ (hU _ c1));have S:=(b1.at 1).tail;have T:=S.perm (((hU _ (c2 f O)).symm:(Bd f O::r3++_).Perm _));refine T.perm<|(iF (l₁:=AT _ _)).trans (hO _ (iF (l₁:=AT _ _)))
   ·rintro i z w ⟨hz,H⟩ hge;subst hz;refine AU (by rw[ntl];exact gB (kO.2 hge))<|AI (AL (z.1,()) rfl H)
  ·rintro _ h3 ⟨m,v2,d,U,M⟩;exact AC ⟨rfl,m,v2,(Y.trans P).trans d,U,M⟩
end
theorem St.box {φ:AD}{h:AE}{Γ:List Chk}{ty:TypeId}{b:Nat}{v:Value}(H:St φ (⟨iG ty,[.pointer (fH b)],[v]⟩::Γ) h):∃ψ,Sub φ ψ∧EB ψ ⟨b,0,none⟩=some v∧St ψ Γ h:=by
 obtain⟨ψ,F,le,⟨b',e,hb,hF⟩,hk,s⟩:=St.hide H;cases e;refine⟨ψ,le,?_,s⟩
 have:=hk b ((hF b).2 rfl)
 unfold EB;dsimp only;rw[this,hb];rfl
noncomputable def aC (vl vp:Value) (a:gL) (b c:Nat) (f:Int):T:=dZ #[.slice a b c] 102 λr1=>dZ #[fL f] 3 λg=>dZ #[vl] 188 λr3=>dZ #[vp] 174 λo=>eL g 0 λt5=>jX (kW 30 (fL t5) (fL t5)) fP λh=>dZ #[fM] 30 λi=>eI i 0 (.slice h.1 h.2.1 h.2.2)<|dZ #[fM] 30 λp=>dZ #[.nilFunc] 210 λj=>eI j 0 (.func (.func 119) #[] #[fN (fH p),fN (fH i),fN (fH r1),fN (fH g),fN (fH j),fN (fH r3),fN (fH o)])<|eL g 0 λk=>iW 0 fW (jQ fW [fL 0] λd=>cond (decide (d.1<k)) (dX i 0 λe=>deref e.1 λl=>chk (0≤d.1∧d.1< (e.2.1:Nat))<|eH l d.1 1 λm=>jR [] (cond (m==(0:Int)) (nZ .func ⟨j,0,none⟩ λn=>Ju false gP (BX.val .func n) #[fL d.1] λq=>iB []) (iB [])) λr=>iB [fL (gR .i64 (d.1+(1:Int)))]) (kD 0 [fL d.1])) λs=>jI (.tuple #[])
theorem cj:QO gP 30 3 (.int .i64 0):=⟨nI,⟨Tryz.t3,by kernel_rfl,rfl,⟨_,rfl,rfl⟩,by decide⟩⟩
section
variable {X A:Type}(K:X→List Chk) (al:X→A) (ledA:A→Int→Int→Option A) (partA:A→gM→Option A) (gl gp:Nat) (bl bp:Array Value)
theorem XS {φ:AD}{h:AE}{F:List Chk}{ll:List gM}{n:Int}{t:Slc}{fuel:Nat}{v:X}{st':Dk A}(hl:XO K al ledA gl bl) (hp:T4 K al partA gp bp) (cl:Ew gl) (cp:Ew gp)
 (hden:Ab gP Tryz.f98 [.slice t.1 t.2.1 t.2.2,.int .i64 n,.func (.func gl) #[] bl,.func (.func gp) #[] bp] =aC (.func (.func gl) #[] bl) (.func (.func gp) #[] bp) t.1 t.2.1 t.2.2 n)
 (k:Ro.SliceIs (lR (hQ .i64)) φ t ll) (hd:QR ll n ledA partA fuel (al v)=some st') (s0:St φ (K v++F) h):
 CallsH gP 98 [.slice t.1 t.2.1 t.2.2,.int .i64 n,.func (.func gl) #[] bl,.func (.func gp) #[] bp] h (Ap λu h'=>u= .tuple #[] ∧ ∃(ψ:AD) (v':X),Sub φ ψ∧al v'=st'.2.2∧St ψ (K v'++F) h'):=by
 refine Av mixed Tryz.func98 ?_;rw[hden];unfold aC;unfold QR at hd;obtain⟨⟨G,I⟩,hd⟩:=CD hd;refine AV (vs:=[.slice t.1 t.2.1 t.2.2]) s0 ?_;intro r1 h1 J;have⟨φ1,L,c1,J⟩:=St.box J;refine AV (vs:=[.int .i64 n]) J ?_;intro M h2 N;have⟨φ2,d,c2,N⟩:=St.box N;refine AV (vs:=[.func (.func gl) #[] bl]) N ?_;intro r3 h3 O;have⟨φ3,f,c3,O⟩:=St.box O;refine AV (vs:=[.func (.func gp) #[] bp]) O ?_;intro P h4 D;have⟨φ4,a,c4,D⟩:=St.box D;refine AG (x:=n) (Ao D.sub (Ao (f.trans a) c2)) rfl<|Er (r:=hQ .i64) (x:=(0:Int)) (l:=lS n.toNat 0) cj D rfl rfl (by unfold Dh;rw[gF ⟨G,I⟩]) ?_;intro o h5 s5;refine AV (vs:=[.slice none 0 0]) s5 ?_;intro m h6 s6;refine Cf (b:=m) (j:=0) (v:=.slice o.1 o.2.1 o.2.2) s6 rfl (jN 0) ?_;intro h7 s7;refine AV (vs:=[.slice none 0 0]) s7 ?_;intro p h8 s8;refine AV (vs:=[.nilFunc]) s8 ?_;intro E h9 s9;refine Cf (b:=E) (j:=0) (v:=.func (.func 119) #[] (Ga p m r1 M E r3 P)) s9 rfl (jN 0) ?_;intro Q R;have⟨q,c,c9,S⟩:=St.box R;have B:O8 gl gp bl bp q t n p m r1 M E r3 P:=⟨Ao (((d.trans f).trans a).trans c) c1,Ao ((f.trans a).trans c) c2,c9,Ao (a.trans c) c3,Ao c c4⟩;have s:Sub φ q:=(((L.trans d).trans f).trans a).trans c;have y:St q (Gp p m (none,0,0) o [] (lS n.toNat 0) ++(K v++F)) Q:=by
  have:=oJ 3 (hQ .i64) S
  exact this.at1
 refine AG (x:=n) (Ao y.sub B.num) rfl<|Ag (λ(z:Int×Unit) w g=>QW K al p m o F q w g) (g:=st') ?_ ?_
 ·refine By hd (λi (z:Int×Unit) w g=>z.1=i∧QW K al p m o F q w g) ((0:Int),()) rfl ⟨rfl,q,v,(none,0,0),jB _,rfl,y⟩ ?_ ?_
  ·rintro i z w g e ⟨hz,ψ,v',s'',le,hal,st⟩ he h0 hlt hw;subst hz;refine Ac (gC hlt) ?_;have⟨e0,T,he⟩:=gQ.1 he;refine AA (b:=m) (j:=0) (x:=o) st.at2 rfl ?_;have⟨A2,a0,U,V,q2,W⟩:=lN (st.at3) T;refine AF _ U (Ah V ?_);obtain rfl:=q2;refine AG (x:=e0) (W 0 _ rfl) rfl<|Aa (λ(_:Unit) w g=>QW K al p m o F q w g) (g:=e) ?_ ?_
   ·refine AH he rfl (λ_ hg=> ?_) (λ_ hg=> ?_)
    ·refine AG (x:=some (.func 119,#[],Ga p m r1 M E r3 P)) (Ao st.sub (Ao le B.visit)) rfl ?_;obtain⟨a1,a2,a3⟩:=e;obtain⟨a4,a5,a6⟩:=g;dsimp only at hal;subst hal;refine Ew.call SW (SX K al ledA partA gl gp bl bp hl hp cl cp fuel (O8.mono gl gp bl bp B le) (k.mono (s.trans le)) hg st) ?_ (λ_ _ hS=>hS.1);rintro h6 ⟨_,ψ2,v2,Y,d,C,Z⟩;exact AO () rfl ⟨ψ2,v2,Y,le.trans d,C,Z⟩
    ·obtain rfl:=Option.some.inj hg;exact AO () rfl ⟨ψ,v',s'',le,hal,st⟩
   ·rintro _ h6 H;exact AZ (gR .i64 (z.1+(1:Int)),()) _ rfl rfl ⟨hw,H⟩
  ·rintro i z w ⟨hz,H⟩ hge;subst hz;refine AU (gB (kO.2 hge))<|AI (AL (z.1,()) rfl H)
 ·rintro z a7 ⟨ψ,v',s'',le,hal,st⟩;exact AC ⟨rfl,ψ,v',s.trans le,hal,st.tail.tail.tail.tail⟩
end
theorem XT:Ew 97:=⟨Tryz.f97,Tryz.func97,by decide,by kernel_rfl,by kernel_rfl⟩
theorem XU:Ew 99:=⟨Tryz.f99,Tryz.func99,by decide,by kernel_rfl,by kernel_rfl⟩
theorem Vq {φ:AD}{h:AE}{F:List Chk}{ll:List gM}{n:Int}{t:Slc}{fuel:Nat}{c:Nat}{v:Mx}{st':Dk (List Ad)}(k:Ro.SliceIs (lR (hQ .i64)) φ t ll) (hd:QR ll n PA OE fuel v.ss=some st') (a:St φ (My c v++F) h):
 CallsH gP 98 [.slice t.1 t.2.1 t.2.2,.int .i64 n,.func (.func 97) #[] #[.pointer (fH c)],.func (.func 99) #[] #[.pointer (fH c)]] h (Ap λu h'=>u= .tuple #[] ∧ ∃(ψ:AD) (v':Mx),Sub φ ψ∧v'.ss=st'.2.2∧St ψ (My c v'++F) h'):=
 XS (My c) Mx.ss PA OE 97 99 #[.pointer (fH c)] #[.pointer (fH c)] (λhd s=>T6 hd s) (λhd s=>T7 hd s) XT XU (ML _ _ _ _ _ _) k hd a
end Go.Proofs.YtkfgeafgfeppfaaGreatDoor.Dg
namespace Go.Proofs.YtkfgeafgfeppfaaGreatDoor
open Go Go.Eng
noncomputable def MQ (s_0:C8):Option Int:=some (s_0.1)
theorem F9 {φ:AD}{h:AE}{F:List Chk}{s_0:gL}{a:C8}(c:St φ (cO 199 EW s_0 a::F) h) {r:Int}(hd:MQ a=some r):
 CallsH gP 96 [(.pointer s_0)] h (Ap λv h'=>∃ψ:AD,∃y:Int,Sub φ ψ∧v=fQ.val y∧y=r∧St ψ (cO 199 EW s_0 a::F) h'):=by
 refine AY mixed Tryz.func96 (KF ..) ?_;obtain⟨d,e,rfl,b⟩:=Mh c;refine AF _ rfl<|AA (x:=(a.1)) b.at1 rfl ?_;obtain rfl:=iS hd;exact AC ⟨φ,(a.1),sb,rfl,rfl,(IW (x0:=(a.1)) b.at1.at1)⟩
end Go.Proofs.YtkfgeafgfeppfaaGreatDoor
namespace Go.Proofs.YtkfgeafgfeppfaaGreatDoor.Dg
open Go Go.Eng
section
variable {φ:AD}{h:AE}{F:List Chk}
theorem QY:Fv gP 153 153 111 1:=⟨mX,.inl mX,⟨Tryz.t111,by kernel_rfl,rfl,⟨_,rfl,rfl⟩,by decide,by decide⟩,by decide⟩
theorem Uz:Fv gP 102 102 30 1:=⟨mY,.inl mY,⟨Tryz.t30,by kernel_rfl,rfl,⟨_,rfl,rfl⟩,by decide,by decide⟩,by decide⟩
abbrev FB (t:Slc) (ps:List gL):Chk:=⟨iM 111 mN,[.slice t.1 t.2.1 t.2.2],ps⟩
abbrev T8 (t:Slc) (ls:List gM):Chk:=⟨iM 30 (lR (hQ .i64)),[.slice t.1 t.2.1 t.2.2],ls⟩
theorem Gq {α β:Type}{l l':List α}{x:α}(h:app l [x] =some l') {m:List β}(hm:m.length=l.length) (y:β):app m [y] =some (m++ [y])∧l'=l++ [x]:=by
 have⟨a,b⟩:=Hp h;refine⟨?_,b⟩;unfold app;simp at a ⊢;omega
theorem PB {ps:List gL}{ss:List Ad}{t:Slc}{p:gL}{s:Ad}(hl:ps.length=ss.length) (H:St φ (FB t (ps++ [p])::Bd p s::(AT ps ss++F)) h):St φ (FB t (ps++ [p])::(AT (ps++ [p]) (ss++ [s]) ++F)) h:=by
 rw[Kx hl,gT];exact H.perm (hO _ (iF (l₁:=AT ps ss)).symm)
theorem Gs {ps:List gL}{ss:List Ad}{i:Nat}{p:gL}{s:Ad}(hp:ps[i]? =some p) (hs:ss[i]? =some s) (H:St φ (AT ps ss++F) h):
 ∃r,St φ (Bd p s::(r++F)) h∧ ∀(ψ:AD) (h':AE) (Γ:List Chk),St ψ (Γ++Bd p s::(r++F)) h'→St ψ (Γ++(AT ps ss++F)) h':=by
 have⟨r,a,_⟩:=Ej hp hs;exact⟨r,H.perm (hU F a),λψ h' Γ H'=>H'.perm (kJ Γ (hU F a).symm)⟩
theorem aD (A B C:List Chk):(A++(B++C)).Perm (B++(A++C)):=by
 rw[←gT,←gT];exact hU _ iA
theorem Mz {p:gL}{s:Ad}(gk:Glob φ) (b:St φ (Bd p s::F) h) {r:gM}(hd:JM s=some r):
 CallsH gP 39 [.pointer p] h (Ap λv h'=>∃(ψ:AD) (y:Slc),Sub φ ψ∧v=fP.val y∧Ro.SliceIs (hQ .i64) ψ y r∧St ψ (Bd p s::F) h'):=by
 refine(XJ gk b hd).mono ?_;rintro e h' ⟨v,rfl,ψ,y,l,le,rfl,rfl,c⟩;obtain⟨d,a,f,g⟩:=c.freezeRow;exact⟨_,rfl,d,y,le.trans a,rfl,f,g⟩
noncomputable def Hf (ll:List gM) (B:List Ad):Option (List Ad):=(forS 0 (B.length:Int) 0 λi w=>(idx B i).bind λs=>some (if s.1>w then s.1 else w)).bind λwide=>(forS 0 (B.length:Int) ([]:List Ad) λi acc=>(idx B i).bind λs=>(JM s).bind λl=>(DJ wide l).bind λs'=>app acc [s']).bind λall=>(QR ll (B.length:Int) PA OE B.length all).bind λst=>forS 0 (B.length:Int) ([]:List Ad) λi acc=>(idx B i).bind λs=>(idx st.2.2 i).bind λa=>(JM a).bind λl=>(DJ s.1 l).bind λs'=>app acc [s']
theorem QZ {t b:Slc}{ll:List gM}{B:List Ad}{ps:List gL}(gk:Glob φ) (k:Ro.SliceIs (lR (hQ .i64)) φ t ll) (kb:Ro.SliceIs mN φ b ps) (hl:ps.length=B.length) (s0:St φ (AT ps B++F) h) {r:List Ad}(hd:Hf ll B=some r):
 CallsH gP 67 [.slice t.1 t.2.1 t.2.2,.slice b.1 b.2.1 b.2.2] h (Ap λv h'=>∃(ψ:AD) (y:Slc) (qs:List gL),Sub φ ψ∧v=fP.val y∧qs.length=r.length∧St ψ (FB y qs::(AT qs r++(AT ps B++F))) h'):=by
 refine Av mixed Tryz.func67 ?_;rw[Mn];unfold JL;unfold Hf at hd;have⟨wide,a7,X⟩:=gQ.1 hd;clear hd;have⟨all,R,Y⟩:=gQ.1 X;clear X;obtain⟨st',Z,a8⟩:=gQ.1 Y;clear Y;have nb:b.2.1=B.length:=kb.length.trans hl;refine Ag (λ(z:Int×Int×Unit) w (g:Int)=>z.2.1=g∧ ∃ψ,Sub φ ψ∧St ψ (AT ps B++F) w) (g:=wide) ?_ ?_
 ·refine By a7 (λi (z:Int×Int×Unit) w (g:Int)=>z.1=i∧z.2.1=g∧ ∃ψ,Sub φ ψ∧St ψ (AT ps B++F) w) ((0:Int),(0:Int),()) rfl ⟨rfl,rfl,φ,jB _,s0⟩ ?_ ?_
  ·rintro i z w g e ⟨hz,hg,ψ,le,st⟩ he h0 hlt hw;subst hz;subst hg;refine Ac (by rw[nb];exact gC hlt) ?_;have⟨s,hs,he⟩:=gQ.1 he;obtain rfl:=Option.some.inj he;obtain⟨_,n,p,hp,hp'⟩:=Ik hl hs;obtain⟨A1,a0,u,A,r1,C⟩:=(kb.mono le).get hp';refine AF _ u (Ah A ?_);obtain rfl:=r1;refine AG (x:=p) (Ao st.sub (C 0 _ rfl)) rfl ?_;have⟨rr,q1,q2⟩:=Gs hp n st;refine AK (F9 q1 (r:=s.1) rfl) ?_;rintro _ P ⟨ψ1,y,S,rfl,rfl,f⟩;refine⟨s.1,rfl,?_⟩;exact AZ (gR .i64 (z.1+(1:Int)),(if s.1>z.2.1 then s.1 else z.2.1),()) _ rfl rfl ⟨hw,rfl,ψ1,le.trans S,q2 ψ1 P [] f⟩
  ·rintro i z w ⟨hz,H⟩ hge;subst hz;refine AU (by rw[nb];exact gB (kO.2 hge))<|AI (AL z rfl H)
 ·rintro z1 P ⟨rfl,ψ1,S,s1⟩;refine AV (vs:=[.slice none 0 0]) s1 ?_;intro d D s2;refine Ag (λ(z:Int×Unit) w (g:List Ad)=>∃(ψ:AD) (o:Slc) (qs:List gL),Sub φ ψ∧qs.length=g.length∧St ψ (⟨iG 153,[.pointer (fH d)],[.slice o.1 o.2.1 o.2.2]⟩::FB o qs::(AT qs g++(AT ps B++F))) w) (g:=all) ?_ ?_
  ·refine By R (λi (z:Int×Unit) w (g:List Ad)=>z.1=i∧ ∃(ψ:AD) (o:Slc) (qs:List gL),Sub φ ψ∧qs.length=g.length∧St ψ (⟨iG 153,[.pointer (fH d)],[.slice o.1 o.2.1 o.2.2]⟩::FB o qs::(AT qs g++(AT ps B++F))) w) ((0:Int),()) rfl ⟨rfl,ψ1,(none,0,0),[],S,rfl,(oJ 111 mN s2).at1⟩ ?_ ?_
   ·rintro i z w g e ⟨hz,ψ,o,qs,le,hlq,st⟩ he h0 hlt hw;subst hz;refine Ac (by rw[nb];exact gC hlt) ?_;have⟨s,hs,he⟩:=gQ.1 he;have⟨l,hls,he⟩:=gQ.1 he;obtain⟨s',hs',he⟩:=gQ.1 he;obtain⟨_,n,p,hp,hp'⟩:=Ik hl hs;obtain⟨A1,a0,u,A,r1,C⟩:=(kb.mono le).get hp';refine AF _ u (Ah A ?_);obtain rfl:=r1;refine AG (x:=p) (Ao st.sub (C 0 _ rfl)) rfl<|AA (b:=d) (j:=0) (x:=o) st rfl ?_;obtain⟨Γ,hΓ⟩:∃Γ:List Chk,Γ=(⟨iG 153,[.pointer (fH d)],[.slice o.1 o.2.1 o.2.2]⟩::FB o qs::AT qs g):=⟨_,rfl⟩;have f:St ψ (AT ps B++(Γ++F)) w:=by
     have:St ψ (Γ++(AT ps B++F)) w:=by rw[hΓ];exact st
     refine this.perm ?_;rw[←gT,←gT];exact hU F iA
    have⟨rr,q1,q2⟩:=Gs hp n f;refine AK (Mz (gk.mono le) q1 hls) ?_;rintro _ h3 ⟨ψ2,y,E,rfl,k2,T⟩;refine⟨y,rfl,?_⟩;have back:∀ {ψ:AD} {h':AE} (Δ:List Chk),St ψ (Δ++(AT ps B++(Γ++F))) h'→St ψ (⟨iG 153,[.pointer (fH d)],[.slice o.1 o.2.1 o.2.2]⟩::FB o qs::(Δ++(AT qs g++(AT ps B++F)))) h':=λ{ψ h'} Δ H=>by
     rw[hΓ]at H;refine H.perm<|lP (l₂:=Δ++((⟨iG 153,[.pointer (fH d)],[.slice o.1 o.2.1 o.2.2]⟩::FB o qs::AT qs g) ++(AT ps B++F))) (kJ Δ ?_) ?_
     ·rw[←gT,←gT];exact hU _ iA
     ·exact(iF (l₁:=Δ)).trans (hO _ (iF (l₁:=Δ)))
    have K:=back [] (q2 ψ2 h3 [] T);refine AN (K.cell rfl)<|AK (Ei k2 K hs') ?_;rintro _ h4 ⟨ψ3,p',l3,U,rfl,rfl,m⟩;refine⟨p',rfl,?_⟩;refine AN (m.at1.cell rfl)<|AV (vs:=[.pointer p']) m ?_;intro b9 G I;have cw:=lM I;refine AN (I.at2.cell rfl) ?_;obtain⟨hap,rfl⟩:=Gq he hlq p';refine AX (r:=mN) (ms:=[p']) QY (I.tail.at2) rfl cw (.cons (a:=[_]) rfl .nil) rfl hap ?_;intro N V W;refine Cf (b:=d) (j:=0) (v:=.slice N.1 N.2.1 N.2.2) (W.at2) rfl (jN 0) ?_;intro h7 O;exact AZ (gR .i64 (z.1+(1:Int)),()) _ rfl rfl ⟨hw,ψ3,N,qs++ [p'],(le.trans E).trans U,by simp[hlq],(PB hlq (O.tail) |>λH=>by
     rw[Kx hlq,gT];refine O.perm (hO _ (hO _ ?_));exact(iF (l₁:=AT qs g)).symm)⟩
   ·rintro i z w ⟨hz,H⟩ hge;subst hz;refine AU (by rw[nb];exact gB (kO.2 hge))<|AI (AL z rfl H)
  ·rintro z7 h3 ⟨ψ2,o,qs,E,hlq,s3⟩;rw[←nb]at Z;have s4:St ψ2 (My d ⟨o,qs,all,hlq⟩ ++(AT ps B++F)) h3:=O9 (gk.mono E) s3;refine AK (Vq (v:=⟨o,qs,all,hlq⟩) (k.mono E) Z s4) ?_;rintro _ h4 ⟨rfl,ψ3,v',U,hal,s5⟩;refine⟨(),rfl,?_⟩;obtain⟨o',qs',all',hlq'⟩:=v';dsimp only at hal s5;subst hal;have⟨a9,s6⟩:=H7 s5;have Q:=E.trans U;refine Ag (λ(z:Int×Slc×Unit) w (g:List Ad)=>∃(ψ:AD) (us:List gL),Sub ψ3 ψ∧us.length=g.length∧St ψ (FB z.2.1 us::(AT us g++(⟨iG 153,[.pointer (fH d)],[.slice o'.1 o'.2.1 o'.2.2]⟩::FB o' qs'::(AT qs' st'.2.2++(AT ps B++F))))) w) (g:=r) ?_ ?_
   ·refine By a8 (λi (z:Int×Slc×Unit) w (g:List Ad)=>z.1=i∧ ∃(ψ:AD) (us:List gL),Sub ψ3 ψ∧us.length=g.length∧St ψ (FB z.2.1 us::(AT us g++(⟨iG 153,[.pointer (fH d)],[.slice o'.1 o'.2.1 o'.2.2]⟩::FB o' qs'::(AT qs' st'.2.2++(AT ps B++F))))) w) ((0:Int),((none,0,0):Slc),()) rfl ⟨rfl,ψ3,[],jB _,rfl,oJ _ _ s6⟩ ?_ ?_
    ·rintro i z w g e ⟨hz,ψ,us,le,hlu,st⟩ he h0 hlt hw;subst hz;refine Ac (by rw[nb];exact gC hlt) ?_;have⟨s,hs,he⟩:=gQ.1 he;have⟨a,ha,he⟩:=gQ.1 he;have⟨l,hls,he⟩:=gQ.1 he;obtain⟨s',hs',he⟩:=gQ.1 he;obtain⟨_,n,p,hp,hp'⟩:=Ik hl hs;obtain⟨_,R,q,hq,hq'⟩:=Ik hlq' ha;obtain⟨A1,a0,u,A,r1,C⟩:=(kb.mono (Q.trans le)).get hp';refine AF _ u (Ah A ?_);obtain rfl:=r1;refine AG (x:=p) (Ao st.sub (C 0 _ rfl)) rfl ?_;obtain⟨X1,J⟩:∃X1:List Chk,X1=FB z.2.1 us::AT us g:=⟨_,rfl⟩;have f:St ψ (⟨iG 153,[.pointer (fH d)],[.slice o'.1 o'.2.1 o'.2.2]⟩::FB o' qs'::(AT qs' st'.2.2++(AT ps B++(F++X1)))) w:=by
      have:St ψ (X1++(⟨iG 153,[.pointer (fH d)],[.slice o'.1 o'.2.1 o'.2.2]⟩::FB o' qs'::(AT qs' st'.2.2++(AT ps B++F)))) w:=by rw[J];exact st
      have D:=this.perm iA;simp only[iY,gT]at D;exact D
     refine AA (b:=d) (j:=0) (x:=o') f rfl ?_;have⟨A2,c0,a1,b0,r2,b1⟩:=lN (f.at1) hq';refine AF _ a1 (Ah b0 ?_);obtain rfl:=r2;refine AG (x:=q) (b1 0 _ rfl) rfl ?_;obtain⟨Y1,a2⟩:∃Y1:List Chk,Y1=(⟨iG 153,[.pointer (fH d)],[.slice o'.1 o'.2.1 o'.2.2]⟩::FB o' qs'::AT qs' st'.2.2):=⟨_,rfl⟩;have T:St ψ (AT ps B++(Y1++(F++X1))) w:=by
      have:St ψ (Y1++(AT ps B++(F++X1))) w:=by rw[a2];exact f
      exact this.perm (aD _ _ _)
     have⟨rr,q1,q2⟩:=Gs hp n T;refine AK (F9 q1 (r:=s.1) rfl) ?_;rintro _ G ⟨ψ4,y4,a3,rfl,rfl,K⟩;refine⟨s.1,rfl,?_⟩;have m:St ψ4 (⟨iG 153,[.pointer (fH d)],[.slice o'.1 o'.2.1 o'.2.2]⟩::FB o' qs'::(AT qs' st'.2.2++(AT ps B++(F++X1)))) G:=by
      have P:=q2 ψ4 G [] K;have D:St ψ4 (Y1++(AT ps B++(F++X1))) G:=by
       exact St.perm P (aD (AT ps B) Y1 (F++X1))
      rw[a2]at D;exact D
     obtain⟨A3,c1,b2,c2,rfl,b3⟩:=lN (m.at1) hq';have b4:A3=A2:=Option.some.inj (b2.symm.trans a1);subst b4;refine AN (b3 0 _ rfl) (AN (m.cell rfl) ?_);obtain⟨Z1,a4⟩:∃Z1:List Chk,Z1= [(⟨iG 153,[.pointer (fH d)],[.slice o'.1 o'.2.1 o'.2.2]⟩:Chk),FB o' qs']:=⟨_,rfl⟩;have I:St ψ4 (AT qs' st'.2.2++(Z1++(AT ps B++(F++X1)))) G:=by
      have:St ψ4 (Z1++(AT qs' st'.2.2++(AT ps B++(F++X1)))) G:=by rw[a4];exact m
      refine this.perm ?_;rw[←gT,←gT (AT qs' st'.2.2)];exact hU _ iA
     have⟨c3,w1,w2⟩:=Gs hq R I;refine AK (Mz (a9.mono (le.trans a3)) w1 hls) ?_;rintro _ V ⟨ψ5,y5,b5,rfl,k5,W⟩;refine⟨y5,rfl,?_⟩;have O:St ψ5 (FB z.2.1 us::(AT us g++(⟨iG 153,[.pointer (fH d)],[.slice o'.1 o'.2.1 o'.2.2]⟩::FB o' qs'::(AT qs' st'.2.2++(AT ps B++F))))) V:=by
      have P:=w2 ψ5 V [] W;have D:St ψ5 (X1++(Z1++(AT qs' st'.2.2++(AT ps B++F)))) V:=by
       refine St.perm P ?_;show(AT qs' st'.2.2++(Z1++(AT ps B++(F++X1)))).Perm _;refine lP ?_ (iA (l₁:=Z1++(AT qs' st'.2.2++(AT ps B++F))) (l₂:=X1));simp only[gT];rw[←gT,←gT Z1];exact hU _ iA
      rw[J,a4]at D;exact D
     refine AK (Ei k5 O hs') ?_;rintro _ h7 ⟨ψ6,p',l3,b6,rfl,rfl,b7⟩;refine⟨p',rfl,?_⟩;refine AV (vs:=[.pointer p']) b7 ?_;intro c4 h8 a5;have cw:=lM a5;obtain⟨hap,rfl⟩:=Gq he hlu p';refine AX (r:=mN) (ms:=[p']) QY (a5.tail.at1) rfl cw (.cons (a:=[_]) rfl .nil) rfl hap ?_;intro b8 h9 a6;exact AZ (gR .i64 (z.1+(1:Int)),b8,()) _ rfl rfl ⟨hw,ψ6,us++ [p'],((le.trans a3).trans b5).trans b6,by simp[hlu],PB hlu a6⟩
    ·rintro i z w ⟨hz,H⟩ hge;subst hz;refine AU (by rw[nb];exact gB (kO.2 hge))<|AI (AL z rfl H)
   ·rintro z G ⟨ψ,us,le,hlu,st⟩;refine AC ⟨ψ,z.2.1,us,Q.trans le,rfl,hlu,?_⟩;obtain⟨X1,J⟩:∃X1:List Chk,X1=FB z.2.1 us::AT us r:=⟨_,rfl⟩;have P:St ψ (X1++(⟨iG 153,[.pointer (fH d)],[.slice o'.1 o'.2.1 o'.2.2]⟩::FB o' qs'::(AT qs' st'.2.2++(AT ps B++F)))) G:=by rw[J];exact st
    have D:=(P.perm (iA)).tail.tail;have h3:St ψ (AT qs' st'.2.2++((AT ps B++F) ++X1)) G:=by rw[←gT];exact D
    have h4:∀(L:List Chk) {M:List Chk},St ψ (L++M) G→St ψ M G:=λL=>by
     induction L with
     |nil=>intro M H;exact H
     |cons c L ih=>intro M H;exact ih H.tail
    have V:=(h4 _ h3).perm iA;rw[J]at V;exact V
end
end Go.Proofs.YtkfgeafgfeppfaaGreatDoor.Dg
namespace Go.Proofs.YtkfgeafgfeppfaaGreatDoor
open Go Go.Shelf Go.Proofs
def EZ:Ren:=⟨λx=>bif iI x 129 then 134 else bif iI x 176 then 78 else bif iI x 249 then 108 else bif iI x 283 then 147 else bif iI x 284 then 148 else bif iI x 285 then 149 else bif iI x 286 then 150 else bif iI x 288 then 124 else bif iI x 317 then 160 else bif iI x 318 then 161 else bif iI x 319 then 162 else bif iI x 320 then 163 else bif iI x 337 then 166 else bif iI x 338 then 105 else 0,λx=>bif iI x 0 then 0 else bif iI x 2 then 2 else bif iI x 3 then 3 else bif iI x 4 then 4 else bif iI x 5 then 5 else bif iI x 9 then 9 else bif iI x 20 then 20 else bif iI x 37 then 22 else bif iI x 46 then 204 else bif iI x 51 then 223 else bif iI x 53 then 197 else bif iI x 171 then 231 else bif iI x 173 then 233 else bif iI x 212 then 245 else bif iI x 213 then 246 else bif iI x 232 then 251 else bif iI x 233 then 212 else 0,λx=>bif iI x 17 then 1 else bif iI x 18 then 2 else bif iI x 19 then 0 else 0⟩
theorem ZA:Lays.n176 gP EZ where
 mixed:=by kernel_rfl
 f129:=(Tryz.func134).trans (congrArg some (show Tryz.f134=Body.n129 EZ by kernel_rfl))
 f176:=(Tryz.func78).trans (congrArg some (show Tryz.f78=Body.n176 EZ by kernel_rfl))
 f249:=(Tryz.func108).trans (congrArg some (show Tryz.f108=Body.n249 EZ by kernel_rfl))
 f283:=(Tryz.func147).trans (congrArg some (show Tryz.f147=Body.n283 EZ by kernel_rfl))
 f284:=(Tryz.func148).trans (congrArg some (show Tryz.f148=Body.n284 EZ by kernel_rfl))
 f285:=(Tryz.func149).trans (congrArg some (show Tryz.f149=Body.n285 EZ by kernel_rfl))
 f286:=(Tryz.func150).trans (congrArg some (show Tryz.f150=Body.n286 EZ by kernel_rfl))
 f288:=(Tryz.func124).trans (congrArg some (show Tryz.f124=Body.n288 EZ by kernel_rfl))
 f317:=(Tryz.func160).trans (congrArg some (show Tryz.f160=Body.n317 EZ by kernel_rfl))
 f318:=(Tryz.func161).trans (congrArg some (show Tryz.f161=Body.n318 EZ by kernel_rfl))
 f319:=(Tryz.func162).trans (congrArg some (show Tryz.f162=Body.n319 EZ by kernel_rfl))
 f320:=(Tryz.func163).trans (congrArg some (show Tryz.f163=Body.n320 EZ by kernel_rfl))
 f337:=(Tryz.func166).trans (congrArg some (show Tryz.f166=Body.n337 EZ by kernel_rfl))
 f338:=(Tryz.func105).trans (congrArg some (show Tryz.f105=Body.n338 EZ by kernel_rfl))
 t0:=Tryz.underlying0
 a0:=Tryz.isAgg0
 z0:=Tryz.sizeOf0
 v0:=Tryz.zeroValue0
 t2:=Tryz.underlying2
 a2:=Tryz.isAgg2
 z2:=Tryz.sizeOf2
 v2:=Tryz.zeroValue2
 t3:=lZ
 a3:=Tryz.isAgg3
 z3:=Tryz.sizeOf3
 v3:=Tryz.zeroValue3
 t4:=Tryz.underlying4
 a4:=Tryz.isAgg4
 z4:=Tryz.sizeOf4
 v4:=Tryz.zeroValue4
 t5:=jO
 a5:=Tryz.isAgg5
 z5:=Tryz.sizeOf5
 v5:=Tryz.zeroValue5
 t9:=lH
 a9:=Tryz.isAgg9
 z9:=Tryz.sizeOf9
 v9:=Tryz.zeroValue9
 t20:=Tryz.underlying20
 a20:=Tryz.isAgg20
 z20:=Tryz.sizeOf20
 v20:=Tryz.zeroValue20
 t37:=jU
 a37:=Tryz.isAgg22
 z37:=Tryz.sizeOf22
 v37:=Tryz.zeroValue22
 t46:=Tryz.underlying204
 a46:=Tryz.isAgg204
 z46:=Tryz.sizeOf204
 v46:=Tryz.zeroValue204
 t51:=Tryz.underlying223
 a51:=Tryz.isAgg223
 z51:=Tryz.sizeOf223
 v51:=Tryz.zeroValue223
 t53:=mZ
 a53:=Tryz.isAgg197
 z53:=Tryz.sizeOf197
 v53:=Tryz.zeroValue197
 t171:=Tryz.underlying231
 a171:=Tryz.isAgg231
 z171:=Tryz.sizeOf231
 v171:=Tryz.zeroValue231
 t173:=Tryz.underlying233
 a173:=Tryz.isAgg233
 z173:=Tryz.sizeOf233
 v173:=Tryz.zeroValue233
 t212:=nA
 a212:=Tryz.isAgg245
 z212:=Tryz.sizeOf245
 v212:=Tryz.zeroValue245
 t213:=Tryz.underlying246
 a213:=Tryz.isAgg246
 z213:=Tryz.sizeOf246
 t232:=Tryz.underlying251
 a232:=Tryz.isAgg251
 z232:=Tryz.sizeOf251
 v232:=Tryz.zeroValue251
 t233:=nB
 a233:=Tryz.isAgg212
 z233:=Tryz.sizeOf212
 v233:=Tryz.zeroValue212
 g17:=by kernel_rfl
 g18:=by kernel_rfl
 g19:=by kernel_rfl
theorem XV:LaysM.n176 gP EZ:={ZA with
 i0:=by kernel_rfl
 i2:=by kernel_rfl
 i3:=by kernel_rfl
 i4:=by kernel_rfl
 i5:=by kernel_rfl
 i9:=by kernel_rfl
 i20:=by kernel_rfl
 i37:=by kernel_rfl
 i46:=by kernel_rfl
 i51:=by kernel_rfl
 i53:=by kernel_rfl
 i171:=by kernel_rfl
 i173:=by kernel_rfl
 i212:=by kernel_rfl
 i232:=by kernel_rfl
 i233:=by kernel_rfl
 m17:=by kernel_rfl
 m18:=by kernel_rfl
 m19:=by kernel_rfl
 }
end Go.Proofs.YtkfgeafgfeppfaaGreatDoor
namespace Go.Proofs.YtkfgeafgfeppfaaGreatDoor
open Go Go.Eng Go.RowKit
def Glob (φ:AD):Prop:= ∃g t f,Tryz.prog.globalNamed "internal/strconv.uint64pow10" =some g∧φ g=some (.cells (Lib.pow10Tab.map fun z=>Value.int .u64 z).toArray t f)
theorem Glob.mono {φ ψ:AD}(H:Glob φ) (hs:Sub φ ψ):Glob ψ:=by
 obtain⟨g,t,f,a,b⟩:=H;exact⟨g,t,f,a,hs _ _ b⟩
def Ct (i:Int):gM:=(Lib.itoa i).map λb=>(b.toNat:Int)
def EG (l:gM) (i b:Int):Option gM:=if b=10∧ -9223372036854775808≤i∧i≤9223372036854775807∧l.length≤1000000 then some (l++Ct i) else none
theorem RQ (i:Int):Lib.byteCells (Lib.itoa i)=(Ct i).map (mK .u8).val:=by
 unfold Lib.byteCells Ct;rw[nO];rfl
class ZB (G:List Chk):Prop where
 off:∀c∈G,∀φ h F,Chk.on φ h F c→ ∀k,F k→ ∃o:Obj,h[k]? =some o∧ ∀cs f,o≠.cells cs 5 f
instance dN:ZB []:=⟨λc hc=>by cases hc⟩
instance ck {b:Nat}{vs:List Value}{G:List Chk}[H:ZB G]:ZB (⟨iG 73,[.pointer (fH b)],vs⟩::G):=⟨λc hc φ h F hon k hk=>by
 rcases kV.1 hc with rfl | hc
 ·obtain⟨b',e,hb,hF⟩:=hon;have hkb:=(hF k).1 hk;subst hkb;exact⟨_,hb,λcs f e=>by cases e⟩
 ·exact H.off c hc φ h F hon k hk⟩
theorem Sa {φ:AD}{h h':AE}{X X':FU}(hk:∀(k:Nat) (o:Obj),h[k]? =some o→(∀cs f,o≠.cells cs 5 f)→h'[k]? =some o) (hX:∀k,X' k→ ∃cs f,h'[k]? =some (.cells cs 5 f)) (hs:Sub φ (Bj h')):
 ∀ {G:List Chk} {Y:FU},(∀c∈G,∀φ h F,Chk.on φ h F c→ ∀k,F k→ ∃o:Obj,h[k]? =some o∧ ∀cs f,o≠.cells cs 5 f)→StX φ h G (λk=>X k∨Y k)→StX φ h' G (λk=>X' k∨Y k):=by
 intro G
 induction G with
 |nil=>intro Y _ _;exact hs
 |cons c G ih=>
  intro Y hG ⟨F,a,b,H⟩;have hoff:=hG c (by simp) φ h F a;refine⟨F,c.R.loc (λk hF=> ?_) a,λk hF=>⟨(b k hF).1,λg=> ?_⟩,(ih (Y:=λk=>Y k∨F k) (λc hc=>hG c (by simp[hc])) (H.less λk hk=> ?_)).less λk hk=> ?_⟩
  ·have⟨o,ho,hno⟩:=hoff k hF;rw[ho];exact hk k o ho hno
  ·rcases g with g | g
   ·have⟨o,ho,hno⟩:=hoff k hF;have⟨cs,f,hc⟩:=hX k g;rw[hk k o ho hno]at hc;exact hno cs f (Option.some.inj hc)
   ·exact(b k hF).2 (.inr g)
  ·rcases hk with hk | hk | hk
   ·exact .inl (.inl hk)
   ·exact .inl (.inr hk)
   ·exact .inr hk
  ·rcases hk with(hk | hk)|hk
   ·exact .inl hk
   ·exact .inr (.inl hk)
   ·exact .inr (.inr hk)
theorem Lq {d h:AE}{G:List Chk}[hG:ZB G] {t:Slc}{l:gM}{i b:Int}(gk:Glob (Bj d)) (A:St (Bj d) (⟨iM 5 (hQ .u8),[.slice t.1 t.2.1 t.2.2],l⟩::G) h) {r:gM}(hd:EG l i b=some r):
 CallsH gP 78 [(.slice t.1 t.2.1 t.2.2),(.int .i64 i),(.int .i64 b)] h (Ap λv h'=>∃ψ:AD,∃y:Slc,∃l':gM,Sub (Bj d) ψ∧ψ=Bj d∧v=fP.val y∧l'=r∧St ψ (⟨iM 5 (hQ .u8),[.slice y.1 y.2.1 y.2.2],l'⟩::G) h'):=by
 unfold EG at hd;split at hd
 ·rename_i hg
  obtain⟨rfl,m,B,hlen⟩:=hg;cases hd;obtain⟨F,⟨p,n,c,vs,e,hn,hc,hf,ho,ha,hF⟩,hX,H⟩:=A;have hn:l.length=n:=hn;have ha':vs=l.map (mK .u8).val:=DZ ha;simp only[List.cons.injEq,Value.slice.injEq,and_true]at e;obtain⟨C,D,E⟩:=e;rw[C,D,E];have hs:Sub (Bj d) (Bj h):=H.sub;have hB:d.size≤h.size:=by
   rcases jK h.size d.size with g | g
   ·have m:Bj d h.size=some d[h.size]:=iE g
    have:=Ay (hs _ _ m)
    omega
   ·exact g
  have hold:∀k,k<d.size→(Bj d) k≠none:=λk hk g=>by
   have m:Bj d k=some d[k]:=iE hk;rw[m]at g;cases g
  have own:World.ownsRow (EX h) d.size 5 1 (.slice p n c) n vs:=by
   refine⟨by rw[ha',iL,hn,Nat.mul_one],?_⟩;rcases ho with⟨rfl,rfl,rfl,rfl⟩|⟨b,off,arr,rfl,hb,q,u,M,I⟩
   ·exact .inl ⟨rfl,rfl⟩
   ·have⟨J,K⟩:=hf _ _ _ rfl;subst J;have hsz:=K _ _ _ hb;have hsz:arr.size=c *1:=hsz;have q:vs.length=n *1:=q;refine .inr ⟨b,c,arr,rfl,?_,hb,u,hc,hsz,?_⟩
    ·rcases jK b d.size with g | g
     ·exact gI (hX b ((hF b).2 (by simp[blk]))).1 (hold b g)
     ·exact g
    ·refine nN λi=> ?_;rw[kF];split
     ·rename_i hi
      have hi':i<vs.length:=by omega
      have:=I i vs[i] (gO hi')
      rw[gO hi'];simpa using this
     ·rw[iO (by omega)]
  intro w hw;subst hw;refine(Any.strconv_AppendInt_10 XV d.size n i m B (.slice p n c) vs w own hB (by omega) (λw' hb=> ?_)).mono ?_
  ·obtain⟨g,t',f,q,u⟩:=gk;have hg:w.heap[g]? =some (.cells (Lib.pow10Tab.map λz=>jC .u64 z).toArray t' f):=hs _ _ u;have hlt:=Ay (h:=d) u;show(Tryz.prog.globalNamed _).bind _=_;rw[q];show(match w'.heap[g]? with | some (.cells cs _ _)=>some cs | _=>none)=_
   rw[hb.block g hlt,hg]
  ·rintro e w' ⟨v',rfl,hown,hb,hoth⟩;have hkeep:∀(k:Nat) (o:Obj),w.heap[k]? =some o→(∀cs f,o≠.cells cs 5 f)→w'.heap[k]? =some o:=λk o ho hno=>hoth k o ho (by simp) hno;refine⟨⟨hb.os,hb.tape,hb.output,hb.size⟩,v',rfl,Bj d,?_⟩;obtain⟨N,L⟩:=hown;have hsub:Sub (Bj d) (Bj w'.heap):=λi o ho=>by
    have hlt:=Ay (h:=d) ho;show w'.heap[i]? =some o;rw[hb.block i hlt];exact hs i o ho
   have hvs:vs++Lib.byteCells (Lib.itoa i)=(l++Ct i).map (mK .u8).val:=by rw[jD,ha',RQ]
   have hdl:(Ct i).length=(Lib.itoa i).length:=by unfold Ct;simp
   have hall:∀(l:gM),(hQ .u8).All (Bj d) (l.map (mK .u8).val) l:=λl=>by
    induction l with
    |nil=>exact .nil
    |cons x l ih=>exact .cons (a:=[_]) rfl ih
   rcases L with⟨rfl,hz⟩|⟨g,cap,cur,rfl,hBg,hg,hle,hm,hcs,hcur⟩
   ·refine⟨(none,0,0),l++Ct i,jB _,rfl,rfl,rfl,λ_=>False,⟨none,0,0,[],rfl,(by rw[iH,hdl,hn];exact hz),Nat.zero_le _,(λ_ _ _ h=>by cases h),.inl ⟨rfl,rfl,rfl,rfl⟩,?_,λi=>by simp[blk]⟩,λ_ hk=>hk.elim,(Sa (X:=F) (X':=λ_=>False) (Y:=λ_=>False) hkeep (λ_ g=>g.elim) hsub hG.off (H.less λk hk=>hk.elim .inr .inl)).less λk hk=>hk.elim (λg=>.inl g) (λg=>.inl g)⟩
    have:l++Ct i= []:=jZ (by rw[iH,hdl,hn];exact hz)
    show(hQ .u8).All (Bj d) [] (l++Ct i);rw[this];exact .nil
   ·refine⟨(some ⟨g,0,none⟩,n+(Lib.itoa i).length,cap),l++Ct i,jB _,rfl,rfl,rfl,λk=>k=g,⟨_,_,cap,(l++Ct i).map (mK .u8).val,rfl,by simp;omega,hm,(λb' off s e=>by cases e;exact⟨rfl,λarr ty f harr=>by
     rw[hg]at harr;cases harr;exact hcs⟩),.inr ⟨g,0,cur,rfl,hg,by show _=_ *1;simp;omega,hle,by show 0+cap *1≤_;omega,λj v hv=> ?_⟩,hall _,λk=>by simp[blk]⟩,λk hk=>⟨?_,λg=>g⟩,(Sa (X:=F) (X':=λk=>k=g) (Y:=λ_=>False) hkeep (λk hk=>by subst hk;exact⟨_,_,hg⟩) hsub hG.off (H.less λk hk=>hk.elim .inr .inl)).less λk hk=>hk.elim (λg=>.inr g) (λg=>.inl g)⟩
    ·rw[←hvs,←hcur,kF]at hv;split at hv
     ·simpa using hv
     ·cases hv
    ·subst hk;exact kY hBg
 ·cases hd
end Go.Proofs.YtkfgeafgfeppfaaGreatDoor
namespace Go.Proofs.YtkfgeafgfeppfaaGreatDoor
open Go Go.Eng Dg
structure OF (φ:AD):Prop where
 a:Glob φ
 b:Dg.Glob φ
theorem OF.mono {φ ψ:AD}(H:OF φ) (hs:Sub φ ψ):OF ψ:=⟨H.a.mono hs,H.b.mono hs⟩
noncomputable def RR (s o:Ad):Option (Bool×Ad):=need (OkS s∧OkS o)<|some (FQ s o,BL s o)
noncomputable def Qa (s:Ad):Option gM:=JM s
section
variable {φ:AD}{h:AE}{F:List Chk}
theorem T9 {s_0 c:gL}{b a:Ad}(gk:Dg.Glob φ) (d:St φ (Bd s_0 b::Bd c a::F) h) {r:Bool×Ad}(hd:RR b a=some r):
 CallsH gP 94 [.pointer s_0,.pointer c] h (Ap λv h'=>∃ψ:AD,∃y:Bool,∃l:Ad,Sub φ ψ∧v=fR.val y∧(y,l)=r∧St ψ (Bd s_0 l::Bd c a::F) h'):=by
 obtain⟨⟨f,g⟩,hd⟩:=CD hd;obtain rfl:=Option.some.inj hd;refine(Ig gk f g (iR _ _ _) d).mono ?_;rintro e h' ⟨u,rfl,ψ,le,rfl,i⟩;exact⟨_,rfl,ψ,_,_,le,rfl,rfl,i⟩
theorem Ni {s_0:gL}{a:Ad}(gk:Dg.Glob φ) (b:St φ (Bd s_0 a::F) h) {r:gM}(hd:Qa a=some r):
 CallsH gP 39 [.pointer s_0] h (Ap λv h'=>∃ψ:AD,∃y:Slc,∃l:gM,Sub φ ψ∧v=fP.val y∧l=r∧Ro.SliceIs (hQ .i64) ψ y l∧St ψ (Bd s_0 a::F) h'):=by
 refine(Mz gk b hd).mono ?_;rintro e h' ⟨u,rfl,ψ,y,le,rfl,k,c⟩;exact⟨_,rfl,ψ,_,_,le,rfl,rfl,k,c⟩
theorem U0 {ps:List gL}{ss:List Ad}{x y:Nat}{p q:gL}{s o:Ad}(gk:Dg.Glob φ) (hs:ss[x]? =some s) (ho:ss[y]? =some o) (hp:ps[x]? =some p) (hq:ps[y]? =some q) (k:OkS s∧OkS o) (b:St φ (AT ps ss++F) h):
 CallsH gP 94 [.pointer p,.pointer q] h (Ap λv h'=>∃ψ:AD,Sub φ ψ∧v=fR.val (FQ s o)∧St ψ (AT ps (ss.set x (BL s o)) ++F) h'):=by
 have⟨r1,a,c⟩:=Ej hp hs;have⟨d,f,_⟩:=Ej hq ho;have mv:∀(p:gL) (s:Ad) (r:List Chk) (L:List Chk),L.Perm (Bd p s::r)→(L++F).Perm (Bd p s::(r++F)):=λp s r L hL=>hU F hL;have hpm:=(mv p s r1 _ a).symm.trans (mv q o d _ f);refine(Ig gk k.1 k.2 hpm (b.perm (mv p s r1 _ a))).mono ?_;rintro e h' ⟨u,rfl,ψ,le,rfl,g⟩;exact⟨_,rfl,ψ,le,rfl,g.perm (mv p _ r1 _ (c _)).symm⟩
theorem Sb {ps:List gL}{ss:List Ad}{x:Nat}{p q:gL}{s o:Ad}(gk:Dg.Glob φ) (hs:ss[x]? =some s) (hp:ps[x]? =some p) (k:OkS s∧OkS o) (a:St φ (Bd q o::(AT ps ss++F)) h):
 CallsH gP 94 [.pointer p,.pointer q] h (Ap λv h'=>∃ψ:AD,Sub φ ψ∧v=fR.val (FQ s o)∧St ψ (Bd q o::(AT ps (ss.set x (BL s o)) ++F)) h'):=by
 have⟨r1,b,c⟩:=Ej hp hs;have mv:∀(s:Ad) (L:List Chk),L.Perm (Bd p s::r1)→(Bd q o::(L++F)).Perm (Bd p s::(Bd q o::(r1++F))):=λs L hL=>(hO _ (hU F hL)).trans (iR _ _ _);refine(Ig gk k.1 k.2 (iR _ _ _) (a.perm (mv s _ b))).mono ?_;rintro e h' ⟨u,rfl,ψ,le,rfl,d⟩;exact⟨_,rfl,ψ,le,rfl,d.perm (mv _ _ (c _)).symm⟩
end
end Go.Proofs.YtkfgeafgfeppfaaGreatDoor
namespace Go.Proofs.YtkfgeafgfeppfaaGreatDoor
open Go Go.Eng
theorem glob_of {W:World}(hL:laidMetH gP Rows.lookTellsRow.laid W):OF (Bj W.heap):=by
 rw[MakeChecks.laidMetH_plain _ _ _ (by kernel_rfl)]at hL;refine⟨?_,?_⟩
 ·have b:laidMet Tryz.prog (("internal/strconv.uint64pow10",Lib.tabData .u64 Lib.pow10Tab):: []) W:=hL.tail.tail;have hg:Tryz.prog.globalNamed "internal/strconv.uint64pow10" =some 1:=by kernel_rfl
  have a:=Lib.tabIs_of_head hg (by kernel_rfl) nA mZ (by kernel_rfl) (by kernel_rfl) b;unfold Lib.TabIs World.var? at a;rw[hg,kQ]at a;cases hb:W.heap[1]? with
  |none=>rw[hb]at a;cases a
  |some o=>
   rw[hb]at a;cases o with
   |cells cs t f=>cases a;exact⟨1,t,f,hg,hb⟩
   |_=>cases a
 ·have b:laidMet Tryz.prog (("math/bits.deBruijn64tab",Lib.tabData .u8 (Lib.deBruijn64tab.map fun (z:Nat)=>(z:Int)))::("internal/strconv.uint64pow10",Lib.tabData .u64 Lib.pow10Tab):: []) W:=hL.tail;have hg:Tryz.prog.globalNamed "math/bits.deBruijn64tab" =some 0:=by kernel_rfl
  have a:=Lib.tabIs_of_head hg (by kernel_rfl) nB jO (by kernel_rfl) (by kernel_rfl) b;unfold Lib.TabIs World.var? at a;rw[hg,kQ]at a;cases hb:W.heap[0]? with
  |none=>rw[hb]at a;cases a
  |some o=>
   rw[hb]at a;cases o with
   |cells cs t f=>
    refine⟨t,f,?_⟩;show W.heap[0]? =_;rw[hb];have c:=Option.some.inj a;rw[c,nO];rfl
   |_=>cases a
theorem wf8 {x:Int}(h:(Lit.int .u8 x).wf=true):0≤x∧x<256:=by
 simp only[Lit.wf,lI,gJ]at h;have a:IntKind.min .u8=0:=rfl;have b:IntKind.max .u8=255:=rfl;omega
theorem dQ {α:Type}{cs:List α}(h:cs.length=7):∃a b c d e f g,cs= [a,b,c,d,e,f,g]:=by
 match cs,h with
 | [a,b,c,d,e,f,g],_=>exact⟨a,b,c,d,e,f,g,rfl⟩
section
variable {h:AE}
theorem Kz {n:Nat}{cs:List Value}(hr:GO gP h n 22 cs):∃(t:Slc) (l:gM),cs= [.slice t.1 t.2.1 t.2.2] ∧Ro.SliceIs (hQ .u8) (Bj h) t l∧l.length≤9223372036854775807∧ ∀x∈l,0≤x∧x<256:=by
 obtain⟨l,⟨t,e,hs⟩,a,b⟩:=(He jU (by kernel_rfl) (OC jO)) n cs hr;exact⟨t,l,e,hs,a,λx hx=>wf8 (b x hx)⟩
theorem XW {n:Nat}{cs:List Value}(hr:GO gP h n 23 cs):∃(t:Slc) (l:List gM),cs= [.slice t.1 t.2.1 t.2.2] ∧Ro.SliceIs (lR (hQ .u8)) (Bj h) t l∧l.length≤9223372036854775807∧ ∀r∈l,r.length≤9223372036854775807∧ ∀x∈r,0≤x∧x<256:=by
 obtain⟨l,⟨t,e,hs⟩,b,a⟩:=(He Tryz.underlying23 (by kernel_rfl) (He jU (by kernel_rfl) (OC jO))) n cs hr;exact⟨t,l,e,hs,b,λr hr=>⟨(a r hr).1,λx hx=>wf8 ((a r hr).2 x hx)⟩⟩
theorem XX {n:Nat}{cs:List Value}(H:GO gP h n 25 cs):∃(x:Int×Int×Slc×Slc×Slc×Slc×Slc×Unit) (d2:gM) (d3:List gM) (d4 d5 y:gM),
 cs= [.int .u8 x.1,.int .u8 x.2.1,sv x.2.2.1,sv x.2.2.2.1,sv x.2.2.2.2.1,sv x.2.2.2.2.2.1,sv x.2.2.2.2.2.2.1] ∧Ro.SliceIs (hQ .u8) (Bj h) x.2.2.1 d2∧Ro.SliceIs (lR (hQ .u8)) (Bj h) x.2.2.2.1 d3∧
 Ro.SliceIs (hQ .u8) (Bj h) x.2.2.2.2.1 d4∧Ro.SliceIs (hQ .u8) (Bj h) x.2.2.2.2.2.1 d5∧Ro.SliceIs (hQ .u8) (Bj h) x.2.2.2.2.2.2.1 y∧SmG (x.1,x.2.1,d2,d3,d4,d5,y):=by
 cases n with
 |zero=>exact H.elim
 |succ n=>
  unfold GO at H;rw[Tryz.underlying25]at H;obtain⟨hlen,hf⟩:=H;have hlen:cs.length=7:=hlen.trans (by kernel_rfl);obtain⟨a,b,c,d,e,f,g,rfl⟩:=dQ hlen;have z:Tryz.prog.cellsOf 5=1:=by kernel_rfl
  have A:Tryz.prog.cellsOf 22=1:=by kernel_rfl
  have B:Tryz.prog.cellsOf 23=1:=by kernel_rfl
  have q:=hf _ (.head _);have r:=hf _ (.tail _ (.head _));have s:=hf _ (.tail _ (.tail _ (.head _)));have t:=hf _ (.tail _ (.tail _ (.tail _ (.head _))));have u:=hf _ (.tail _ (.tail _ (.tail _ (.tail _ (.head _)))));have v:=hf _ (.tail _ (.tail _ (.tail _ (.tail _ (.tail _ (.head _))))));have w:=hf _ (.tail _ (.tail _ (.tail _ (.tail _ (.tail _ (.tail _ (.head _)))))));dsimp only at q r s t u v w;rw[z]at q r;rw[A]at s u v w;rw[B]at t;have⟨x0,i,w0⟩:=Nh jO q;have⟨x1,j,C⟩:=Nh jO r;have⟨t2,D,k,E,F,G⟩:=Kz s;have⟨t3,I,l,J,K,L⟩:=XW t;have⟨t4,M,m,N,O,P⟩:=Kz u;have⟨t5,Q,o,R,S,T⟩:=Kz v;have⟨U,V,p,W,X,Y⟩:=Kz w;have i: [a] =_:=i;have j: [b] =_:=j;have k: [c] =_:=k;have l: [d] =_:=l;have m: [e] =_:=m;have o: [f] =_:=o;have p: [g] =_:=p;simp only[List.cons.injEq,and_true]at i j k l m o p;exact⟨(x0,x1,t2,t3,t4,t5,U,()),D,I,M,Q,V,by rw[i,j,k,l,m,o,p],E,J,N,R,W,⟨wf8 w0,wf8 C,⟨F,G⟩,⟨K,L⟩,⟨O,P⟩,⟨S,T⟩,⟨X,Y⟩⟩⟩
end
def cloneD {α:Type}(l:List α):Option (List α):=if l.length≤1073741824 then some l else none
theorem F7 {α:Type}{l r:List α}(h:cloneD l=some r):l.length≤1073741824∧r=l:=by
 unfold cloneD at h;split at h
 ·rename_i g;exact⟨g,(Option.some.inj h).symm⟩
 ·cases h
theorem dR:Fv gP 74 74 73 2:=⟨lB,.inl lB,⟨Tryz.t73,by kernel_rfl,rfl,⟨_,rfl,rfl⟩,by decide,by decide⟩,by decide⟩
theorem bK:Fv gP 54 54 79 2:=⟨nP,.inl nP,⟨Tryz.t79,by kernel_rfl,rfl,⟨_,rfl,rfl⟩,by decide,by decide⟩,by decide⟩
section
variable {φ:AD}{h:AE}{F:List Chk}
theorem OG {t:Slc}{l r:List A9}(k:Ro.SliceIs BG φ t l) (c:St φ F h) (hd:cloneD l=some r):
 CallsH gP 69 [.slice t.1 t.2.1 t.2.2] h (Ap λv h'=>∃ψ:AD,∃y:Slc,∃d:List A9,Sub φ ψ∧v=fP.val y∧d=r∧St ψ (cR 73 BG y d::F) h'):=by
 obtain⟨hb,rfl⟩:=F7 hd;refine Av mixed Tryz.func69 ?_;rw[Es];unfold DG;cases hp:t.1 with
 |none=>
  rw[k.2.2.2.1 hp];exact AC ⟨φ,(none,0,0),[],jB _,rfl,rfl,c.nil _ _⟩
 |some a=>
  rw[nC];refine AV (vs:=[]) c λb i e=> ?_;have f:=oK (r:=BG) (l:=[]) (n:=0) e .nil rfl (by decide);have⟨ws,ha,hc⟩:=k.heap e.sub;rw[hp]at hc;refine AX (r:=BG) (ms:=r) (l':=r) dR f rfl hc ha k.length.symm (by unfold app;rw[gF (by have:=hb;simp;omega)];rfl) λy j g=>AC ⟨φ,y,_,jB _,rfl,rfl,g⟩
theorem Sc {t:Slc}{l r:List C5}(k:Ro.SliceIs DR φ t l) (c:St φ F h) (hd:cloneD l=some r):
 CallsH gP 118 [.slice t.1 t.2.1 t.2.2] h (Ap λv h'=>∃ψ:AD,∃y:Slc,∃d:List C5,Sub φ ψ∧v=fP.val y∧d=r∧St ψ (cR 79 DR y d::F) h'):=by
 obtain⟨hb,rfl⟩:=F7 hd;refine Av mixed Tryz.func118 ?_;rw[Et];unfold DH;cases hp:t.1 with
 |none=>
  rw[k.2.2.2.1 hp];exact AC ⟨φ,(none,0,0),[],jB _,rfl,rfl,c.nil _ _⟩
 |some a=>
  rw[nC];refine AV (vs:=[]) c λb i e=> ?_;have f:=oK (r:=DR) (l:=[]) (n:=0) e .nil rfl (by decide);have⟨ws,ha,hc⟩:=k.heap e.sub;rw[hp]at hc;refine AX (r:=DR) (ms:=r) (l':=r) bK f rfl hc ha k.length.symm (by unfold app;rw[gF (by have:=hb;simp;omega)];rfl) λy j g=>AC ⟨φ,y,_,jB _,rfl,rfl,g⟩
end
section
variable {φ:AD}{h:AE}{F:List Chk}
theorem Cm:Fv gP 74 74 73 2:=⟨lB,.inl lB,⟨Tryz.t73,by kernel_rfl,rfl,⟨_,rfl,rfl⟩,by decide,by decide⟩,by decide⟩
noncomputable def CW (e:HY) (a:List A9) (c:Int):Option (List A9):=(forS (σ:=List A9) 0 (a.length:Int) ([]:List A9) λd h=>(idx a d).bind λb=>(CE e (b.1,b.2)).bind λi=>(cond (i==c) ((app h ([(b.1,(gR .i64 (b.2+1)))]:List A9)).bind λf=>some f) (some h)).bind λg=>some g).bind λj=>some j
theorem KP {B:gL}{e:HY}{A:Slc}{i:List A9}{C:Int}(l:Ro.SliceIs BG φ A i) (I:St φ (cO 101 (jL Cc) B e::F) h) {r:(List A9)}(hd:CW e i C=some r):
 CallsH gP 60 [(.pointer B),(sv A),(.int .i64 C)] h (Ap λv h'=>∃ψ:AD,∃y:Slc,∃m:List A9,Sub φ ψ∧v=fP.val y∧m=r∧Ro.SliceIs BG ψ y m∧St ψ (cO 101 (jL Cc) B e::F) h'):=by
 refine AY mixed Tryz.func60 (J5 ..) ?_;have n:A.2.1=lV i:=l.length;have⟨b6,u,hd⟩:=bS hd;refine BM u (λw y w_ g=>∃ψ:AD,∃o:List A9,Sub φ ψ∧y.1=w∧o=g∧St ψ (cR 73 BG y.2.1 o::cO 101 (jL Cc) B e::F) w_) ((0:Int),((none,0,0):Slc),()) rfl ⟨φ,[],sb,rfl,rfl,(((I.nil 73 BG).at1).at1)⟩ ?_ ?_ ?_
 ·rintro _ D b7 _ _ ⟨b8,x,b9,rfl,rfl,p⟩ c ba z a0;refine Ac (dT n z)<|OM l c p λb c=>AV (vs:=[.int .i64 (0:Int),.int .i64 (0:Int)]) p λJ bb K=>AQ K rfl rfl λbd L=>AQ L rfl rfl λbf j=>AA j rfl<|AA j rfl ?_;have⟨bg,M,c⟩:=bS c;refine AK (Dc (x_1:=(b.1,b.2,())) j.at2 M) ?_;rintro _ bi ⟨k,N,bj,rfl,rfl,f⟩;refine⟨N,rfl,?_⟩;have⟨O,d,c⟩:=bS c;refine Aa (λy w_ g=>∃ψ:AD,∃q:List A9,Sub k ψ∧q=g∧St ψ (cR 73 BG y.1 q::cO 101 (jL Cc) B e::cW 73 J [.int .i64 b.1,.int .i64 b.2]::F) w_) (g:=O) ?_ ?_
  ·refine AH d rfl (λ_ d=> ?_) (λ_ d=> ?_)
   ·refine AA f.at1 rfl<|AA f.at1 rfl<|AV (vs:=[.int .i64 b.1,.int .i64 (wN b.2)]) f λP bl s=> ?_;have⟨Q,R,d⟩:=bS d;refine AX (r:=BG) (ms:=([(b.1,(wN b.2))]:List A9)) Cm s.tail.at2 rfl (lM s) (.cons (a:=[_,_]) ⟨[_],_,rfl,rfl,rfl⟩ .nil) rfl R ?_;intro E bn S;obtain rfl:=iS d;exact AO (E,()) rfl ⟨k,Q,sb,rfl,S.at2.at2.at2⟩
   obtain rfl:=iS d;exact AO (D.2.1,()) rfl ⟨k,x,sb,rfl,f.at2.at2.at2.at2⟩
  rintro G bp ⟨T,U,bq,rfl,ad⟩;obtain rfl:=iS c;exact AZ ((wN D.1),G.1,()) _ rfl rfl ⟨T,U,sb,a0,rfl,ad.at2.tail.at1.at1⟩
 ·rintro _ D bs ⟨al,ap,bt,rfl,rfl,ax⟩ V;refine AU (dF n V)<|AI (AL (D.1,D.2.1,()) rfl ⟨_,al,ap,sb,rfl,rfl,ax.at1.at1⟩)
 rintro H bx ⟨_,bz,W,c0,_,rfl,X⟩;have⟨Y,c1,Z,b5⟩:=lC (t:=H.2.1) X;obtain rfl:=iS hd;exact AC ⟨Y,H.2.1,W,sb,rfl,rfl,Z,b5⟩
noncomputable def Bv (c:EC) (b:Int):Option (List A9×List A9×List C5×Int×Int):=(cond (decide (b< 0)) (some true) (some (decide (b≥ (c.2.2.2.2.2.2.1.length:Int))))).bind λd=>cond d (some (([]:List A9),([]:List A9),([]:List C5),0,0)) ((idx c.2.2.2.2.2.2.1 b).bind λa=>some (a.1,a.2.1,a.2.2.1,a.2.2.2.1,a.2.2.2.2))
theorem Ex {B:gL}{k:EC}{A:Int}(l:Pt Fy φ B k) (C:St φ (F) h) {r:(List A9×List A9×List C5×Int×Int)}(hd:Bv k A=some r):
 CallsH gP 44 [(.pointer B),(.int .i64 A)] h (Ap λv h'=>∃ψ:AD,∃y:Slc×Slc×Slc×Int×Int×Unit,∃m:List A9,∃n:List A9,∃o:List C5,Sub φ ψ∧v=((.one (.agg [.slice,.slice,.slice,(.int .i64),(.int .i64)])):Sh).val y∧(m,n,o,y.2.2.2.1,y.2.2.2.2.1)=r∧Ro.SliceIs BG ψ y.1 m∧Ro.SliceIs BG ψ y.2.1 n∧Ro.SliceIs DR ψ y.2.2.1 o∧St ψ (F) h'):=by
 refine AY mixed Tryz.func44 (MB ..)<|AV (vs:=[.slice none 0 0,.slice none 0 0,.slice none 0 0,.int .i64 (0:Int),.int .i64 (0:Int)]) C λr1 ba j=> ?_;have⟨t,f,hd⟩:=bS hd;refine Aa (λy w_ g=>∃ψ:AD,Sub φ ψ∧y.1=g∧St ψ (Wq6 r1::F) w_) (g:=t) ?_ ?_
 ·refine AH f rfl (λ_ f=> ?_) (λ_ f=> ?_)
  ·obtain rfl:=iS f;exact AO (true,()) rfl ⟨φ,sb,rfl,j⟩
  refine pfR OW l j λu w=> ?_;have z:=w.length;obtain rfl:=iS f;exact AO ((decide (A≥ (u.2.1:Int))),()) rfl ⟨φ,sb,(by rw[z]),j⟩
 rintro S bb ⟨c,bd,rfl,a⟩;refine AH hd rfl (λ_ hd=> ?_) (λ_ hd=> ?_)
 ·refine AQ a rfl rfl λbf a0=>AQ a0 rfl rfl λbg D=>AQ D rfl rfl λbi E=>AQ E rfl rfl λbj G=>AQ G rfl rfl λbl d=>AA (x:=((none,0,0):Slc)) d rfl<|AA (x:=((none,0,0):Slc)) d rfl<|AA (x:=((none,0,0):Slc)) d rfl<|AA (x:=(0:Int)) d rfl<|AA (x:=(0:Int)) d rfl ?_;obtain rfl:=iS hd;exact AC ⟨c,(((none,0,0):Slc),((none,0,0):Slc),((none,0,0):Slc),(0:Int),(0:Int),()),[],[],[],sb,rfl,rfl,(lA BG c),(lA BG c),(lA DR c),d.tail⟩
 refine pfR OW l a λbn H=> ?_;have⟨b,I,hd⟩:=bS hd;obtain⟨bp,bq,J,K,L,i⟩:=(H.up (ψ:=c)).get I;refine AF _ J (Ah K ?_);obtain⟨_,_,rfl,⟨p,rfl,al⟩,⟨_,_,rfl,⟨q,rfl,M⟩,⟨_,_,rfl,⟨s,rfl,N⟩,⟨_,_,rfl,rfl,rfl⟩⟩⟩⟩:=L;refine AG (x:=p) (AJ (lJ sb a.sub) (i 0 _ rfl)) rfl<|AG (x:=q) (by rw[An];exact(AJ (lJ sb a.sub) (i 1 _ rfl))) rfl<|AG (x:=s) (by rw[An];exact(AJ (lJ sb a.sub) (i 2 _ rfl))) rfl<|AG (x:=b.2.2.2.1) (by rw[An];exact(AJ (lJ sb a.sub) (i 3 _ rfl))) rfl<|AG (x:=b.2.2.2.2) (by rw[An];exact(AJ (lJ sb a.sub) (i 4 _ rfl))) rfl<|AQ a rfl rfl λbs O=>AQ O rfl rfl λbt P=>AQ P rfl rfl λbx Q=>AQ Q rfl rfl λbz R=>AQ R rfl rfl λT e=>AA e rfl<|AA e rfl<|AA e rfl<|AA e rfl<|AA e rfl ?_;obtain rfl:=iS hd;exact AC ⟨c,(p,q,s,b.2.2.2.1,b.2.2.2.2,()),b.1,b.2.1,b.2.2.1,sb,rfl,rfl,al,M,N,e.tail⟩
noncomputable def B5 (a:EC):Option Int:=some (a.2.2.2.2.2.2.1.length:Int)
theorem Co {f:gL}{a:EC}(b:Pt Fy φ f a) (g:St φ (F) h) {r:Int}(hd:B5 a=some r):
 CallsH gP 11 [(.pointer f)] h (Ap λv h'=>∃ψ:AD,∃y:Int,Sub φ ψ∧v=fQ.val y∧y=r∧St ψ (F) h'):=by
 refine AY mixed Tryz.func11 (LD ..)<|pfR OW b g λc d=> ?_;have e:=d.length;obtain rfl:=iS hd;exact AC ⟨φ,(c.2.1:Int),sb,rfl,(by rw[e]),g⟩
noncomputable def BA (e:EC) (f:Int) (a:Int):Option Int:=
 (Bv e f).bind λt1=>
 (DE (σ:=Unit) (β:=Int) 0 (t1.2.2.1.length:Int) () λb h=>
  (idx t1.2.2.1 b).bind λc=>
  cond (c.1==a)
  (some (mR c.2))
  (some (mC ()))).bind λd=>match d with
 |.next i=>
  some (-1:Int)
 |.done g=>some g
theorem De {B:gL}{c:EC}{C:Int}{A:Int}(k:Pt Fy φ B c) (E:St φ (F) h) {r:Int}(hd:BA c C A=some r):
 CallsH gP 21 [(.pointer B),(.int .i64 C),(.int .i64 A)] h (Ap λv h'=>∃ψ:AD,∃y:Int,Sub φ ψ∧v=fQ.val y∧y=r∧St ψ (F) h'):=by
 refine AY mixed Tryz.func21 (L9 ..) ?_;have⟨J,l,hd⟩:=bS hd;refine AK (Ex k E l) ?_;rintro _ K ⟨d,t1,L,M,N,O,rfl,rfl,ad,al,e,m⟩;refine⟨t1,rfl,?_⟩;have f:=e.length;have⟨ap,n,hd⟩:=bS hd;refine BZ n (λo y w_ g=>∃ψ:AD,Sub d ψ∧y.1=o∧()=g∧St ψ (F) w_) ((0:Int),(0:Int),()) rfl ⟨d,sb,rfl,rfl,m⟩ ?_ ?_ ?_
 ·rintro _ D ax _ _ ⟨i,P,rfl,rfl,j⟩ a Q p q s;refine Ac (dT f p)<|OM e a j λt a=>AV (vs:=[.int .i64 (0:Int),.int .i64 (0:Int)]) j λR S u=>AQ u rfl rfl λT w=>AQ w rfl rfl λU b=>AA b rfl<|AH a rfl (λ_ a=> ?_) (λ_ a=> ?_)
  ·refine AA b rfl ?_;obtain rfl:=iS a;obtain rfl:=s _ rfl;obtain rfl:=iS hd;exact Aj (Al (AC ⟨i,t.2,sb,rfl,rfl,b.tail⟩))
  obtain rfl:=iS a;exact AZ ((wN D.1),D.2.1,()) _ rfl rfl ⟨i,sb,q,rfl,b.tail⟩
 ·rintro _ D V _ ⟨x,W,rfl,rfl,z⟩ a0 G;subst G;refine AU (dF f a0)<|AI (AL (D.1,D.2.1,()) rfl ⟨_,rfl,_,x,sb,rfl,rfl,z⟩)
 rintro X Y ⟨_,rfl,_,H,Z,_,rfl,I⟩;obtain rfl:=iS hd;exact AC ⟨H,(-1:Int),sb,rfl,rfl,I⟩
noncomputable def Bt (c:EC) (b:Int) (a:gM):Option Int:=(cond (decide (b< 0)) (some true) (some (decide (b≥ (c.2.2.2.2.2.2.1.length:Int))))).bind λg=>cond g (some (-1:Int)) (((DE (σ:=Int) (β:=Int) 0 (a.length:Int) b λd h=>(idx a d).bind λe=>(BA c h e).bind λf=>cond (decide (f< 0)) (some (mR f)) (some (mC f))).map AW.get).bind λi=>some i)
theorem EH {C:gL}{e:EC}{B:Int}{A:Slc}{d:gM}(f:Pt Fy φ C e) (i:Ro.SliceIs (hQ .i64) φ A d) (E:St φ (F) h) {r:Int}(hd:Bt e B d=some r):
 CallsH gP 42 [(.pointer C),(.int .i64 B),(sv A)] h (Ap λv h'=>∃ψ:AD,∃y:Int,Sub φ ψ∧v=fQ.val y∧y=r∧St ψ (F) h'):=by
 refine AY mixed Tryz.func42 (J3 ..) ?_;have j:A.2.1=lV d:=i.length;have⟨o,b,hd⟩:=bS hd;refine Aa (λy w_ g=>∃ψ:AD,Sub φ ψ∧y.1=g∧St ψ (F) w_) (g:=o) ?_ ?_
 ·refine AH b rfl (λ_ b=> ?_) (λ_ b=> ?_)
  ·obtain rfl:=iS b;exact AO (true,()) rfl ⟨φ,sb,rfl,E⟩
  refine pfR OW f E λp q=> ?_;have s:=q.length;obtain rfl:=iS b;exact AO ((decide (B≥ (p.2.1:Int))),()) rfl ⟨φ,sb,(by rw[s]),E⟩
 rintro R al ⟨c,ap,rfl,k⟩;refine AH hd rfl (λ_ hd=> ?_) (λ_ hd=> ?_)
 ·obtain rfl:=iS hd;exact AC ⟨c,(-1:Int),sb,rfl,rfl,k⟩
 have⟨ax,t,hd⟩:=bS hd;have⟨u,w,x⟩:=Option.map_eq_some_iff.1 t;subst x;refine Ag (λy w_ g=>∃ψ:AD,Sub c ψ∧y.2.1=g∧St ψ (F) w_) (g:=(AW.get u)) ?_ ?_
 ·refine NR w (λz y w_ g=>∃ψ:AD,Sub c ψ∧y.1=z∧y.2.1=g∧St ψ (F) w_) ((0:Int),B,()) rfl ⟨c,sb,rfl,rfl,k⟩ ?_ ?_
  ·rintro _ D S _ _ ⟨T,U,rfl,rfl,l⟩ a V a0 H I;refine Ac (dT j a0)<|gx i a l λW a=> ?_;have⟨X,J,a⟩:=bS a;refine AK (De f.up l J) ?_;rintro _ Y ⟨m,G,Z,rfl,rfl,n⟩;refine⟨G,rfl,?_⟩;refine AH a rfl (λ_ a=> ?_) (λ_ a=> ?_)
   ·obtain rfl:=iS a;obtain rfl:=I _ rfl;exact AI (AL (D.1,G,()) rfl ⟨m,sb,rfl,n⟩)
   obtain rfl:=iS a;exact AZ ((wN D.1),G,()) _ rfl rfl ⟨m,sb,H,rfl,n⟩
  ·rintro _ D b8 _ ⟨K,b9,rfl,rfl,L⟩ M N;subst N;refine AU (dF j M)<|AI (AL (D.1,D.2.1,()) rfl ⟨K,sb,rfl,L⟩)
 rintro O ba ⟨P,bb,Q,ad⟩;rw[←Q]at hd;obtain rfl:=iS hd;exact AC ⟨P,O.2.1,sb,rfl,rfl,ad⟩
end
section
variable {φ:AD}{h:AE}{F:List Chk}
theorem PC:Fv gP 22 22 5 1:=⟨jU,.inl jU,⟨Tryz.t5,by kernel_rfl,rfl,⟨_,rfl,rfl⟩,by decide,by decide⟩,by decide⟩
noncomputable def ET (a:List A9):Option gN:=(forS (σ:=gM) 0 (a.length:Int) ([]:gM) λb h=>(idx a b).bind λc=>(EG h c.1 10).bind λi=>(app i ([(46:Int)]:gM)).bind λd=>(EG d c.2 10).bind λe=>(app e ([(32:Int)]:gM)).bind λf=>some f).bind λj=>(Up j).bind λg=>some g
theorem OO {h:AE}{A:Slc}{d:List A9}(gk:Glob (Bj h)) (f:Ro.SliceIs BG (Bj h) A d) (E:St (Bj h) [] h) {r:gN}(hd:ET d=some r):
 CallsH gP 56 [(sv A)] h (Ap λv h'=>∃ψ:AD,∃y:gN,Sub (Bj h) ψ∧v=((.one (.atom .string)):Sh).val y∧y=r∧St ψ [] h'):=by
 refine Av mixed Tryz.func56 ?_;rw[Ot];unfold Mk;unfold ET at hd;have i:A.2.1=lV d:=f.length;have⟨bb,w,hd⟩:=bS hd;refine BM w (λz (y:Int×Slc×Unit) w_ g=>∃ψ:AD,∃j:gM,Sub (Bj h) ψ∧ψ=(Bj h)∧y.1=z∧j=g∧St ψ (cR 5 (hQ .u8) y.2.1 j:: []) w_) ((0:Int),((none,0,0):Slc),()) rfl ⟨(Bj h),[],(jB _),rfl,rfl,rfl,(E.nil 5 (hQ .u8))⟩ ?_ ?_ ?_
 ·rintro _ B bd _ _ ⟨bf,bg,k,rfl,rfl,rfl,e⟩ b a0 l m;try dsimp only at b a0 l m
  refine Ac (dT i l) ?_;have⟨c,F,b⟩:=bS b;obtain⟨bi,bj,G,H,I,n⟩:=(f.mono k).get F;refine AF _ G (Ah H ?_);obtain⟨_,_,rfl,rfl,rfl⟩:=I;refine AG (x:=c.1) (AJ e.sub (n 0 _ rfl)) rfl<|AG (x:=c.2) (by rw[An];exact(AJ e.sub (n 1 _ rfl))) rfl<|AV (vs:=[.int .i64 (0:Int),.int .i64 (0:Int)]) e λZ bl J=>AQ J rfl rfl λbn K=>AQ K rfl rfl λbp o=>AA (x:=c.1) o rfl ?_;have⟨bq,L,b⟩:=bS b;refine AK (Lq gk o.at1 L) ?_;rintro _ bs ⟨bt,M,bx,ad,rfl,rfl,rfl,al⟩;refine⟨M,rfl,?_⟩;refine AV (vs:=[.int .u8 (46:Int)]) al λr9 bz p=> ?_;have⟨c0,ap,b⟩:=bS b;refine AX (r:=(hQ .u8)) (ms:=([(46:Int)]:gM)) PC p.tail rfl (lM p) (.cons (a:=[_]) rfl .nil) rfl ap ?_;intro N c1 q;refine AA (x:=c.2) q.at1 rfl ?_;have⟨c2,ax,b⟩:=bS b;refine AK (Lq gk q ax) ?_;rintro _ c3 ⟨c4,C,c5,O,rfl,rfl,rfl,P⟩;refine⟨C,rfl,?_⟩;refine AV (vs:=[.int .u8 (32:Int)]) P λQ c6 s=> ?_;have⟨R,S,b⟩:=bS b;refine AX (r:=(hQ .u8)) (ms:=([(32:Int)]:gM)) PC s.tail rfl (lM s) (.cons (a:=[_]) rfl .nil) rfl S ?_;intro D c7 T;obtain rfl:=iS b;exact AZ ((wN B.1),D,()) _ rfl rfl ⟨(Bj h),R,((k.trans ad).trans O),rfl,m,rfl,T.at1.tail⟩
 ·rintro _ B c8 ⟨c9,U,V,rfl,rfl,rfl,W⟩ X;refine AU (dF i X)<|AI (AL (B.1,B.2.1,()) rfl ⟨_,(Bj h),U,V,rfl,rfl,rfl,W⟩)
 rintro z1 ch ⟨_,cl,cm,Y,rfl,_,rfl,t⟩;try dsimp only at hd
 have⟨u,ba,hd⟩:=bS hd;refine Tn (x:=u) jU jO lH (St.bytes t) ba ?_;obtain rfl:=iS hd;exact AC ⟨(Bj h),u,Y,(by first | with_reducible rfl | (show Value.string _=Value.string _;with_reducible rfl)|rfl),(by first | with_reducible rfl | rfl),t.tail⟩
theorem KQ {c:Slc}{a:List A9}(gk:Glob φ) (b:Ro.SliceIs BG φ c a) (d:St φ (F) h) {r:gN}(hd:ET a=some r):
 CallsH gP 56 [(sv c)] h (Ap λv h'=>∃ψ:AD,∃y:gN,Sub φ ψ∧v=((.one (.atom .string)):Sh).val y∧y=r∧St ψ (F) h'):=by
 refine CallsH.mono (OO (gk.mono d.sub) (b.mono d.sub) (jB _) hd) ?_;rintro e h' ⟨v,rfl,ψ,y,hs,rfl,rfl,f⟩;exact⟨_,rfl,φ,y,jB _,rfl,rfl,d.keep (hs.trans f.sub)⟩
noncomputable def B6 (d:HY) (a:List A9):Option gM:=(forS (σ:=gM) 0 (a.length:Int) ([]:gM) λb i=>(idx a b).bind λc=>(CE d (c.1,c.2)).bind λj=>(cond (decide (j≥ 0)) ((app i ([j]:gM)).bind λe=>some e) (some i)).bind λf=>some f).bind λk=>(Uv k).bind λg=>(Mt g).bind λh=>some h
theorem H8 {B:gL}{d:HY}{A:Slc}{f:List A9}(k:Ro.SliceIs BG φ A f) (J:St φ (cO 101 (jL Cc) B d::F) h) {r:gM}(hd:B6 d f=some r):
 CallsH gP 59 [(.pointer B),(sv A)] h (Ap λv h'=>∃ψ:AD,∃y:Slc,∃l:gM,Sub φ ψ∧v=fP.val y∧l=r∧Ro.SliceIs (hQ .i64) ψ y l∧St ψ (cO 101 (jL Cc) B d::F) h'):=by
 refine AY mixed Tryz.func59 (Hu ..) ?_;have m:A.2.1=lV f:=k.length;have⟨ba,u,hd⟩:=bS hd;refine BM u (λw y w_ g=>∃ψ:AD,∃n:gM,Sub φ ψ∧y.1=w∧n=g∧St ψ (cR 3 (hQ .i64) y.2.1 n::cO 101 (jL Cc) B d::F) w_) ((0:Int),((none,0,0):Slc),()) rfl ⟨φ,[],sb,rfl,rfl,(((J.nil 3 (hQ .i64)).at1).at1)⟩ ?_ ?_ ?_
 ·rintro _ D bb _ _ ⟨bd,x,bf,rfl,rfl,o⟩ b bg z a0;refine Ac (dT m z)<|OM k b o λe b=>AV (vs:=[.int .i64 (0:Int),.int .i64 (0:Int)]) o λK bi L=>AQ L rfl rfl λbj M=>AQ M rfl rfl λbl i=>AA i rfl<|AA i rfl ?_;have⟨bn,N,b⟩:=bS b;refine AK (Dc (x_1:=(e.1,e.2,())) i.at2 N) ?_;rintro _ bp ⟨j,E,bq,rfl,rfl,p⟩;refine⟨E,rfl,?_⟩;have⟨O,c,b⟩:=bS b;refine Aa (λy w_ g=>∃ψ:AD,∃q:gM,Sub j ψ∧q=g∧St ψ (cR 3 (hQ .i64) y.1 q::cO 101 (jL Cc) B d::cW 73 K [.int .i64 e.1,.int .i64 e.2]::F) w_) (g:=O) ?_ ?_
  ·refine AH c rfl (λ_ c=> ?_) (λ_ c=> ?_)
   ·refine AV (vs:=[.int .i64 E]) p λP bs s=> ?_;have⟨Q,R,c⟩:=bS c;refine AX (r:=(hQ .i64)) (ms:=([E]:gM)) B0 s.tail.at2 rfl (lM s) (.cons (a:=[_]) rfl .nil) rfl R ?_;intro G bt S;obtain rfl:=iS c;exact AO (G,()) rfl ⟨j,Q,sb,rfl,S.at2.at2.at2⟩
   obtain rfl:=iS c;exact AO (D.2.1,()) rfl ⟨j,x,sb,rfl,p.at2.at2.at2.at2⟩
  rintro H bx ⟨T,U,bz,rfl,ad⟩;obtain rfl:=iS b;exact AZ ((wN D.1),H.1,()) _ rfl rfl ⟨T,U,sb,a0,rfl,ad.at2.tail.at1.at1⟩
 ·rintro _ D c0 ⟨al,ap,c1,rfl,rfl,ax⟩ V;refine AU (dF m V)<|AI (AL (D.1,D.2.1,()) rfl ⟨_,al,ap,sb,rfl,rfl,ax.at1.at1⟩)
 rintro z1 c2 ⟨_,c3,c4,c5,_,rfl,W⟩;have⟨c6,X,hd⟩:=bS hd;refine AK (Vk W X) ?_;rintro _ c7 ⟨c8,I,c9,ch,rfl,rfl,Y⟩;refine⟨I,rfl,?_⟩;have⟨cl,Z,hd⟩:=bS hd;refine AK (SM Y Z) ?_;rintro _ cm ⟨cp,C,b5,cs,rfl,rfl,b6⟩;refine⟨C,rfl,?_⟩;have⟨b7,cw,b8,b9⟩:=lC (t:=C) b6;obtain rfl:=iS hd;exact AC ⟨b7,C,b5,sb,rfl,rfl,b8,b9⟩
noncomputable def B4 (a:EC) (b:Int):Option (List A9):=(Bv a b).bind λt1=>(cloneD t1.2.1).bind λt2=>some t2
theorem FX {A:gL}{a:EC}{B:Int}(c:Pt Fy φ A a) (C:St φ (F) h) {r:(List A9)}(hd:B4 a B=some r):
 CallsH gP 38 [(.pointer A),(.int .i64 B)] h (Ap λv h'=>∃ψ:AD,∃y:Slc,∃b:List A9,Sub φ ψ∧v=fP.val y∧b=r∧Ro.SliceIs BG ψ y b∧St ψ (F) h'):=by
 refine AY mixed Tryz.func38 (JS ..) ?_;have⟨n,d,hd⟩:=bS hd;refine AK (Ex c C d) ?_;rintro _ o ⟨p,t1,q,s,u,w,rfl,rfl,x,e,z,f⟩;refine⟨t1,rfl,?_⟩;have⟨a0,g,hd⟩:=bS hd;refine AK (OG e f g) ?_;rintro _ D ⟨E,t2,i,G,rfl,rfl,j⟩;refine⟨t2,rfl,?_⟩;have⟨k,H,l,m⟩:=lC (t:=t2) j;obtain rfl:=iS hd;exact AC ⟨k,t2,i,sb,rfl,rfl,l,m⟩
noncomputable def Cp (a:EC) (b:Int):Option (List C5):=(Bv a b).bind λt1=>(cloneD t1.2.2.1).bind λt2=>some t2
theorem FY {A:gL}{a:EC}{B:Int}(c:Pt Fy φ A a) (C:St φ (F) h) {r:(List C5)}(hd:Cp a B=some r):
 CallsH gP 91 [(.pointer A),(.int .i64 B)] h (Ap λv h'=>∃ψ:AD,∃y:Slc,∃b:List C5,Sub φ ψ∧v=fP.val y∧b=r∧Ro.SliceIs DR ψ y b∧St ψ (F) h'):=by
 refine AY mixed Tryz.func91 (JT ..) ?_;have⟨n,d,hd⟩:=bS hd;refine AK (Ex c C d) ?_;rintro _ o ⟨p,t1,q,s,u,w,rfl,rfl,x,z,e,f⟩;refine⟨t1,rfl,?_⟩;have⟨a0,g,hd⟩:=bS hd;refine AK (Sc e f g) ?_;rintro _ D ⟨E,t2,i,G,rfl,rfl,j⟩;refine⟨t2,rfl,?_⟩;have⟨k,H,l,m⟩:=lC (t:=t2) j;obtain rfl:=iS hd;exact AC ⟨k,t2,i,sb,rfl,rfl,l,m⟩
end
end Go.Proofs.YtkfgeafgfeppfaaGreatDoor
namespace Go.Proofs.YtkfgeafgfeppfaaGreatDoor
open Go Go.Eng Go.RowKit Go.Shelf Go.Sort
def orI (x y:Int):Int:=if x=0 then y else x
theorem or2 {b:Nat}{x y:Int}(w:World) (f:w.cell? ⟨b,0,none⟩=some (.int .i64 x)) (g:w.cell? ⟨b,1,none⟩=some (.int .i64 y)):
 Calls gP 111 #[.slice (fH b) 2 2] w λe w'=>e= .returned (.int .i64 (orI x y))∧w'=w:=by
 have hmx:Tryz.prog.follows .mixedOrders=true:=mixed
 go_enter Tryz.func111,Tryz.ntmps111
 go_wp2
 go_loop [5,8] (λ_ i=>∃k:Nat,k≤2∧i= .int .i64 k∧(1≤k→x=0)∧(2≤k→y=0)) (λ_ i=>match i with | .int _ m=>2 - m.toNat | _=>0)
 case atStart=>exact⟨0,by omega,rfl,by omega,by omega⟩
 case round=>
  obtain⟨k,hk,rfl,a,d⟩:=hrel;have c:k=0∨k=1∨k=2:=by omega
  rcases c with rfl | rfl | rfl
  ·go_wp2
   ·have hne:(x !=0)=true:=by assumption
    go_ret
    exact⟨by unfold orI;rw[gG (by simpa using hne)];rfl,rfl⟩
   ·have hne:(x !=0)=false:=by assumption
    exact⟨⟨1,by omega,rfl,λ_=>by simpa using hne,λh=>by omega⟩,by decide⟩
  ·go_wp2
   ·have hne:(y !=0)=true:=by assumption
    go_ret
    have hx:=a (by omega);subst hx;exact⟨rfl,rfl⟩
   ·have hne:(y !=0)=false:=by assumption
    exact⟨⟨2,by omega,rfl,λ_=>a (by omega),λ_=>by simpa using hne⟩,by decide⟩
  ·go_wp2
   go_ret
   have hx:=a (by omega);have hy:=d (by omega);subst hx;subst hy;exact⟨rfl,rfl⟩
theorem K0 {w:World}{b i:Nat}{c:Array Value}{t:TypeId}{v:Value}(hb:w.heap[b]? =some (.cells c t (0,0))) (hv:c[i]? =some v):w.cell? ⟨b,i,none⟩=some v:=by
 rw[TS,Fu (c:=c) (t:=t) (f:=(0,0)) hb rfl];exact hv
theorem Qb (w:World) (x y:Int):(w.alloc (.cells #[.int .i64 x,.int .i64 y] 3)).cell? ⟨w.heap.size,0,none⟩=some (.int .i64 x)∧(w.alloc (.cells #[.int .i64 x,.int .i64 y] 3)).cell? ⟨w.heap.size,1,none⟩=some (.int .i64 y):=by
 have hb:(w.alloc (.cells #[.int .i64 x,.int .i64 y] 3)).heap[w.heap.size]? =some (.cells #[.int .i64 x,.int .i64 y] 3 (0,0)):=by
  show(w.heap.push _)[w.heap.size]? =_;rw[kU,gF rfl]
 exact⟨K0 hb rfl,K0 hb rfl⟩
theorem PD (w:World) (o:Obj):w.alloc o=grow w #[o]:=by
 show({w with heap:=w.heap.push o} :World)= {w with heap:=w.heap++ #[o]};rw[Array.push_eq_append]
theorem cn {a b:Int×Int}(w:World):
 Calls gP 82 #[.agg #[.int .i64 a.1,.int .i64 a.2],.agg #[.int .i64 b.1,.int .i64 b.2]] w λe w'=>e= .returned (.int .i64 (orI (Lib.compareInt a.1 b.1) (Lib.compareInt a.2 b.2)))∧ ∃q os',w'=grow (w.drewN q) os':=by
 have hmx:Tryz.prog.follows .mixedOrders=true:=mixed;have c:∀args w,(callFunc 112 args).run gP w= .ok (.enter 112 args) w:=enters_of Tryz.func112 (by kernel_rfl) rfl;have d:∀args w,(callFunc 111 args).run gP w= .ok (.enter 111 args) w:=enters_of Tryz.func111 (by kernel_rfl) rfl
 go_enter Tryz.func82,Tryz.ntmps82
 go_wp2
 obtain⟨A,hA⟩:∃A,A=Obj.cells #[jC .i64 a.1,jC .i64 a.2] 73 (0,0):=⟨_,rfl⟩;obtain⟨B,hB⟩:∃B,B=Obj.cells #[jC .i64 b.1,jC .i64 b.2] 73 (0,0):=⟨_,rfl⟩;obtain⟨W,hW⟩:∃W,W=(w.alloc A).alloc B:=⟨_,rfl⟩;have hh:W.heap=(w.heap.push A).push B:=by rw[hW];rfl
 have ha:W.heap[w.heap.size]? =some A:=by rw[hh,kU,gG (by simp),kU,gF rfl]
 have hb:W.heap[w.heap.size+1]? =some B:=by rw[hh,kU,gF (by simp)]
 rw[←hA,←hB,←hW];rw[hA]at ha;rw[hB]at hb;have f:W.drew.cell? ⟨w.heap.size,0,none⟩=some (.int .i64 a.1):=K0 (w:=W.drew) ha rfl;have g:W.drew.cell? ⟨w.heap.size,1,none⟩=some (.int .i64 a.2):=K0 (w:=W.drew) ha rfl;have h:W.drew.cell? ⟨w.heap.size+1,0,none⟩=some (.int .i64 b.1):=K0 (w:=W.drew) hb rfl;have i:W.drew.cell? ⟨w.heap.size+1,1,none⟩=some (.int .i64 b.2):=K0 (w:=W.drew) hb rfl;have hWg:grow w #[A,B] =W:=by rw[hW,PD,PD,grow_grow];rfl
 clear hh ha hb hW hA hB;refine wp_region_still_tail 10 (by kernel_rfl) (by kernel_rfl) ?_;simp only[List.take_succ_cons,List.take_zero,List.drop_succ_cons,List.drop_zero]
 still_step
 still_step
 still_step
 still_step
 still_call (Any.cmp_Compare_int Ms _ _ _)
 still_step
 still_step
 still_step
 still_step
 still_call (Any.cmp_Compare_int Ms _ _ _)
 refine wpStill_nil ?_;clear f g h i;change wpList _ _ _ _ _ W.drew
 generalize hV:W.drew=V
 go_wp2_with (go_at_call 111;refine(or2 (x:=Lib.compareInt a.1 b.1) (y:=Lib.compareInt a.2 b.2) _ (Qb _ _ _).1 (Qb _ _ _).2).mono ?_;rintro e w' ⟨rfl,rfl⟩)
 go_ret
 refine⟨rfl,1,#[A,B] ++ #[.cells #[.int .i64 (Lib.compareInt a.1 b.1),.int .i64 (Lib.compareInt a.2 b.2)] 3 (0,0)],?_⟩;rw[PD,←hV,←hWg,←grow_grow];rfl
abbrev Item:=Int×Int
def GA (x:Item):List Value:=[.int .i64 x.1,.int .i64 x.2]
def cfI (x y:Item):Int:=orI (Lib.compareInt x.1 y.1) (Lib.compareInt x.2 y.2)
def EI (x y:Item):Bool:=decide (x.1<y.1∨x.1=y.1∧x.2<y.2)
def Gt (l:List Item):List Item:=QQ (λx y=> !EI y x) l
theorem M0 (a b c:Item) (d:(!EI b a)=true) (e:(!EI c b)=true):(!EI c a)=true:=by
 simp only[EI,lD,gK]at *;omega
theorem M1 (a b:Item):(!EI b a || !EI a b)=true:=by
 simp only[EI,Bool.or_eq_true,lD,gK];omega
theorem Vr (l:List Item):Gt l=l.mergeSort λx y=> !EI y x:=
 SL M0 M1 (λa b c d=>by
  simp only[EI,lD,gK]at *;exact mO (by omega) (by omega)) l
def Il (l:List Item):Option (List Item):=if l.length<4611686018427387904 then some (Gt l) else none
theorem Vs {φ:AD}{vs:List Value}{l:List Item}(H:BG.All φ vs l):vs=l.flatMap GA:=by
 induction H with
 |nil=>rfl
 |cons h _ ih=>
  obtain⟨_,_,rfl,rfl,rfl⟩:=h;rw[ih,lW];rfl
theorem Vt {φ:AD}(l:List Item):BG.All φ (l.flatMap GA) l:=by
 induction l with
 |nil=>exact .nil
 |cons x l ih=>exact Ro.All.cons (a:=GA x) ⟨[_],_,rfl,rfl,rfl⟩ ih
theorem XY (l:List Item):∀t:Nat,t<l.length *2→(l.flatMap GA)[t]? =some ((GA (l[t / 2]?.getD (0,0)))[t % 2]!):=by
 induction l with
 |nil=>intro t h;simp at h
 |cons x l ih=>
  intro t h;rw[lW]
  match t with
  | 0=>rfl
  | 1=>rfl
  |t+2=>
   rw[iT (by simp[GA])];have e:t+2 - (GA x).length=t:=by simp[GA]
   rw[e,ih t (by simp at h;omega),show(t+2) / 2=t / 2+1 by omega,List.getElem?_cons_succ,show(t+2) % 2=t % 2 by omega]
theorem M2 (l:List Item):(l.flatMap GA).length=l.length *2:=by
 induction l with
 |nil=>rfl
 |cons x l ih=>rw[lW,iH,ih,gZ];simp[GA];omega
theorem PE (l:List Item):flatK GA 2 l.toArray=(l.flatMap GA).toArray:=by
 refine ext_get! (by rw[size_flatK,iK,iK,M2]) λt ht=> ?_;rw[size_flatK,iK]at ht;rw[get_flatK _ _ _ _ (by simpa using ht)];have a:=XY l t ht;have ht':t< (l.flatMap GA).length:=by rw[M2];exact ht
 rw[gO ht']at a;rw[getElem!_pos _ t (by simpa using ht')];have b:t / 2<l.length:=by omega
 rw[getElem!_pos _ (t / 2) (by simpa using b)];rw[gO b]at a;simp only[List.getElem_toArray];exact(Option.some.inj a).symm
theorem PG (x y:Item):ltOf cfI x y=EI x y:=by
 unfold ltOf cfI EI orI Lib.compareInt;by_cases a:x.1<y.1
 ·simp[a]
 ·by_cases d:y.1<x.1
  ·have:¬x.1=y.1:=by omega
   simp[a,d,this]
  ·have b:x.1=y.1:=by omega
   by_cases c:x.2<y.2
   ·simp[b,c]
   ·by_cases e:y.2<x.2<;>simp[b,c,e]
theorem UA (x y:Item):EI x y=true↔(x.1<y.1∨x.1=y.1∧x.2<y.2):=by unfold EI;exact decide_eq_true_iff
theorem KR (x y:Item):EI x y=false↔¬(x.1<y.1∨x.1=y.1∧x.2<y.2):=by unfold EI;exact gK
theorem dS:SWO (ltOf cfI) where
 irrefl x:=by rw[PG,KR];omega
 trans x y z a b:=by rw[PG,UA]at *;omega
 ntrans x y z a b:=by rw[PG,KR]at *;omega
theorem dU (x y:Item) (a:ltOf cfI x y=false) (b:ltOf cfI y x=false):x=y:=by
 rw[PG,KR]at a b;exact mO (by omega) (by omega)
section
variable {φ:AD}{h:AE}{F:List Chk}
theorem UB {t:Slc}{l r:List Item}(c:St φ (cR 73 BG t l::F) h) (hd:Il l=some r):
 CallsH gP 81 [.slice t.1 t.2.1 t.2.2,.func (.func 82) #[] #[]] h (Ap λv h'=>∃ψ:AD,∃y:Unit,∃f:List Item,Sub φ ψ∧v=((.tuple []):Sh).val y∧f=r∧St ψ (cR 73 BG t f::F) h'):=by
 unfold Il at hd;split at hd
 ·rename_i hb
  cases hd;intro w hw;subst hw;rcases St.rowHoldsF c with⟨hl,hn⟩|⟨b,off,vs,ht,hall,hn,hlt,hfit,hH⟩
  ·subst hl;rw[hn];have hc:=AnyF.slices_SortFunc_none KJ t.1 t.2.2 (.func (.func 82) #[] #[]) w;refine(show Calls gP 81 #[.slice t.1 0 t.2.2,_] w _ from hc).mono ?_;rintro e w' ⟨rfl,rfl⟩;exact⟨B8.refl _,_,rfl,φ,(),_,jB _,rfl,rfl,by rw[show Gt [] = [] from rfl];exact c⟩
  ·have hvs:=Vs hall;subst hvs;have hHd:HoldsK GA 2 w b off l.toArray:=by unfold HoldsK;rw[PE];exact hH
   have hc:=AnyQ.slices_SortFunc_total KJ 2 (λw=>Tryz.isAgg73 w) (λw=>Tryz.sizeOf73 w) GA (λ_=>rfl) (λx v hv=>by simp[GA]at hv;rcases hv with rfl | rfl<;>rfl) cfI dS 82 #[] b off t.2.2 l.toArray w
    (enters_of Tryz.func82 (by kernel_rfl) rfl) (λm os dk hdk x y=>cn (a:=x) (b:=y) _) hHd hlt (by simpa using hb) dU
   have d:t.2.1=l.toArray.size:=by rw[hn];simp
   rw[ht,d];refine(show Calls gP 81 #[.slice (some ⟨b,off,none⟩) l.toArray.size t.2.2,_] w _ from hc).mono ?_;rintro e w' ⟨rfl,k,os,rfl⟩;have hsrt:(l.toArray.toList.mergeSort λx y=> !(ltOf cfI) y x)=Gt l:=by
    rw[Vr];congr 1;funext x y;rw[PG]
   rw[hsrt];have hlen:(Gt l).length=l.length:=(DT _ _).length_eq;have g:=St.rowSortedF c ht ((Gt l).flatMap GA) (Vt _) hlen (by rw[M2,hlen,←M2];exact hfit) k os;refine⟨⟨rfl,rfl,rfl,by unfold sortWorldK;rw[size_grow,size_putRowK];exact Nat.le_add_right _ _⟩,_,rfl,φ,(),_,jB _,rfl,rfl,?_⟩;unfold sortWorldK putRowK;rw[PE];exact g
 ·cases hd
end
end Go.Proofs.YtkfgeafgfeppfaaGreatDoor
namespace Go.Proofs.YtkfgeafgfeppfaaGreatDoor
open Go Go.Eng
noncomputable def BR (a:HY) (c:List A9):Option (List A9):=(cloneD c).bind λt1=>(loop (σ:=(Int×List A9×List (Int×Bool))) (β:=(List A9×List (Int×Bool))) (0,t1,([]:List (Int×Bool))) λd=>cond (decide (d.1< (d.2.1.length:Int))) (((idx d.2.1 d.1).bind λf=>(CE a (f.1,f.2)).bind λg=>(cond (decide (g< 0)) (some true) ((Bu (a.1,a.2.1,a.2.2.1,a.2.2.2.1,a.2.2.2.2.1,a.2.2.2.2.2.1) g).bind λi=>cond i (some true) ((some (BT g d.2.2)).bind λj=>some (Option.getD j false)))).bind λk=>cond k (some (d.2.1,d.2.2)) ((forS (σ:=List A9) 0 (a.2.2.1.length:Int) d.2.1 λb e=>(idx a.2.2.1 b).bind λh=>(cond (h.1==g) ((Aw e (b,0)).bind λl=>some (!l)) (some false)).bind λm=>(cond m ((app e ([(b,0)]:List A9)).bind λn=>some n) (some e)).bind λo=>some o).bind λp=>some (p,(CH g true d.2.2)))).bind λr=>some (mC ((gR .i64 (d.1+1)),r.1,r.2))) (some (mR (d.2.1,d.2.2)))).bind λs=>(Il s.1).bind λq=>some q
theorem H9 {φ:AD}{h:AE}{F:List Chk}{C:gL}{b:HY}{B:Slc}{bb:List A9}(c6:Ro.SliceIs BG φ B bb) (s0:St φ (cO 101 (jL Cc) C b::F) h) {r:(List A9)}(hd:BR b bb=some r):
 CallsH gP 57 [(.pointer C),(sv B)] h (Ap λv h'=>∃ψ:AD,∃y:Slc,∃bd:List A9,Sub φ ψ∧v=fP.val y∧bd=r∧Ro.SliceIs BG ψ y bd∧St ψ (cO 101 (jL Cc) C b::F) h'):=by
 refine AY mixed Tryz.func57 (Ht ..) ?_;have⟨eu,c7,hd⟩:=bS hd;refine AK (OG c6 s0 c7) ?_;rintro _ ev ⟨N,t1,c8,ew,rfl,rfl,c9⟩;refine⟨t1,rfl,?_⟩;refine Df (kyI .i64) lL c9 λD ex ch=> ?_;have⟨cl,cm,hd⟩:=bS hd;refine Ag (λy w_ g=>∃ψ:AD,∃bf:List A9,∃bg:List (Int×Bool),Sub N ψ∧(bf,bg)=g∧St ψ (cR 73 BG y.2.1 bf::cM (kyI .i64) lL D bg::cO 101 (jL Cc) C b::F) w_) (g:=cl) ?_ ?_
 ·refine CA cm (λy w_ g=>∃ψ:AD,∃bi:List A9,∃bj:List (Int×Bool),Sub N ψ∧(y.1,bi,bj)=g∧St ψ (cR 73 BG y.2.1 bi::cM (kyI .i64) lL D bj::cO 101 (jL Cc) C b::F) w_) ((0:Int),t1,()) rfl ⟨N,c8,([]:List (Int×Bool)),sb,rfl,ch.at1.at2.at2.at2⟩ ?_
  ·rintro E ey _ _ ⟨bl,p,e,ez,rfl,q⟩ f cp;have cs:=q.rowLen;refine AH f (by rw[cs] <;>rfl) (λ_ f=> ?_) (λ_ f=> ?_)
   ·have⟨cw,c,f⟩:=bS f;refine Ag (λy w_ g=>∃ψ:AD,∃bn:List A9,∃bp:List (Int×Bool),Sub bl ψ∧(bn,bp)=g∧St ψ (cR 73 BG y.1 bn::cM (kyI .i64) lL D bp::cO 101 (jL Cc) C b::F) w_) (g:=cw) ?_ ?_
    ·refine ca q c λbq c=> ?_;have⟨f0,cx,c⟩:=bS c;refine AK (Dc (x_1:=(bq.1,bq.2,())) q.at2 cx) ?_;rintro _ f1 ⟨bs,G,f2,rfl,rfl,bt⟩;refine⟨G,rfl,?_⟩;have⟨d0,d,c⟩:=bS c;refine Aa (λy w_ g=>∃ψ:AD,Sub bs ψ∧y.1=g∧St ψ (cO 101 (jL Cc) C b::cR 73 BG E.2.1 p::cM (kyI .i64) lL D e::F) w_) (g:=d0) ?_ ?_
     ·refine AH d rfl (λ_ d=> ?_) (λ_ d=> ?_)
      ·have d1:=bt.at2;obtain rfl:=iS d;exact AO (true,()) rfl ⟨bs,sb,rfl,d1.at2.at2⟩
      obtain⟨f3,f4,d2,⟨_,_,rfl,⟨O,rfl,P⟩,_,_,rfl,⟨Q,rfl,R⟩,_,_,rfl,⟨S,rfl,ad⟩,_,_,rfl,⟨al,rfl,ap⟩,_,_,rfl,⟨ax,rfl,T⟩,_,_,rfl,⟨U,rfl,V⟩,_,_,rfl,rfl,rfl⟩,j⟩:=oC bt;subst d2;refine AF _ rfl<|AA j rfl<|AA j rfl<|AA j rfl<|AA j rfl<|AA j rfl<|AA j rfl ?_;have⟨f5,d3,d⟩:=bS d;refine AK (FM (p_0:=(O,Q,S,al,ax,U,())) (d_p_0:=(b.1,b.2.1,b.2.2.1,b.2.2.2.1,b.2.2.2.2.1,b.2.2.2.2.2.1)) ⟨P,R,ad,ap,T,V⟩ j d3) ?_;rintro _ f6 ⟨bx,W,f7,rfl,rfl,X⟩;refine⟨W,rfl,?_⟩;refine AH d rfl (λ_ d=> ?_) (λ_ d=> ?_)
      ·have d4:=oD (r:=Cc) (x:=(b.1,b.2.1,b.2.2.1,b.2.2.2.1,b.2.2.2.2.1,b.2.2.2.2.2.1,b.2.2.2.2.2.2.1,(b.2.2.2.2.2.2.2))) X ⟨[_],_,rfl,⟨O,rfl,P.up⟩,⟨[_],_,rfl,⟨Q,rfl,R.up⟩,⟨[_],_,rfl,⟨S,rfl,ad.up⟩,⟨[_],_,rfl,⟨al,rfl,ap.up⟩,⟨[_],_,rfl,⟨ax,rfl,T.up⟩,⟨[_],_,rfl,⟨U,rfl,V.up⟩,⟨[_],_,rfl,rfl,rfl⟩⟩⟩⟩⟩⟩⟩;obtain rfl:=iS d;exact AO (true,()) rfl ⟨bx,sb,rfl,d4.at2.at2.at2⟩
      have⟨f8,d5,d⟩:=bS d;obtain rfl:=iS d5;refine GZ (a:=.bool) (kk:=(kyI .i64)) (i:=Tryz.t4) false nD lZ (by kernel_rfl) rfl X.at2 ?_;have d6:=oD (r:=Cc) (x:=(b.1,b.2.1,b.2.2.1,b.2.2.2.1,b.2.2.2.2.1,b.2.2.2.2.2.1,b.2.2.2.2.2.2.1,(b.2.2.2.2.2.2.2))) X ⟨[_],_,rfl,⟨O,rfl,P.up⟩,⟨[_],_,rfl,⟨Q,rfl,R.up⟩,⟨[_],_,rfl,⟨S,rfl,ad.up⟩,⟨[_],_,rfl,⟨al,rfl,ap.up⟩,⟨[_],_,rfl,⟨ax,rfl,T.up⟩,⟨[_],_,rfl,⟨U,rfl,V.up⟩,⟨[_],_,rfl,rfl,rfl⟩⟩⟩⟩⟩⟩⟩;obtain rfl:=iS d;exact AO (((BT G e).getD false),()) rfl ⟨bx,sb,rfl,d6.at2.at2.at2⟩
     rintro h4 f9 ⟨Y,fa,rfl,bz⟩;refine AH c rfl (λ_ c=> ?_) (λ_ c=> ?_)
     ·have d7:=bz.at1;obtain rfl:=iS c;exact AL (E.2.1,()) rfl ⟨Y,p,e,sb,rfl,d7.at1.at2.at2⟩
     refine J0 (kk:=(kyI .i64)) (y:=true) nD lZ bz.at2 rfl λfb d8=> ?_;obtain⟨Z,fc,d9,⟨_,_,rfl,⟨s,rfl,da⟩,_,_,rfl,⟨u,rfl,db⟩,_,_,rfl,⟨w,rfl,b6⟩,_,_,rfl,⟨z,rfl,dc⟩,_,_,rfl,⟨a0,rfl,dd⟩,_,_,rfl,⟨K,rfl,de⟩,_,_,rfl,rfl,rfl⟩,c0⟩:=oC d8.at1;subst d9;have c1:=b6.length;refine AF _ rfl<|AA c0 rfl ?_;have⟨fd,df,c⟩:=bS c;refine BM df (λdg y w_ g=>∃ψ:AD,∃c2:List A9,Sub Y ψ∧y.1=dg∧c2=g∧St ψ (cR 73 BG y.2.1 c2::cW 101 Z [sv s,sv u,sv w,sv z,sv a0,sv K,sv b.2.2.2.2.2.2.1,.int .i64 (b.2.2.2.2.2.2.2)]::cM (kyI .i64) lL D (CH G true e)::F) w_) ((0:Int),E.2.1,()) rfl ⟨Y,p,sb,rfl,rfl,c0.at2.at2.at2.at2⟩ ?_ ?_ ?_
     ·rintro _ A fe _ _ ⟨b7,c3,ff,rfl,rfl,L⟩ k fg dh di;refine Ac (dT c1 dh) ?_;have⟨n,dj,k⟩:=bS k;obtain⟨fh,fi,dk,dl,dm,b8⟩:=(b6.up (ψ:=b7)).get dj;refine AF _ dk (Ah dl ?_);obtain⟨_,_,rfl,rfl,⟨_,_,rfl,⟨b9,rfl,fj⟩,rfl⟩⟩:=dm;refine AG (x:=n.1) (AJ (lJ sb L.sub) (b8 0 _ rfl)) rfl<|AG (x:=b9) (by rw[An];exact(AJ (lJ sb L.sub) (b8 1 _ rfl))) rfl<|AG (x:=n.2.2) (by rw[An];exact(AJ (lJ sb L.sub) (b8 2 _ rfl))) rfl<|AV (vs:=[.int .i64 (0:Int),.slice none 0 0,.int .i64 (0:Int)]) L λH fk ds=>AQ ds rfl rfl λfl dt=>AQ dt rfl rfl λfm du=>AQ du rfl rfl λfn dv=>AV (vs:=[.int .i64 (0:Int),.int .i64 (0:Int)]) dv λI fo dw=>AQ dw rfl rfl λfp dx=>AQ dx rfl rfl λfq o=> ?_;have⟨dy,l,k⟩:=bS k;refine Aa (λy w_ g=>∃ψ:AD,Sub b7 ψ∧y.1=g∧St ψ (cW 73 I [.int .i64 A.1,.int .i64 (0:Int)]::cW 95 H [.int .i64 n.1,sv b9,.int .i64 n.2.2]::cR 73 BG A.2.1 c3::cW 101 Z [sv s,sv u,sv w,sv z,sv a0,sv K,sv b.2.2.2.2.2.2.1,.int .i64 (b.2.2.2.2.2.2.2)]::cM (kyI .i64) lL D (CH G true e)::F) w_) (g:=dy) ?_ ?_
      ·refine AA o.at1 rfl<|AH l rfl (λ_ l=> ?_) (λ_ l=> ?_)
       ·refine AA o rfl<|AA (x:=(0:Int)) o rfl ?_;have⟨fr,dz,l⟩:=bS l;refine AK (Dj (v_1:=(A.1,(0:Int),())) o.at2 dz) ?_;rintro _ fs ⟨e0,J,ft,rfl,rfl,e1⟩;refine⟨J,rfl,?_⟩;obtain rfl:=iS l;exact AO ((!J),()) rfl ⟨e0,sb,rfl,e1.at4.at4.at2.at4.at4⟩
       obtain rfl:=iS l;exact AO (false,()) rfl ⟨b7,sb,rfl,o.at4.at4.at4.at4.at4⟩
      rintro h5 fu ⟨ba,fv,rfl,M⟩;have⟨e2,m,k⟩:=bS k;refine Aa (λy w_ g=>∃ψ:AD,∃c4:List A9,Sub ba ψ∧c4=g∧St ψ (cR 73 BG y.1 c4::cW 73 I [.int .i64 A.1,.int .i64 (0:Int)]::cW 95 H [.int .i64 n.1,sv b9,.int .i64 n.2.2]::cW 101 Z [sv s,sv u,sv w,sv z,sv a0,sv K,sv b.2.2.2.2.2.2.1,.int .i64 (b.2.2.2.2.2.2.2)]::cM (kyI .i64) lL D (CH G true e)::F) w_) (g:=e2) ?_ ?_
      ·refine AH m rfl (λ_ m=> ?_) (λ_ m=> ?_)
       ·refine AA M rfl<|AA (x:=(0:Int)) M rfl<|AV (vs:=[.int .i64 A.1,.int .i64 (0:Int)]) M λh6 fw c5=> ?_;have⟨e3,e4,m⟩:=bS m;refine AX (r:=BG) (ms:=([(A.1,(0:Int))]:List A9)) Cm c5.tail.at2 rfl (lM c5) (.cons (a:=[_,_]) ⟨[_],_,rfl,rfl,rfl⟩ .nil) rfl e4 ?_;intro h0 fx e5;obtain rfl:=iS m;exact AO (h0,()) rfl ⟨ba,e3,sb,rfl,e5.at4.at4.at4.at4.at4⟩
       obtain rfl:=iS m;exact AO (A.2.1,()) rfl ⟨ba,c3,sb,rfl,M.at2.at4.at4.at4.at4.at4⟩
      rintro h1 fy ⟨e6,e7,fz,rfl,e8⟩;obtain rfl:=iS k;exact AZ ((wN A.1),h1.1,()) _ rfl rfl ⟨e6,e7,sb,di,rfl,e8.at1.tail.at1.tail.at2.at2.at2⟩
     ·rintro _ A g0 ⟨e9,ea,g1,rfl,rfl,eb⟩ ec;refine AU (dF c1 ec)<|AI (AL (A.1,A.2.1,()) rfl ⟨_,e9,ea,sb,rfl,rfl,eb.at2.at2.at2⟩)
     rintro h2 g2 ⟨_,ed,ee,g3,_,rfl,ef⟩;have eg:=oD (r:=Cc) (x:=(b.1,b.2.1,b.2.2.1,b.2.2.2.1,b.2.2.2.2.1,b.2.2.2.2.2.1,b.2.2.2.2.2.2.1,(b.2.2.2.2.2.2.2))) ef.at1 ⟨[_],_,rfl,⟨s,rfl,da.up⟩,⟨[_],_,rfl,⟨u,rfl,db.up⟩,⟨[_],_,rfl,⟨w,rfl,b6.up⟩,⟨[_],_,rfl,⟨z,rfl,dc.up⟩,⟨[_],_,rfl,⟨a0,rfl,dd.up⟩,⟨[_],_,rfl,⟨K,rfl,de.up⟩,⟨[_],_,rfl,rfl,rfl⟩⟩⟩⟩⟩⟩⟩;obtain rfl:=iS c;exact FG (h2.2.1,()) rfl ⟨ed,ee,(CH G true e),sb,rfl,eg.at2.at2⟩
    rintro z5 g4 ⟨eh,ei,ej,g5,rfl,ek⟩;obtain rfl:=iS f;exact AZ ((wN E.1),z5.1,()) _ rfl rfl ⟨eh,ei,ej,sb,rfl,ek.at2.at2.at2⟩
   obtain rfl:=iS f;obtain rfl:=cp _ rfl;exact AI (AL (E.1,E.2.1,()) rfl ⟨bl,p,e,sb,rfl,q.at2.at2.at2⟩)
 rintro z3 g6 ⟨g7,g8,g9,ga,rfl,el⟩;have⟨gb,em,hd⟩:=bS hd;refine AK (UB el em) ?_;rintro _ gc ⟨gd,h3,en,ge,rfl,rfl,eo⟩;refine⟨h3,rfl,?_⟩;have⟨ep,gf,er,es⟩:=lC (t:=z3.2.1) eo;obtain rfl:=iS hd;exact AC ⟨ep,z3.2.1,en,sb,rfl,rfl,er,es.tail⟩
abbrev dtB:Type:=(List Item×List Item×Slc×Int×Int)
abbrev roB:Ro dtB:=oG (lR BG) (oG (lR BG) (oG Ro.slc (oG (hQ .i64) (hQ .i64))))
abbrev dtK:Type:=(List Item×List Item×Int×Int)
abbrev Lr {ε:Type}(b:dtK) (s:ε):List Item×List Item×ε×Int×Int:=(b.1,b.2.1,s,b.2.2.1,b.2.2.2)
abbrev Ey {ε:Type}(B:List dtK) (S:List ε):List (List Item×List Item×ε×Int×Int):=List.zipWith Lr B S
theorem Do {ε:Type}{B:List dtK}{S:List ε}(h:S.length=B.length):(Ey B S).length=B.length:=by
 unfold Ey;rw[List.length_zipWith];omega
theorem Vu {ε:Type}{B:List dtK}{S:List ε}(h:S.length=B.length) (b:dtK) (s:ε):Ey (B++ [b]) (S++ [s])=Ey B S++ [Lr b s]:=by
 unfold Ey;rw[mS h.symm];rfl
abbrev Fd:Type:=List (gN×Int)
abbrev qA (p:Au) (s:Slc) (t:Int):HY:=(p.1,p.2.1,p.2.2.1,p.2.2.2.1,p.2.2.2.2.1,p.2.2.2.2.2,s,t)
abbrev Cv:Slc:=(none,0,0)
theorem Se (p:Au) (s:Slc) (t:Int) (k:List Item):BR (qA p s t) k=BR (qA p Cv 0) k:=rfl
abbrev bC (c d e f m a r1 b:Nat) (fd:Fd) (p:Au) (ls:Slc) (tot:Int) (L:List dtB) (rm cl:Cu) (F:List Chk):List Chk:=
 cW 142 c [.map (some m)]::cM kyS (hQ .i64) m fd::cW 41 d [pv a]::cO 101 (jL Cc) (fH a) (qA p ls tot)::cR 118 roB ls L::
 cW 140 e [pv r1]::cO 167 (jL Fz) (fH r1) rm::cW 140 f [pv b]::cO 167 (jL Fz) (fH b) cl::F
noncomputable def Vv (p:Au) (fd:Fd) (B:List dtK) (rm cl:Cu) (k:List Item) (fr wi:Int):Option (Int×Int×Fd×List dtK×Cu×Cu):=(ET k).bind λs=>cond (BT s fd).isSome (some ((BT s fd).getD 0,0,fd,B,rm,cl)) ((BR (qA p Cv 0) k).bind λits=>(Cx rm 1).bind λt=>(cond (t.1==0) ((Cx cl (its.length:Int)).bind λu=>some (u.1,u.2)) (some (t.1,cl))).bind λz=>(app B [(k,its,fr,wi)]).bind λB'=>some (gR .i64 ((B'.length:Int) - 1),z.1,CH s (B.length:Int) fd,B',t.2,z.2))
theorem dV:Fv gP 99 99 118 5:=⟨nQ,.inl nQ,⟨Tryz.t118,by kernel_rfl,rfl,⟨_,rfl,rfl⟩,by decide,by decide⟩,by decide⟩
theorem St.bC_of {φ:AD}{h:AE}{a0 a b c d e f g i:Chk}{F:List Chk}(H:St φ (c::d::a::i::f::a0::b::e::g::F) h):St φ (a0::a::b::c::d::e::f::g::i::F) h:=
 H.at3.at8.at5.at8.at5.at5.at8.at7.at8
theorem U1 {φ:AD}{h:AE}{F:List Chk}{t:Slc}{k:List Item}{fr wi:Int}{I J K L m a r1 C:Nat}{fd:Fd}{p:Au}{ls:Slc}{tot:Int}{B:List dtK}{S:List Slc}{rm cl:Cu}
 (gk:Glob φ) (W:Ro.SliceIs BG φ t k) (hS:S.length=B.length) (s0:St φ (bC I J K L m a r1 C fd p ls tot (Ey B S) rm cl F) h) {r:Int×Int×Fd×List dtK×Cu×Cu} (hd:Vv p fd B rm cl k fr wi=some r):
 CallsH gP 55 [.slice t.1 t.2.1 t.2.2,.int .i64 fr,.int .i64 wi,pv I,pv J,pv K,pv L] h (Ap λv h'=>∃(ψ:AD) (y:Int×Int×Unit) (ls':Slc) (S':List Slc),Sub φ ψ∧v=((.tuple [.atom (.int .i64),.atom (.int .i64)]):Sh).val y∧y.1=r.1∧y.2.1=r.2.1∧
  ((r.2.2.2.1=B∧S'=S)∨ ∃x,r.2.2.2.1=B++ [x] ∧S'=S++ [Cv])∧St ψ (bC I J K L m a r1 C r.2.2.1 p ls' tot (Ey r.2.2.2.1 S') r.2.2.2.2.1 r.2.2.2.2.2 F) h'):=by
 refine Av mixed Tryz.func55 ?_;rw[MD];unfold Hv;unfold Vv at hd;have⟨s,hs,hd⟩:=bS hd;refine AA (x:=some m) s0 rfl<|AK (KQ gk W s0 hs) ?_;rintro _ h1 ⟨ψ1,s,f,rfl,rfl,M⟩;refine⟨s,rfl,?_⟩;refine AN (lX M rfl)<|Vi (a:=.int .i64) (kk:=kyS) (i:=Tryz.t3) 0 nF lH (by kernel_rfl) rfl M.at1 λy hy=> ?_;subst hy;refine AH hd rfl (λ_ hd=> ?_) (λ_ hd=> ?_)
 ·obtain rfl:=iS hd;exact AC ⟨ψ1,((BT s fd).getD 0,0,()),ls,S,f,rfl,rfl,rfl,.inl ⟨rfl,rfl⟩,M⟩
 have⟨its,hc,hd⟩:=bS hd;have⟨tk,ht,hd⟩:=bS hd;have⟨z,hz,hd⟩:=bS hd;obtain⟨B',hB,hd⟩:=bS hd;obtain rfl:=iS hd;refine AA (x:=some ⟨a,0,none⟩) M.at2 rfl<|AK (H9 (W.mono f) M.at3 (by rw[Se];exact hc)) ?_;rintro _ h2 ⟨ψ2,D,Y,N,rfl,rfl,k2,s2⟩;refine⟨D,rfl,?_⟩;have n2:=k2.length;have a7:=f.trans N;refine AV (vs:=[.slice none 0 0,.slice none 0 0,.slice none 0 0,.int .i64 (0:Int),.int .i64 (0:Int)]) s2 λr6 h3 s3=>AQ s3 rfl rfl λh4 s4=>AQ s4 rfl rfl λh5 s5=>AQ s5 rfl rfl λh6 s6=>AQ s6 rfl rfl λh7 s7=>AQ s7 rfl rfl λh8 s8=> ?_;have O:St ψ2 (cW 118 r6 [sv t,sv D,.slice none 0 0,.int .i64 fr,.int .i64 wi]::cO 101 (jL Cc) (fH a) (qA p ls tot)::cW 142 I [.map (some m)]::cM kyS (hQ .i64) m fd::cW 41 J [pv a]::cR 118 roB ls (Ey B S)::
  cW 140 K [pv r1]::cO 167 (jL Fz) (fH r1) rm::cW 140 L [pv C]::cO 167 (jL Fz) (fH C) cl::F) h8:=s8
 refine AA (x:=some ⟨r1,0,none⟩) O.at6 rfl<|AK (F4 O.at7 ht) ?_;rintro _ h9 ⟨ψ3,y3,rm',P,rfl,rfl,X⟩;refine⟨y3,rfl,?_⟩;dsimp only at hz;refine Aa (λ(y:Int×Unit) w (g:Int×Cu)=>∃(ψ:AD) (cl':Cu),Sub ψ3 ψ∧(y.1,cl')=g∧St ψ (cO 167 (jL Fz) (fH C) cl'::cO 167 (jL Fz) (fH r1) rm'::cW 118 r6 [sv t,sv D,.slice none 0 0,.int .i64 fr,.int .i64 wi]::
  cO 101 (jL Cc) (fH a) (qA p ls tot)::cW 142 I [.map (some m)]::cM kyS (hQ .i64) m fd::cW 41 J [pv a]::cR 118 roB ls (Ey B S)::cW 140 K [pv r1]::cW 140 L [pv C]::F) w) (g:=z) ?_ ?_
 ·refine AH hz rfl (λ_ hz=> ?_) (λ_ hz=> ?_)
  ·have⟨u,hu,hz⟩:=bS hz;obtain rfl:=iS hz;refine AA (x:=some ⟨C,0,none⟩) X.at8 rfl<|AA (x:=D) X.at1 rfl ?_;rw[←n2]at hu;refine AK (F4 X.at9 hu) ?_;rintro _ a8 ⟨ψ4,y4,cl',Z,rfl,rfl,a0⟩;refine⟨y4,rfl,?_⟩;exact AO (y4,()) rfl ⟨ψ4,cl',Z,rfl,a0⟩
  ·obtain rfl:=iS hz;exact AO (y3,()) rfl ⟨ψ3,cl,jB _,rfl,X.at9⟩
 rintro z9 a9 ⟨ψ5,cl',Q,rfl,E⟩;refine AA (x:=some m) E.at4 rfl<|AA (x:=some ⟨a,0,none⟩) E.at6 rfl<|AF _ rfl ?_;have R:=E.at3;obtain⟨b,vs,e,⟨_,_,rfl,⟨u1,rfl,a1⟩,_,_,rfl,⟨u2,rfl,a2⟩,_,_,rfl,⟨u3,rfl,a3⟩,_,_,rfl,⟨u4,rfl,a4⟩,_,_,rfl,⟨u5,rfl,a5⟩,_,_,rfl,⟨u6,rfl,a6⟩,_,_,rfl,rfl,rfl⟩,T⟩:=oC R;obtain rfl:a=b:=by simpa using e
 refine AA (x:=ls) T rfl ?_;have o:=(N.trans P).trans Q;have q:=f.trans o;refine AK (KQ (gk.mono q) (W.mono q) T hs) ?_;rintro _ b0 ⟨ψ6,q6,d,rfl,rfl,l⟩;refine⟨q6,rfl,?_⟩;refine AN (lX (b:=a) (j:=6) l rfl)<|AN (lX l.at6 rfl)<|AN (lX l.at4 rfl) ?_;have nL:=St.rowLen l.at7;rw[Do hS]at nL;refine J0 (kk:=kyS) (y:=(ls.2.1:Int)) nF lH l.at5 rfl λb1 c=>AA (x:=some ⟨a,0,none⟩) c.at6 rfl<|AA (x:=some ⟨a,0,none⟩) c.at6 rfl<|AF _ rfl<|AA (x:=ls) c.at1 rfl<|AA (x:=t) c.at4 rfl<|AA (x:=D) c.at4 rfl<|AA (x:=Cv) c.at4 rfl<|AA (x:=fr) c.at4 rfl<|AA (x:=wi) c.at4 rfl<|AV (vs:=[sv t,sv D,.slice none 0 0,.int .i64 fr,.int .i64 wi]) c λb2 b3 n=>AN (lX (b:=a) (j:=6) n.at2 rfl)<|AN (lX n.at7 rfl)<|AN (lX n.at7 rfl) ?_;have cw:=lM n;have U:=o.trans d;have A:=f.trans U;obtain⟨hapl,rfl⟩:=Hp hB;have hap:app (Ey B S) [Lr (k,Y,fr,wi) Cv] =some (Ey (B++ [(k,Y,fr,wi)]) (S++ [Cv])):=by
  unfold app;rw[Do hS,Vu hS,gF (by simpa using hapl)]
 refine AX (r:=roB) (ms:=[Lr (k,Y,fr,wi) Cv]) dV (n.tail.at7) rfl cw (.cons (a:=[_,_,_,_,_]) ⟨[_],_,rfl,⟨t,rfl,W.mono A⟩,[_],_,rfl,⟨D,rfl,k2.mono (((P.trans Q)).trans d)⟩,[_],_,rfl,rfl,[_],_,rfl,rfl,rfl⟩ .nil) rfl hap λls' b4 G=> ?_;have nL':=St.rowLen G;rw[Do (by simp[hS])]at nL';refine AN (lX G.at7 rfl)<|AF _ rfl<|AQ G.at2 rfl rfl λb5 H=>AA (x:=some ⟨a,0,none⟩) H.at7 rfl<|AF _ rfl<|AA (x:=ls') H rfl ?_;have V:=oD (r:=Cc) (x:=qA p ls' tot) H ⟨[_],_,rfl,⟨u1,rfl,a1.mono d⟩,[_],_,rfl,⟨u2,rfl,a2.mono d⟩,[_],_,rfl,⟨u3,rfl,a3.mono d⟩,[_],_,rfl,⟨u4,rfl,a4.mono d⟩,[_],_,rfl,⟨u5,rfl,a5.mono d⟩,[_],_,rfl,⟨u6,rfl,a6.mono d⟩,[_],_,rfl,rfl,rfl⟩;refine AC ⟨ψ6,(gR .i64 ((ls'.2.1:Int) - 1),z9.1,()),ls',S++ [Cv],A,rfl,by rw[nL'],rfl,.inr ⟨_,rfl,rfl⟩,?_⟩;rw[nL]at V;exact St.bC_of V.at5.tail
abbrev Edge:Type:=Int×Int
abbrev BSt:Type:=Fd×List dtK×List (List Edge)×Cu×Cu
def Dp (E:List (List Edge)) (n n':Nat):List (List Edge):=if n'=n then E else E++ [[]]
noncomputable def U2 (p:Au) (b:dtK) (i sym:Int) (y:BSt):Option (AW BSt Int):=(CW (qA p Cv 0) b.2.1 sym).bind λk=>(Vv p y.1 y.2.1 y.2.2.2.1 y.2.2.2.2 k i sym).bind λr=>cond (r.2.1 !=0) (some (mR r.2.1)) ((idx (Dp y.2.2.1 y.2.1.length r.2.2.2.1.length) i).bind λel=>(app el [(sym,r.1)]).bind λel'=>(DB (Dp y.2.2.1 y.2.1.length r.2.2.2.1.length) i el').bind λE'=>some (mC (r.2.2.1,r.2.2.2.1,E',r.2.2.2.2.1,r.2.2.2.2.2)))
noncomputable def RT (p:Au) (b:dtK) (i:Int) (y:BSt):Option (AW BSt Int):=(B6 (qA p Cv 0) b.2.1).bind λsyms=>DE 0 (syms.length:Int) y λj y=>(idx syms j).bind λsym=>U2 p b i sym y
noncomputable def OX (p:Au) (y:BSt):Option (AW BSt Int):=
 loop (σ:=Int×BSt) (0,y) λz=>
  cond (decide (z.1< (z.2.2.1.length:Int)))
   ((idx z.2.2.1 z.1).bind λb=>(RT p b z.1 z.2).bind λe=>match e with
    |.next y=>some (mC (gR .i64 (z.1+1),y))
    |.done q=>some (mR (mR q)))
   (some (mR (mC z.2)))
noncomputable def PH (p:Au) (st it:Int):Option (Option EC×Int):=
 (F3 st).bind λrm=>
 (F3 it).bind λcl=>
 (Vv p [] [] rm cl [(0,0)] (-1) (-1)).bind λr=>
 cond (r.2.1 !=0) (some (none,r.2.1))
 ((OX p (r.2.2.1,r.2.2.2.1,Dp [] 0 r.2.2.2.1.length,r.2.2.2.2.1,r.2.2.2.2.2)).bind λe=>match e with
  |.next y=>(Ev y.2.2.2.2).bind λtot=>some (some (p.1,p.2.1,p.2.2.1,p.2.2.2.1,p.2.2.2.2.1,p.2.2.2.2.2,Ey y.2.1 y.2.2.1,tot),0)
  |.done q=>some (none,q))
theorem XZ (p:Au) (s:Slc) (t:Int) (l:List Item) (x:Int):CW (qA p s t) l x=CW (qA p Cv 0) l x:=rfl
theorem Sf (p:Au) (s:Slc) (t:Int) (l:List Item):B6 (qA p s t) l=B6 (qA p Cv 0) l:=rfl
theorem PI {ε:Type}{B:List dtK}{S:List ε}{i:Int}{b:dtK}{s:ε}(hb:idx B i=some b) (hs:S[i.toNat]? =some s):idx (Ey B S) i=some (Lr b s):=by
 have⟨a,_,c⟩:=CC hb;unfold idx;rw[gF a];unfold Ey;rw[List.getElem?_zipWith,c,hs]
theorem Xa {ε:Type}:∀ {B:List dtK}{S:List ε}{n:Nat}{b:dtK}(s:ε),B[n]? =some b→(Ey B S).set n (Lr b s)=Ey B (S.set n s):=by
 intro B
 induction B with
 |nil=>intro S n b s h;simp at h
 |cons x B ih=>
  intro S n b s h;cases S with
  |nil=>rfl
  |cons u S=>
   cases n with
   |zero=>
    simp only[lY,Option.some.injEq]at h;subst h;rfl
   |succ n=>exact gH _ (ih s (by simpa using h))
def C2 (φ:AD) (S:List Slc) (E:List (List Edge)) (c:Nat):Prop:= ∀(j:Nat) s e,j≠c→S[j]? =some s→E[j]? =some e→Ro.SliceIs DR φ s e
def GB (S:List Slc) (E:List (List Edge)) (i:Nat):Prop:= ∀j:Nat,i≤j→(∀s,S[j]? =some s→s=Cv)∧ ∀e,E[j]? =some e→e= []
theorem C2.mono {φ ψ:AD}{S:List Slc}{E:List (List Edge)}{c:Nat}(H:C2 φ S E c) (hs:Sub φ ψ):C2 ψ S E c:=λj s e hj a b=>(H j s e hj a b).mono hs
theorem FR {α:Type}{l:List α}{x y:α}{j:Nat}(h:(l++ [x])[j]? =some y):l[j]? =some y∨j=l.length∧y=x:=by
 rcases jK j l.length with g | g
 ·rw[gV g]at h;exact .inl h
 ·rw[iT g]at h
  right
  have:j - l.length=0:=by
   rcases nG (j - l.length) with q | q
   ·exact q
   ·rw[iO (by simp;omega)]at h;cases h
  rw[this]at h;simp at h;exact⟨by omega,h.symm⟩
theorem C2.snoc {φ:AD}{S:List Slc}{E:List (List Edge)}{c:Nat}(H:C2 φ S E c) (hl:S.length=E.length):C2 φ (S++ [Cv]) (E++ [[]]) c:=by
 intro j s e hj b a;rcases FR b with b | ⟨b,rfl⟩
 ·rcases FR a with a | ⟨a,rfl⟩
  ·exact H j s e hj b a
  ·rw[iO (by omega)]at b;cases b
 ·rcases FR a with a | ⟨a,rfl⟩
  ·rw[iO (by omega)]at a;cases a
  ·exact lA _ _
theorem GB.snoc {S:List Slc}{E:List (List Edge)}{i:Nat}(H:GB S E i):GB (S++ [Cv]) (E++ [[]]) i:=by
 intro j hj;refine⟨λs h=> ?_,λe h=> ?_⟩
 ·rcases FR h with h | ⟨_,h⟩
  ·exact(H j hj).1 s h
  ·exact h
 ·rcases FR h with h | ⟨_,h⟩
  ·exact(H j hj).2 e h
  ·exact h
theorem ZC {φ:AD}:∀ {B:List dtK}{S:List Slc}{E:List (List Edge)}{vs:List Value},S.length=B.length→E.length=B.length→(∀(j:Nat) s e,S[j]? =some s→E[j]? =some e→Ro.SliceIs DR φ s e)→roB.All φ vs (Ey B S)→Uq.All φ vs (Ey B E):=by
 intro B
 induction B with
 |nil=>intro S E vs c d f H;cases H;exact .nil
 |cons b B ih=>
  intro S E vs c d f H;cases S with
  |nil=>cases c
  |cons s S=>
   cases E with
   |nil=>cases d
   |cons e E=>
    cases H with
    | @cons a v _ _ hx hr=>
     obtain⟨_,_,rfl,⟨t0,rfl,g⟩,_,_,rfl,⟨t1,rfl,h⟩,_,_,rfl,rfl,_,_,rfl,rfl,rfl⟩:=hx;exact Ro.All.cons (a:=[_,_,_,_,_]) ⟨[_],_,rfl,⟨t0,rfl,g⟩,[_],_,rfl,⟨t1,rfl,h⟩,[_],_,rfl,⟨s,rfl,f 0 s e rfl rfl⟩,[_],_,rfl,rfl,rfl⟩ (ih (by simpa using c) (by simpa using d) (λj s' e' i k=>f (j+1) s' e' (by simpa using i) (by simpa using k)) hr)
theorem Vw {φ:AD}{t:Slc}{B:List dtK}{S:List Slc}{E:List (List Edge)}(a:S.length=B.length) (b:E.length=B.length) (c:∀(j:Nat) s e,S[j]? =some s→E[j]? =some e→Ro.SliceIs DR φ s e) (H:Ro.SliceIs roB φ t (Ey B S)):Ro.SliceIs Uq φ t (Ey B E):=by
 obtain⟨d,f,g,h,vs,i,k⟩:=H;have hl:(Ey B E).length=(Ey B S).length:=by rw[Do a,Do b]
 exact⟨hl.trans d,f,g,λhp=>jZ (by rw[hl,h hp];rfl),vs,ZC a b c i,k⟩
section
variable {φ:AD}{h:AE}{F:List Chk}
theorem UC {c d f g m a r1 i:Nat}{fd:Fd}{p:Au}{ls:Slc}{tot:Int}{L:List dtB}{rm cl:Cu}(H:St φ (bC c d f g m a r1 i fd p ls tot L rm cl F) h):BW h ⟨a,6,none⟩=some (.slice ls.1 ls.2.1 ls.2.2):=by
 obtain⟨b,vs,e,⟨_,_,rfl,⟨r,rfl,j⟩,_,_,rfl,⟨t,rfl,k⟩,_,_,rfl,⟨u,rfl,l⟩,_,_,rfl,⟨v,rfl,n⟩,_,_,rfl,⟨w,rfl,o⟩,_,_,rfl,⟨x,rfl,q⟩,_,_,rfl,rfl,rfl⟩,s⟩:=oC H.at3;obtain rfl:a=b:=by simpa using e
 exact lX s rfl
theorem St.back3 {a0 a b c:Chk}(H:St φ (c::a0::a::b::F) h):St φ (a0::a::b::c::F) h:=H.at3.at3.at3
theorem St.to9 {e a0 a b c d f g i j:Chk}(H:St φ (e::a0::a::b::c::d::f::g::i::j::F) h):St φ (a0::a::b::c::d::f::g::i::j::e::F) h:=
 H.at9.at9.at9.at9.at9.at9.at9.at9.at9
theorem St.tail9 {a0 a b c d e f g i:Chk}(H:St φ (a0::a::b::c::d::e::f::g::i::F) h):St φ F h:=H.tail.tail.tail.tail.tail.tail.tail.tail.tail
end
theorem Sg.nm_lev {nt nv nl:Nat}{g:FV}(H:Sg nt nv nl g):∀x∈Fj g.2.2.1,Nm x:=λx hx=>by
 have:=H.nl5;have:=H.nt5
 rcases H.levs.names x hx with⟨i,h,rfl⟩|⟨i,h,rfl⟩
 ·exact .lev (by omega)
 ·exact .tok (by omega)
theorem Ru1.nm {nt nv nl:Nat}{r:Db}(H:Ru1 nt nv nl r) (a:nt≤5) (b:nv≤4) (c:nl≤5):Nm r.1∧(∀x∈r.2.1,Nm x)∧(r.2.2.1= {data:=#[]} ∨Nm r.2.2.1):=by
 refine⟨?_,λx hx=> ?_,?_⟩
 ·obtain⟨i,h,e⟩:=H.left;rw[e];exact .var (by omega)
 ·rcases H.right x hx with⟨i,h,rfl⟩|⟨i,h,rfl⟩
  ·exact .tok (by omega)
  ·exact .var (by omega)
 ·rcases H.prec with h | ⟨i,h,e⟩
  ·exact .inl h
  ·rw[e];exact .inr (.lev (by omega))
theorem Xb {nt nv nl:Nat}{g:FV}(H:Sg nt nv nl g):DI g=some true:=by
 refine oE ?_;have hlr:=H.room;have hll:=H.levs.len;have htl:=H.toks.1;have hnt:=H.nt5;have hnv:=H.nv4;have hnl:=H.nl5;obtain⟨s,c,_⟩:=H.all 0 (by have:=H.nv1;omega);have hpos:=kH c;unfold DI;have hsk:=H.skips;have hst:=H.start;refine AM (Q:=λx=>x=false) ?_ λx hx=> ?_
 ·refine Af (gB (by omega)) (Af (by rw[hsk];rfl) (Af (gB (by omega)) (Af (gB (by omega)) (Af (gB (by omega)) ?_))));rw[hst];exact AP (Ut (by omega)) (AB rfl)
 subst hx;refine Af rfl<|FO (λk (l:List gN)=>l.length=k∧ ∀j,j<k→l[j]? =some (nm 97 j)) (by omega) ⟨rfl,λj h=>by omega⟩ (λk l hk h=> ?_) λtoks hz=> ?_
 ·have hx:=H.toks.2 k (by omega);refine AS hx (BI (by have:=h.1;simp only[gZ,iC];omega) (AS hx ?_));refine AP (RI (.tok (by omega))) (Af rfl (Fq ⟨by simp[h.1],λj hj=> ?_⟩));rcases jK j k with g | g
  ·rw[gV (by rw[h.1];exact g)];exact h.2 j g
  ·have:j=k:=by omega
   subst this;rw[iT (by rw[h.1];omega),h.1];simp
 refine FO (λk _=>True) (by rw[hsk];decide) trivial (λk l hk h=>by rw[hsk]at hk;exact gI hk (Nat.not_lt_zero _)) λ_ _=>FO (λk (l:List gN)=>l=Fj (g.2.2.1.take k)) (by omega) rfl (λk l hk h=> ?_) λlevs hv=> ?_
 ·subst h;have hx:=gO hk;have⟨d,f,m⟩:=H.levs.each k _ hx;have e:Fj (g.2.2.1.take (k+1))=Fj (g.2.2.1.take k) ++g.2.2.1[k].2:=by
   unfold Fj;rw[jV,hx,mT];show _=_;simp
  have hroom:=H.levs.room;have n:Fj g.2.2.1=Fj (g.2.2.1.take (k+1)) ++Fj (g.2.2.1.drop (k+1)):=by
   unfold Fj;rw[←mT,mI]
  have o:=gH lV n;rw[e,iH,iH]at o;refine AS hx (BI (by omega) ?_);refine AM (Q:=λx=>x=false) (Af (gB (by omega)) (Af (gB (by omega)) (AB ?_))) λx hx=> ?_
  ·have:=kH m
   exact beq_eq_false_iff_ne.2 (by omega)
  ·subst hx;refine Af rfl ?_;rw[←e];exact Fq rfl
 refine FO (λk _=>True) (by omega) trivial (λk _ hk _=> ?_) λ_ _=> ?_
 ·have hx:=gO hk;have hr:=H.rules _ (hZ hk);have⟨p,q,r⟩:=hr.nm hnt hnv hnl;have hf:=hr.few;refine AS hx<|AM (Q:=λx=>x=false) (AP p.name (Af rfl (Af (gB (by omega)) (AR (λhc=> ?_) λhc=> ?_)))) λx hx=> ?_
  ·rw[hr.act];rcases r with h | h
   ·rw[h,EE]at hc;simp at hc
   ·exact AP h.name (Af rfl (AP Mp (AB rfl)))
  ·rw[hr.act];exact AP Mp (AB rfl)
  ·subst hx;refine Af rfl<|FO (λk _=>True) (by omega) trivial (λj _ hj _=> ?_) λ_ _=>Fq trivial;exact AS (gO hj) (AP (q _ (hZ hj)).name (Af rfl (Fq trivial)))
 have hmem:∀x∈toks,∃j,j<nt∧x=nm 97 j:=λx hx=>by
  obtain⟨j,hj⟩:=jW hx;have hjl:=(gS.1 hj).1
  have:=hz.2 j (by omega)
  rw[hj]at this;exact⟨j,by omega,Option.some.inj this⟩
 have d:Bz toks=some true:=Uu (by omega) (λx hx=>by obtain⟨j,hj,rfl⟩:=hmem x hx;exact .tok (by omega)) (jP.2 (jE.2 λi j hi hj hij e=>by
  have a:=hz.2 i (by omega);have b:=hz.2 j (by omega);rw[gO hi]at a;rw[gO hj,←e,a]at b
  have:=MN (by omega) (by omega) (Option.some.inj b)
  omega))
 have f:Bz levs=some true:=by
  rw[hv,iU (iN _)];exact Uu (by have:=H.levs.room;omega) H.nm_lev H.levs.once
 exact AM (Q:=λx=>x=true) (AP d (BK rfl (AP f (AB rfl)))) λx hx=>AB hx
abbrev Xc:gN:={data:=#[36,101,110,100]}
structure TT (nt:Nat) (T:List gN):Prop where
 len:T.length=nt+1
 zero:T[0]? =some Xc
 tok:∀j,j<nt→T[j+1]? =some (nm 97 j)
theorem Xd (c i:Nat):Xc≠nm c i:=λh=>by unfold nm at h;simp at h
theorem TT.cases {nt:Nat}{T:List gN}(H:TT nt T) {j:Nat}{s:gN}(h:T[j]? =some s):(j=0∧s=Xc)∨ ∃i,i<nt∧j=i+1∧s=nm 97 i:=by
 cases j with
 |zero=>rw[H.zero]at h;exact .inl ⟨rfl,(Option.some.inj h).symm⟩
 |succ i=>
  have:=(gS.1 h).1
  have hl:=H.len;rw[H.tok i (by omega)]at h;exact .inr ⟨i,by omega,rfl,(Option.some.inj h).symm⟩
structure VV (nv:Nat) (V:List gN):Prop where
 names:∀x∈V,∃i,i<nv∧x=nm 83 i
 once:V.Nodup
theorem ZD {nt i:Nat}{T V:List gN}(H:TT nt T) (hn:nt≤5) (hi:i<nt):Ok (Bs (T,V) (nm 97 i)) λk=>k=((i+1:Nat):Int):=by
 have hl:=H.len;unfold Bs;refine AM (Gm (by dsimp only;omega)) λk hk=> ?_;rcases hk with⟨rfl,h⟩|⟨j,rfl,h⟩
 ·exact gI (gY (H.tok i hi)) h
 ·refine BK (gC (by omega)) (AB ?_);rcases H.cases h with⟨_,h⟩|⟨q,b,c,a⟩
  ·exact gI h.symm (Xd _ _)
  ·have:=MN (by omega) (by omega) a
   omega
theorem RU {nt nv i:Nat}{T V:List gN}(H:TT nt T) (hn:nt≤5) (hv:nv≤4) (hV:V.length≤100) (hi:i<nv) (hm:nm 83 i∈V):Ok (Bs (T,V) (nm 83 i)) λk=>∃j:Nat,k=((nt+1+j:Nat):Int)∧V[j]? =some (nm 83 i):=by
 have hl:=H.len;unfold Bs;refine AM (Gm (by dsimp only;omega)) λk hk=> ?_;rcases hk with⟨rfl,h⟩|⟨j,rfl,h⟩
 ·refine Af rfl (AM (Gm (by dsimp only;omega)) λk hk=> ?_);rcases hk with⟨rfl,h⟩|⟨j,rfl,h⟩
  ·exact gI hm h
  ·refine BK (gC (by omega)) (AB ⟨j,?_,h⟩)
   have:=(gS.1 h).1
   dsimp only at this;rw[hl,wr (by omega)];omega
 ·rcases H.cases h with⟨_,h⟩|⟨q,b,c,a⟩
  ·exact gI h.symm (Xd _ _)
  ·have:=MN (by omega) (by omega) a
   omega
theorem Si {nt nv nl:Nat}{g:FV}(H:Sg nt nv nl g) (s:gN):Ok (Cd g s) λk=>0≤k∧k≤nl∧ ∀i,i<nl→s=nm 112 i→k≠0:=by
 have hl:=H.levs.len;have hnl:=H.nl5;unfold Cd;have hr:=H.levs.room;have hnt:=H.nt5;have hlen:∀(j:Nat) x,g.2.2.1[j]? =some x→x.2.length≤100:=λj x hx=>by
  have:=(List.sublist_flatten_of_mem (List.mem_map_of_mem (f:=(·.2)) (gY hx))).length_le
  have e:Fj g.2.2.1=(List.map (·.2) g.2.2.1).flatten:=by unfold Fj;rw[List.flatMap_def]
  rw[←e]at this;omega
 refine Mo g.2.2.1 (λ_ x=> @decide (s∈x.2) (jY _)) (λk _=>gR .i64 ((k:Int)+1)) (by omega) (λj x hx=> ?_) (λh=> ?_) λj x hx hq _=> ?_
 ·rw[CK,hx,kQ];obtain⟨k,a,b⟩:=Gm (l:=x.2) (s:=s) (by have:=hlen j x hx;omega);rw[a,kQ];rcases b with⟨rfl,h⟩|⟨q,rfl,h⟩
  ·rw[@decide_eq_false _ (jY _) h];rfl
  ·rw[@decide_eq_true _ (jY _) (gY h),gC (by omega)];rfl
 ·refine AB ⟨by omega,by omega,λi hi hs _=> ?_⟩;have hx:=gO (show i<g.2.2.1.length by omega)
  have:= @of_decide_eq_false _ (jY _) (h i _ hx)
  rw[hs]at this;exact this (H.levs.each i _ hx).2.2
 ·have:=(gS.1 hx).1
  have e:gR .i64 ((j:Int)+1)=(j:Int)+1:=wr (by omega);exact AB ⟨by rw[e];omega,by rw[e];omega,λ_ _ _=>by rw[e];omega⟩
structure Pr (nt nV nl:Nat) (r:Ax):Prop where
 left:((nt+1:Nat):Int) ≤r.1∧r.1< ((nt+1+nV:Nat):Int)
 few:r.2.1.length≤8
 right:∀x∈r.2.1,0<x∧x< ((nt+1+nV:Nat):Int)
 lev:0≤r.2.2∧r.2.2≤nl
structure Pl (nt nl:Nat) (p:Au):Prop where
 nt5:1≤nt∧nt≤5
 nl5:nl≤5
 terms:TT nt p.1
 vars:1≤p.2.1.length∧p.2.1.length≤24
 first:∃st:Int,((nt+1:Nat):Int) ≤st∧st< ((nt+1+p.2.1.length:Nat):Int)∧p.2.2.1[0]? =some (((nt+1+p.2.1.length:Nat):Int),[st],0)
 rules:∀(k:Nat) r,1≤k→p.2.2.1[k]? =some r→Pr nt p.2.1.length nl r
 room:1≤p.2.2.1.length∧p.2.2.1.length≤25
 all:∀v:Nat,v<p.2.1.length→ ∃r∈p.2.2.1,r.1=((nt+1+v:Nat):Int)
 levels:p.2.2.2.1.length=nt+1∧ ∀x∈p.2.2.2.1,0≤x∧x≤nl
 assocs:p.2.2.2.2.1.length=nl+1
theorem Xe {α:Type}{l:List α}(h:l.Nodup) {i j:Nat}(hi:i<l.length) (hj:j<l.length) (e:l[i] =l[j]):i=j:=by
 have H:=jE.1 (jP.1 h);rcases Nat.lt_trichotomy i j with g | g | g
 ·exact gI e (H i j hi hj g)
 ·exact g
 ·exact gI e.symm (H j i hj hi g)
theorem of_ok {nt nv nl:Nat}{g:FV}(H:Sg nt nv nl g):Ok (Dw g) λp=>Pl nt nl (p.1,p.2.1,p.2.2.1,p.2.2.2.1,p.2.2.2.2.1,p.2.2.2.2.2.1):=by
 have hlr:=H.room;have hll:=H.levs.len;have htl:=H.toks.1;have hnt:=H.nt5;have F:=H.nt1;have hnv:=H.nv4;have hnl:=H.nl5;have a4:=H.nv1;obtain⟨r0,X,_⟩:=H.all 0 (by omega);have hpos:=kH X;unfold Dw;refine AP (Xb H) (Af rfl ?_);refine BV (λk (z:Au)=>z.1= [Xc] ∧VV nv z.2.1∧z.2.1.length≤k∧(∀(j:Nat) r,j<k→g.2.2.2.2[j]? =some r→r.1∈z.2.1)∧(∀x∈z.2.1,∃r∈g.2.2.2.2,r.1=x)∧z.2.2.1= [] ∧z.2.2.2.1= [0] ∧z.2.2.2.2.1= [0] ∧z.2.2.2.2.2.length=k+1) (by omega) ⟨rfl,⟨by simp,by simp⟩,by simp,λj r h=>by omega,by simp,rfl,rfl,rfl,rfl⟩ (λk z hk h=> ?_) λz hz=> ?_
 ·obtain⟨P,G,R,z4,Y,S⟩:=z;obtain⟨rfl,hV,f,hall,hfr,rfl,rfl,rfl,U⟩:=h;dsimp only at hV f hall hfr U ⊢;have hx:=gO hk;have hr:=H.rules _ (hZ hk);refine AS hx (AM (Gm (by omega)) λt ht=> ?_);refine AM (Q:=λ(z:Au)=>z.1= [Xc] ∧VV nv z.2.1∧z.2.1.length≤k+1∧(∀(j:Nat) r,j<k+1→g.2.2.2.2[j]? =some r→r.1∈z.2.1)∧(∀x∈z.2.1,∃r∈g.2.2.2.2,r.1=x)∧z.2.2.1= [] ∧z.2.2.2.1= [0] ∧z.2.2.2.2.1= [0] ∧z.2.2.2.2.2=S) ?_ λz hz=> ?_
  ·rcases ht with⟨rfl,ht⟩|⟨j,rfl,ht⟩
   ·refine BK rfl (AS hx (BI (by simp only[gZ,iC];omega) (AB ⟨rfl,⟨λx hx'=> ?_,?_⟩,by simp;omega,λj r hj hr'=> ?_,λx hx'=> ?_,rfl,rfl,rfl,rfl⟩)))
    ·rcases iD.1 hx' with h | h
     ·exact hV.names x h
     ·obtain rfl:=gW.1 h;exact hr.left
    ·exact lF.2 ⟨hV.once,by simp,λx hx' y hy hxy=>ht (by
      have:y=g.2.2.2.2[k].1:=by simpa using hy
      rw[←this,←hxy];exact hx')⟩
    ·rcases iX.1 hj with h | rfl
     ·exact iZ _ (hall j r h hr')
     ·rw[hx]at hr';cases hr';exact lG _ (gW.2 rfl)
    ·rcases iD.1 hx' with h | h
     ·exact hfr x h
     ·obtain rfl:=gW.1 h;exact⟨_,hZ hk,rfl⟩
   ·refine Af (gB (by omega)) (AB ⟨rfl,hV,by dsimp only;omega,λi r hi hr'=> ?_,hfr,rfl,rfl,rfl,rfl⟩);rcases iX.1 hi with h | rfl
    ·exact hall i r h hr'
    ·rw[hx]at hr';cases hr';exact gY ht
  ·obtain⟨I,o,y3,Z,y5,W⟩:=z;obtain⟨rfl,hV,f,hall,hfr,rfl,rfl,rfl,e6⟩:=hz;have a0:W=S:=e6;have a1:W.length=k+1:=by rw[a0];exact U
   exact AS hx (BI (by simp only[gZ,iC];omega) (AB ⟨rfl,hV,f,hall,hfr,rfl,rfl,rfl,by simp[a1]⟩))
 obtain⟨P,V,R,z4,Y,acts⟩:=z;obtain⟨rfl,hV,f,hall,hfr,rfl,rfl,rfl,U⟩:=hz;dsimp only at hV f hall hfr U;have J:V.length≤24:=by omega
 clear f;have hVm:∀v,v<nv→nm 83 v∈V:=λv hv=>by
  have⟨r,K,s⟩:=H.all v hv;obtain⟨j,hj⟩:=jW K;rw[←s];exact hall j r (gS.1 hj).1 hj
 have hVpos:1≤V.length:=kH (hVm 0 (by omega));refine FO (λk (z:Au×Au)=>TT k z.2.1∧z.2.2.1=V∧z.2.2.2.1= [] ∧z.2.2.2.2.1.length=k+1∧(∀x∈z.2.2.2.2.1,0≤x∧x≤nl)∧z.2.2.2.2.2.1= [0]) (by omega) ⟨⟨rfl,rfl,λj h=>by omega⟩,rfl,rfl,rfl,by simp,rfl⟩ (λk z hk h=> ?_) λz hz=> ?_
 ·obtain⟨w,P,G,R,z4,Y,S⟩:=z;obtain⟨hT,d,u,E,l,m⟩:=h;dsimp only at hT E l d u m ⊢;have a5:G.length≤24:=by rw[d];exact J
  subst d u m;have hx:=H.toks.2 k (by omega);have hTl:=hT.len;refine AS hx (AM (Gm (by omega)) λt ht=> ?_);rcases ht with⟨rfl,ht⟩|⟨j,rfl,ht⟩
  ·refine Af rfl (AS hx (BI (by simp only[gZ,iC];omega) (AS hx (AM (Si H _) λt ht=>BI (by simp only[gZ,iC];omega) (Fq ⟨⟨by simp[hTl],?_,λj hj=> ?_⟩,rfl,rfl,by simp[E],λx hx'=> ?_,rfl⟩)))))
   ·rw[gV (by omega)];exact hT.zero
   ·rcases iX.1 hj with h | rfl
    ·rw[gV (by omega)];exact hT.tok j h
    ·rw[iT (by omega),show j+1 - P.length=0 by omega];rfl
   ·rcases iD.1 hx' with h | h
    ·exact l x h
    ·obtain rfl:=gW.1 h;exact⟨ht.1,ht.2.1⟩
  ·have⟨i,K,s⟩:=hV.names _ (gY ht)
   have:=MN (by omega) (by omega) s
   omega
 obtain⟨w,T,G,R,levels,Y,S⟩:=z;obtain⟨hT,d,u,E,l,m⟩:=hz;dsimp only at hT E l d u m ⊢;subst d u m;rw[htl]at hT E;have hTl:=hT.len;refine BV (λk (z:Au)=>z.1=T∧z.2.1=G∧z.2.2.1= [] ∧z.2.2.2.1=levels∧z.2.2.2.2.1.length=k+1) (by omega) ⟨rfl,rfl,rfl,rfl,rfl⟩ (λk z hk h=> ?_) λz hz=> ?_
 ·obtain⟨I,o,y3,Z,y5,W⟩:=z;obtain⟨rfl,rfl,rfl,rfl,D⟩:=h;exact AS (gO hk) (BI (by dsimp only at D ⊢;simp only[gZ,iC];omega) (AB ⟨rfl,rfl,rfl,rfl,by dsimp only at D ⊢;simp[D]⟩))
 obtain⟨I,o,y3,Z,assocs,W⟩:=z;obtain⟨A,d,u,B,D⟩:=hz;dsimp only at D A d u B ⊢;subst A d u B;rw[hll]at D;rw[H.start];refine AM (RU (nv:=nv) hT hnt hnv (by omega) (by omega) (hVm 0 (by omega))) λst hst=> ?_;obtain⟨sj,rfl,hsj⟩:=hst;have hsjl:=(gS.1 hsj).1;rw[wr (show -1000000≤(I.length:Int)+(o.length:Int)∧(I.length:Int)+(o.length:Int) ≤1000000 by omega)];refine FO (λk (z:Au×Au)=>z.2.1=I∧z.2.2.1=o∧z.2.2.2.1.length=k+1∧z.2.2.2.1[0]? =some (((nt+1+o.length:Nat):Int),[((nt+1+sj:Nat):Int)],0)∧(∀(j:Nat) r,1≤j→z.2.2.2.1[j]? =some r→Pr nt o.length nl r∧ ∃r'∈g.2.2.2.2,g.2.2.2.2[j - 1]? =some r'∧o[r.1.toNat - (nt+1)]? =some r'.1)∧z.2.2.2.2.1=Z∧z.2.2.2.2.2.1=assocs) (by omega) ⟨rfl,rfl,rfl,by dsimp only;rw[hTl];simp[Int.natCast_add],λj r hj hr=>by
  have:=(gS.1 hr).1
  simp at this
  omega,rfl,rfl⟩ (λk z hk h=> ?_) λz hz=> ?_
 ·obtain⟨w,x1,x2,x3,x4,x5,x6⟩:=z;obtain⟨A,d,hlen,L,hrs,B,m⟩:=h;dsimp only at hlen L hrs A d B m ⊢;subst A d B m;have hx:=gO hk;have hr:=H.rules _ (hZ hk);obtain⟨vi,hvi,hvl⟩:=hr.left;refine AS hx ?_;rw[hvl];refine AM (RU (nv:=nv) hT hnt hnv (by omega) hvi (hVm vi hvi)) λt ht=> ?_;obtain⟨tj,rfl,htj⟩:=ht;have htjl:=(gS.1 htj).1;have hrf:=hr.few;refine FO (λi (z:Au×Ax)=>z.2.1=((nt+1+tj:Nat):Int)∧z.2.2.1.length=i∧(∀x∈z.2.2.1,0<x∧x< ((nt+1+x2.length:Nat):Int))∧0≤z.2.2.2∧z.2.2.2≤nl) (by omega) ⟨rfl,rfl,by simp,by simp,by simp⟩ (λi z hi h=> ?_) λz hz=> ?_
  ·obtain⟨w,u1,u2,u3⟩:=z;obtain⟨rfl,hu,hus,n,c⟩:=h;dsimp only at hu hus n c ⊢;have hy:=gO hi;have hym:=hr.right _ (hZ hi);refine AS hy (AM (Q:=λt=>0<t∧t< ((nt+1+x2.length:Nat):Int)) ?_ λt ht=> ?_)
   ·rcases hym with⟨q,hq,e⟩|⟨q,hq,e⟩
    ·rw[e];exact(ZD hT hnt hq).mono λk hk=>by subst hk;omega
    ·rw[e];refine(RU (nv:=nv) hT hnt hnv (by omega) hq (hVm q hq)).mono λk hk=> ?_;obtain⟨j,rfl,hj⟩:=hk
     have:=(gS.1 hj).1
     omega
   ·refine Af (gB (by omega)) (BI (by simp only[gZ,iC];omega) ?_);refine AM (Q:=λ(z:Ax)=>z.1=((nt+1+tj:Nat):Int)∧z.2.1=u2++ [t] ∧0≤z.2.2∧z.2.2≤nl) (AR (λhc=> ?_) λ_=>AB ⟨rfl,rfl,n,c⟩) λz hz=> ?_
    ·have hc:=gD hc;have hq:t.toNat<x4.length:=by omega
     refine Ck (by omega) (gO hq) (AB ⟨rfl,rfl,l _ (hZ hq)⟩)
    ·obtain⟨P,G,R⟩:=z;obtain⟨rfl,rfl,a,b⟩:=hz;refine Fq ⟨rfl,by simp[hu],λx hx'=> ?_,a,b⟩;rcases iD.1 hx' with h | h
     ·exact hus x h
     ·obtain rfl:=gW.1 h;exact ht
  ·obtain⟨w2,u1,u2,u3⟩:=z;obtain⟨rfl,hu,hus,n,c⟩:=hz;dsimp only at hu hus n c ⊢;refine AM (Q:=λe=>∃(y:Ax×Au),e=mC y∧y.1.1=((nt+1+tj:Nat):Int)∧y.1.2.1=u2∧0≤y.1.2.2∧y.1.2.2≤nl) (AR (λhc=> ?_) λhc=>AB ⟨_,rfl,rfl,rfl,n,c⟩) λe he=> ?_
   ·refine AM (Si H _) λt ht=> ?_;rcases hr.prec with h | ⟨i,hi,h⟩
    ·rw[h,EE]at hc;simp at hc
    ·refine Af (beq_eq_false_iff_ne.2 (ht.2.2 i hi h)) (AB ⟨_,rfl,rfl,rfl,ht.1,ht.2.1⟩)
   ·obtain⟨⟨⟨v1,v2,v3⟩,v4⟩,rfl,M,N,O,C⟩:=he;dsimp only at O C M N ⊢;subst M N;refine BI (by simp only[gZ,iC];omega) (Fq ⟨rfl,rfl,by simp[hlen],?_,λj r hj hr'=> ?_,rfl,rfl⟩)
    ·rw[gV (by omega)];exact L
    ·rcases jK j x3.length with gj | gj
     ·rw[gV gj]at hr';exact hrs j r hj hr'
     ·have hjl:=(gS.1 hr').1;simp at hjl
      have:j=x3.length:=by omega
      subst this;rw[iT (iN _),Nat.sub_self]at hr';cases hr';refine⟨⟨⟨by dsimp only;omega,by dsimp only;omega⟩,by dsimp only;omega,hus,O,C⟩,g.2.2.2.2[k],hZ hk,by rw[hlen];exact hx,?_⟩;dsimp only;rw[show((nt+1+tj:Nat):Int).toNat - (nt+1)=tj by omega,htj,hvl]
 obtain⟨w,x1,x2,rules,x4,x5,x6⟩:=z;obtain⟨A,d,hlen,L,hrs,B,m⟩:=hz;dsimp only at hlen L hrs A d B m ⊢;subst A d B m;refine AM (Gm (by omega)) λt ht=> ?_;rcases ht with⟨rfl,ht⟩|⟨j,rfl,ht⟩
 ·exact gI (hVm 0 (by omega)) ht
 refine Af (gB (by omega)) (AB ⟨⟨F,hnt⟩,hnl,hT,⟨hVpos,by dsimp only;omega⟩,⟨((nt+1+sj:Nat):Int),by omega,by dsimp only;omega,L⟩,λk r hk hr=>(hrs k r hk hr).1,⟨by dsimp only;omega,by dsimp only;omega⟩,λv hv=> ?_,⟨E,l⟩,D⟩);dsimp only at hv ⊢;have hvx:=gO hv;have⟨r,a2,a3⟩:=hfr _ (hZ hv);obtain⟨i,hi⟩:=jW a2;have hil:=(gS.1 hi).1;have hri:=gO (show i+1<rules.length by omega);obtain⟨hp,r',_,K,s⟩:=hrs (i+1) _ (by omega) hri;rw[Nat.add_sub_cancel,hi]at K;cases K;refine⟨_,hZ (show i+1<rules.length by omega),?_⟩;have hl:=hp.left;rw[a3]at s;obtain⟨hq,s⟩:=gS.1 s
 have:=Xe hV.once hq hv s
 omega
theorem ZE {s:NT}(G:SmG s) (F:SmF 20 8 s):Ok (Bb s) λp=>∃nt nl,Pl nt nl p:=by
 unfold Bb;exact AM (Tx G F) λg hg=>AM (of_ok hg) λp hp=>AB ⟨_,_,hp⟩
abbrev Rl:Type:=List Ax
def beh (R:Rl) (x:Item):Int:=match R[x.1.toNat]? with
 |some r=>(r.2.1[x.2.toNat]?).getD (-1)
 |none=> -1
def OkI (R:Rl) (x:Item):Prop:=0≤x.1∧0≤x.2∧ ∃r,R[x.1.toNat]? =some r∧x.2.toNat≤r.2.1.length
structure VP (nT:Int) (R:Rl):Prop where
 t0:0≤nT
 left:∀r∈R,nT≤r.1
 right:∀r∈R,∀s∈r.2.1,0≤s
 few:R.length≤100
 short:∀r∈R,r.2.1.length≤100
theorem Nj {p:Au}{x:Item}(h:OkI p.2.2.1 x):CE (qA p Cv 0) x=some (beh p.2.2.1 x):=by
 obtain⟨b,c,r,a,d⟩:=h;refine oE ?_;unfold CE;refine Ck b a ?_;have e:beh p.2.2.1 x=(r.2.1[x.2.toNat]?).getD (-1):=by unfold beh;rw[a]
 refine AR (λhc=> ?_) λhc=> ?_
 ·have hc:=gD hc;refine AB ?_;rw[e,iO (by omega)];rfl
 ·have hc:=gE hc;have hl:x.2.toNat<r.2.1.length:=by omega
  refine Ck c (gO hl) (AB ?_);rw[e,gO hl];rfl
theorem bL {nT:Int}{R:Rl}(V:VP nT R) {x:Item}(h:OkI R x):beh R x= -1∨0≤beh R x:=by
 obtain⟨b,c,r,a,d⟩:=h;unfold beh;rw[a];dsimp only;cases e:r.2.1[x.2.toNat]? with
 |none=>exact .inl rfl
 |some s=>exact .inr (V.right r (gY a) s (gY e))
theorem Im (q:Au) (s:Int):Bu q s=some (decide (0≤s) && decide (s< (q.1.length:Int))):=by
 refine oE ?_;unfold Bu;refine AM (Q:=λb=>b=(decide (0≤s) && decide (s< (q.1.length:Int)))) (AR (λh=>AB ?_) λh=>AB ?_) λb hb=>AB hb
 ·rw[gC (show 0≤s from gD h),Bool.true_and]
 ·rw[gB (show ¬0≤s from gE h),Bool.false_and]
theorem KS {l:List Item}{x:Item}(h:l.length≤9223372036854775807):Aw l x=some (decide (x∈l)):=by
 refine oE ?_;unfold Aw Bl;refine AM (Q:=λk=>(k= -1∧x∉l)∨(0≤k∧x∈l)) ?_ λk hk=>AB ?_
 ·refine Mo l (λ_ y=>decide (x=y)) (λk _=>k) h (λj y hy=> ?_) (λhn=>AB (.inl ⟨rfl,λhm=> ?_⟩)) λj y hy hq _=>AB (.inr ⟨by omega,?_⟩)
  ·rw[CK,hy,kQ];have e:((x.1,x.2).1==y.1 && ((x.1,x.2).2==y.2 && true))=decide (x=y):=by
    obtain⟨a,b⟩:=x;obtain⟨c,d⟩:=y;rw[Bool.and_true,Bool.eq_iff_iff];simp
   rw[e];cases decide (x=y) <;>rfl
  ·obtain⟨j,hj⟩:=jW hm
   have:=hn j x hj
   simp at this
  ·have:=gD hq
   subst this;exact gY hy
 ·rcases hk with⟨rfl,h⟩|⟨f,h⟩
  ·rw[gB h];rfl
  ·rw[gC h];exact gC f
inductive Cl (R:Rl) (K:List Item):Item→Prop
 |base {x:Item} :x∈K→Cl R K x
 |step {y:Item} {k:Nat} {r:Ax} :Cl R K y→R[k]? =some r→r.1=beh R y→Cl R K ((k:Int),0)
def Lt (x y:Item):Prop:=x.1<y.1∨x.1=y.1∧x.2<y.2
theorem Lt.irrefl (x:Item):¬Lt x x:=by unfold Lt;omega
theorem Lt.trans {x y z:Item}(a:Lt x y) (b:Lt y z):Lt x z:=by unfold Lt at *;omega
theorem Vx {l:List Item}(h:l.Nodup):(Gt l).Pairwise Lt:=by
 have c:=O0 M0 M1 l;have d:(Gt l).Nodup:=(DT _ l).nodup_iff.2 h;refine((List.pairwise_and_iff.2 ⟨c,jP.1 d⟩).imp λ{a b} h=> ?_);obtain⟨f,g⟩:=h;simp only[EI,lD,gK]at f;have i:¬(a.1=b.1∧a.2=b.2):=λe=>g (mO e.1 e.2);unfold Lt;omega
theorem UD {l:List Item}{x:Item}:x∈Gt l↔x∈l:=(DT _ l).mem_iff
theorem P7 (l:List Item):(Gt l).length=l.length:=(DT _ l).length_eq
theorem PJ {R:Rl}{E:List Item}(hn:E.Nodup) (h:∀x∈E,∃k:Nat,k<R.length∧x=((k:Int),0)):E.length≤R.length:=by
 have:=List.Nodup.length_le_of_subset (l₂:=(mA R.length).map λk:Nat=>((k:Int),(0:Int))) hn (λx hx=>by
  have⟨k,a,b⟩:=h x hx;exact kG.2 ⟨k,mP.2 a,b.symm⟩)
 simpa using this
structure RV (R:Rl) (K C:List Item):Prop where
 up:C.Pairwise Lt
 mem:∀x,x∈C↔Cl R K x
 len:C.length≤K.length+R.length
theorem Cl.ok {R:Rl}{K:List Item}(hK:∀x∈K,OkI R x) {x:Item}(h:Cl R K x):OkI R x:=by
 induction h with
 |base h=>exact hK _ h
 | @step y k r _ a b _=>exact⟨by dsimp only;omega,by dsimp only;omega,r,by simpa using a,by simp⟩
theorem UE {p:Au}(V:VP (p.1.length:Int) p.2.2.1) {K:List Item}(hK:∀x∈K,OkI p.2.2.1 x) (hn:K.Nodup) (hl:K.length≤1000000):Ok (BR (qA p Cv 0) K) (RV p.2.2.1 K):=by
 unfold BR;have hf:=V.few;refine AP (x:=K) (by unfold cloneD;rw[gF (by omega)]) ?_
 generalize hR:p.2.2.1=R at *
 refine Bq (λ(z:Int×List Item×List (Int×Bool))=>0≤z.1∧z.1≤(z.2.1.length:Int)∧(∃E:List Item,z.2.1=K++E∧E.Nodup∧ ∀x∈E,∃k:Nat,k<R.length∧x=((k:Int),0))∧z.2.1.Nodup∧(∀x∈z.2.1,Cl R K x)∧
  (∀s,BT s z.2.2=some true→ ∀(k:Nat) r,R[k]? =some r→r.1=s→((k:Int),(0:Int))∈z.2.1)∧
  ∀(j:Nat) x,(j:Int) <z.1→z.2.1[j]? =some x→ ∀(k:Nat) r,R[k]? =some r→r.1=beh R x→((k:Int),(0:Int))∈z.2.1)
  (λz=>K.length+R.length - z.1.toNat) (λb=>b.1.Nodup∧b.1.length≤K.length+R.length∧ ∀x,x∈b.1↔Cl R K x)
  ⟨Int.le_refl _,by dsimp only;omega,⟨[],by simp,by simp,by simp⟩,hn,λx hx=>.base hx,(λs h=>by cases h),λj x h=>gI h (by dsimp only;omega)⟩ (λz hz=> ?_) λb hb=> ?_
 ·obtain⟨i,out,come⟩:=z;obtain⟨u,v,hE,hno,hcl,hco,hdo⟩:=hz;dsimp only at u v hE hno hcl hco hdo ⊢;obtain⟨E,eE,nE,mE⟩:=hE;have lE:=PJ nE mE;have lo:out.length≤K.length+R.length:=by rw[eE,iH];omega
  refine AR (λhc=> ?_) λhc=>As ⟨hno,lo,λx=>⟨hcl x,λh=> ?_⟩⟩
  ·have hc:=gD hc;have hi:i.toNat<out.length:=by omega
   have hx:=gO hi;have hxm:=hZ hi
   generalize out[i.toNat] =x at hx hxm
   have hox:=(hcl x hxm).ok hK;refine AM (Q:=λ(y:List Item×List (Int×Bool))=>(∃E:List Item,y.1=K++E∧E.Nodup∧ ∀x∈E,∃k:Nat,k<R.length∧x=((k:Int),0))∧y.1.Nodup∧(∀x∈y.1,Cl R K x)∧(∃E2,y.1=out++E2)∧
    (∀s,BT s y.2=some true→ ∀(k:Nat) r,R[k]? =some r→r.1=s→((k:Int),(0:Int))∈y.1)∧ ∀(k:Nat) r,R[k]? =some r→r.1=beh R x→((k:Int),(0:Int))∈y.1) ?_ λy hy=> ?_
   ·refine Ck u hx (AP (x:=beh R x) (by have:=Nj (p:=p) (x:=x) (by rw[hR];exact hox);rw[hR]at this;exact this) ?_);have hb:=bL V hox
    generalize hs:beh R x=s at hb
    have no:s<0∨s< (p.1.length:Int)→ ∀(k:Nat) r,R[k]? =some r→r.1=s→((k:Int),(0:Int))∈out:=λh k r hr e=>by
     have:=V.left r (gY hr)
     omega
    refine AM (Q:=λb=>(b=true→ ∀(k:Nat) r,R[k]? =some r→r.1=s→((k:Int),(0:Int))∈out)) (AR (λhc=>AB λ_=>no (.inl (gD hc))) λhc=> ?_) λb hb'=> ?_
    ·have hc:=gE hc;refine AP (Im _ _) (AR (λht=>AB λ_=>no (.inr ?_)) λht=> ?_)
     ·simp only[lI,gJ]at ht;exact ht.2
     ·refine AP rfl (AB λh=>hco s ?_);cases hm:BT s come with
      |none=>rw[hm]at h;cases h
      |some b=>rw[hm]at h;exact gH some h
    ·refine AR (λhc=>AB ⟨⟨E,eE,nE,mE⟩,hno,hcl,⟨[],by simp⟩,hco,hb' hc⟩) λhc=>BV (λk (z:List Item)=>(∃E2:List Item,z=out++E2∧ ∀x∈E2,∃q:Nat,q<R.length∧x=((q:Int),0)∧ ∃r,R[q]? =some r∧r.1=s)∧z.Nodup∧ ∀(q:Nat) r,q<k→R[q]? =some r→r.1=s→((q:Int),(0:Int))∈z) (by omega) ⟨⟨[],by simp,by simp⟩,hno,λq r h=>by omega⟩ (λk z hk hz=> ?_) λz hz=> ?_
     ·obtain⟨⟨E2,f,l⟩,m,d2⟩:=hz;have hr:=gO hk;have lz:z.length≤K.length+R.length:=by
       have⟨D,w,F⟩:=lF.1 (show(K++(E++E2)).Nodup by rw[←gT,←eE,←f];exact m)
       have:=PJ (R:=R) w (λx hx=>by
        rcases iD.1 hx with h | h
        ·exact mE x h
        ·have⟨q,a,b,_⟩:=l x h;exact⟨q,a,b⟩)
       rw[f,eE,gT,iH];omega
      refine AS hr (AM (Q:=λb=>(b=true→R[k].1=s∧((k:Int),(0:Int))∉z)∧(b=false→R[k].1=s→((k:Int),(0:Int))∈z)) (AR (λhc=> ?_) λhc=>AB ⟨by simp,λ_ e=> ?_⟩) λb n=> ?_)
      ·refine AP (KS (by omega)) (AB ⟨λh=>⟨eq_of_beq hc,?_⟩,λh _=> ?_⟩)
       ·simpa using h
       ·simpa using h
      ·rw[e]at hc;simp at hc
      ·refine AM (Q:=λ(z':List Item)=>(∃E2:List Item,z'=out++E2∧ ∀x∈E2,∃q:Nat,q<R.length∧x=((q:Int),0)∧ ∃r,R[q]? =some r∧r.1=s)∧z'.Nodup∧ ∀(q:Nat) r,q<k+1→R[q]? =some r→r.1=s→((q:Int),(0:Int))∈z') (AR (λhc=> ?_) λhc=>AB ⟨⟨E2,f,l⟩,m,λq r hq hr' e=> ?_⟩) λz' hz'=>AB hz'
       ·have⟨o,t⟩:=n.1 hc;refine BI (by simp only[gZ,iC];omega) (AB ⟨⟨E2++ [((k:Int),0)],by rw[f,gT],λx hx=> ?_⟩,?_,λq r hq hr' e=> ?_⟩)
        ·rcases iD.1 hx with h | h
         ·exact l x h
         ·exact⟨k,hk,gW.1 h,_,hr,o⟩
        ·refine lF.2 ⟨m,by simp,λx hx y hy hxy=>t ?_⟩;rw[←gW.1 hy,←hxy];exact hx
        ·rcases iX.1 hq with h | rfl
         ·exact iZ _ (d2 q r h hr' e)
         ·exact lG _ (gW.2 rfl)
       ·rcases iX.1 hq with h | rfl
        ·exact d2 q r h hr' e
        ·rw[hr]at hr';cases hr';exact n.2 hc e
     ·obtain⟨⟨E2,f,l⟩,m,d2⟩:=hz;have hall:∀(k:Nat) r,R[k]? =some r→r.1=s→((k:Int),(0:Int))∈z:=λk r hr e=>d2 k r (gS.1 hr).1 hr e;refine AB ⟨⟨E++E2,by rw[f,eE,gT],?_,λx hx=> ?_⟩,m,λx hx=> ?_,⟨E2,f⟩,λs' hs' k r hr e=> ?_,hall⟩
      ·exact(lF.1 (show(K++(E++E2)).Nodup by rw[←gT,←eE,←f];exact m)).2.1
      ·rcases iD.1 hx with h | h
       ·exact mE x h
       ·have⟨q,a,b,_⟩:=l x h;exact⟨q,a,b⟩
      ·dsimp only at hx;rw[f]at hx;rcases iD.1 hx with h | h
       ·exact hcl x h
       ·have⟨q,a,b,r,c,d⟩:=l x h;rw[b];exact .step (hcl _ hxm) c (by rw[d,hs])
      ·dsimp only at hs' ⊢;rw[DC]at hs';split at hs'
       ·rename_i e'
        exact hall k r hr (by rw[e,e'])
       ·rw[f];exact iZ _ (hco s' hs' k r hr e)
   ·obtain⟨out',come'⟩:=y;obtain⟨⟨E',eE',nE',mE'⟩,hno',hcl',⟨E2,f⟩,hco',hx'⟩:=hy;dsimp only at eE' hno' hcl' f hco' hx' ⊢;have hw:gR .i64 (i+(1:Int))=i+1:=w64 (by omega) (by omega);have lo':out.length≤out'.length:=by rw[f,iH];omega
    refine BJ ⟨⟨by dsimp only;rw[hw];omega,by dsimp only;rw[hw];omega,⟨E',eE',nE',mE'⟩,hno',hcl',hco',λj y hj hy k r hr e=> ?_⟩,by dsimp only;rw[hw];omega⟩;dsimp only at hj hy ⊢;rw[hw]at hj;rcases mD j i with g | g
    ·rw[f,gV (by omega)]at hy;rw[f];exact iZ _ (hdo j y g hy k r hr e)
    ·have:j=i.toNat:=by omega
     subst this;rw[f,gV (by omega),hx]at hy;cases hy;exact hx' k r hr e
  ·have hc:=gE hc
   induction h with
   |base h=>rw[eE];exact iZ _ h
   | @step y k r _ o t ih=>
    obtain⟨j,hj⟩:=jW ih
    have:=(gS.1 hj).1
    dsimp only at this;exact hdo j y (by omega) hj k r o t
 ·obtain⟨A,B,C⟩:=hb;refine AP (x:=Gt b.1) (by unfold Il;rw[gF (by omega)]) (AB ⟨Vx A,λx=>UD.trans (C x),by rw[P7];exact B⟩)
theorem Nk (u:Nat):∀b∈Lib.decDigits u,48≤b.toNat∧b.toNat≤57:=by
 induction u using Nat.strongRecOn with
 |ind u ih=>
  intro b hb;rw[Lib.decDigits]at hb;split at hb
  ·rename_i h
   have hb:=gW.1 hb;subst hb
   have:(kX (48+u)).toNat=48+u:=by simp;omega
   omega
  ·rename_i h
   rcases iD.1 hb with hb | hb
   ·exact ih (u / 10) (by omega) b hb
   ·have hb:=gW.1 hb;subst hb
    have:(kX (48+u % 10)).toNat=48+u % 10:=by simp;omega
    omega
def bM (l:List UInt8):Nat:=l.foldl (λa b=>a *10+(b.toNat - 48)) 0
theorem Sj (u:Nat):bM (Lib.decDigits u)=u:=by
 induction u using Nat.strongRecOn with
 |ind u ih=>
  rw[Lib.decDigits];split
  ·rename_i h
   have:(kX (48+u)).toNat=48+u:=by simp;omega
   simp only[bM,jT,List.foldl_nil,this];omega
  ·rename_i h
   have e:(kX (48+u % 10)).toNat=48+u % 10:=by simp;omega
   have:=ih (u / 10) (by omega)
   unfold bM at this ⊢;rw[kZ,this];simp only[jT,List.foldl_nil,e];omega
theorem U3 {u v:Nat}(h:Lib.decDigits u=Lib.decDigits v):u=v:=by rw[←Sj u,h,Sj]
theorem Vy (i:Int):∀b∈Lib.itoa i,b=45∨(48≤b.toNat∧b.toNat≤57):=by
 intro b hb;unfold Lib.itoa at hb;split at hb
 ·rcases kV.1 hb with hb | hb
  ·exact .inl hb
  ·exact .inr (Nk _ b hb)
 ·exact .inr (Nk _ b hb)
theorem Xf {i j:Int}(h:Lib.itoa i=Lib.itoa j):i=j:=by
 have a:∀(u:Nat) (r:List UInt8),Lib.decDigits u≠45::r:=λu r e=>by
  have:=Nk u 45 (by rw[e];simp)
  simp at this
 unfold Lib.itoa at h;split at h<;>split at h
 ·have:=U3 (List.cons.inj h).2;omega
 ·exact gI h.symm (a _ _)
 ·exact gI h (a _ _)
 ·have:=U3 h;omega
theorem E7 (i:Int):∀x∈Ct i,J1 x=true∧x≠32∧x≠46:=by
 intro x hx;unfold Ct at hx;obtain⟨b,hb,rfl⟩:=kG.1 hx;unfold J1;simp only[lI,gJ];rcases Vy i b hb with rfl | h
 ·decide
 ·omega
theorem PK {i j:Int}(h:Ct i=Ct j):i=j:=by
 unfold Ct at h;refine Xf<|List.map_inj_right (f:=λb:UInt8=>(b.toNat:Int)) ?_ |>.1 h;intro a b hab
 have:a.toNat=b.toNat:=by omega
 exact UInt8.toNat_inj.1 this
theorem Io {i:Int}(a: -9223372036854775808≤i) (b:i≤9223372036854775807):(Ct i).length≤21:=by
 unfold Ct;rw[iL];exact Lib.itoa_length_le i a b
def GC:List Item→gM
 | [] =>[]
 |x::l=>Ct x.1++46::(Ct x.2++32::GC l)
theorem Sk (l m:List Item):GC (l++m)=GC l++GC m:=by
 induction l with
 |nil=>rfl
 |cons x l ih=>simp[GC,ih]
theorem Sl {c:Int}:∀ {a b r s:gM},(∀x∈a,x≠c)→(∀x∈b,x≠c)→a++c::r=b++c::s→a=b∧r=s:=by
 intro a
 induction a with
 |nil=>
  intro b r s _ hb h;cases b with
  |nil=>simpa using h
  |cons y b=>simp at h;exact gI h.1.symm (hb y (by simp))
 |cons x a ih=>
  intro b r s ha hb h;cases b with
  |nil=>simp at h;exact gI h.1 (ha x (by simp))
  |cons y b=>
   simp at h;obtain⟨d,e⟩:=ih (λz hz=>ha z (by simp[hz])) (λz hz=>hb z (by simp[hz])) h.2;exact⟨by rw[h.1,d],e⟩
theorem Xg:∀ {a b:List Item},GC a=GC b→a=b:=by
 intro a
 induction a with
 |nil=>
  intro b h;cases b with
  |nil=>rfl
  |cons y b=>simp[GC]at h
 |cons x a ih=>
  intro b h;cases b with
  |nil=>simp[GC]at h
  |cons y b=>
   have⟨c,d⟩:=Sl (λz hz=>(E7 x.1 z hz).2.2) (λz hz=>(E7 y.1 z hz).2.2) h;have⟨e,f⟩:=Sl (λz hz=>(E7 x.2 z hz).2.1) (λz hz=>(E7 y.2 z hz).2.1) d;rw[mO (PK c) (PK e),ih f]
theorem Nn (l:List Item):∀x∈GC l,J1 x=true:=by
 induction l with
 |nil=>intro x hx;cases hx
 |cons y l ih=>
  intro x hx;simp only[GC,iD,kV]at hx;rcases hx with h | rfl | h | rfl | h
  ·exact(E7 _ x h).1
  ·decide
  ·exact(E7 _ x h).1
  ·decide
  ·exact ih x h
def I64 (l:List Item):Prop:= ∀x∈l,0≤x.1∧x.1≤1000000∧0≤x.2∧x.2≤1000000
theorem Xh {l:List Item}(h:I64 l):(GC l).length≤l.length *44:=by
 induction l with
 |nil=>simp[GC]
 |cons x l ih=>
  have a:=h x (by simp)
  have:=ih λy hy=>h y (by simp[hy])
  have b:=Io (i:=x.1) (by omega) (by omega);have c:=Io (i:=x.2) (by omega) (by omega);simp only[GC,iH,gZ];omega
def UF (l:List Item):gN:=⟨((GC l).map λx=>kX x.toNat).toArray⟩
theorem UG {x:Int}(h:J1 x=true):((kX x.toNat).toNat:Int)=x:=by
 unfold J1 at h;simp only[lI,gJ]at h;simp;omega
theorem Xi {a b:List Item}(h:UF a=UF b):a=b:=by
 unfold UF at h;simp only[ByteArray.mk.injEq]at h;have c:∀l:gM,(∀x∈l,J1 x=true)→(l.map λx=>kX x.toNat).map (λb=>(b.toNat:Int))=l:=λl hl=>by
  rw[nO]
  conv=>rhs;rw[←List.map_id l]
  refine List.map_congr_left λx hx=>UG (hl x hx)
 refine Xg ?_;rw[←c (GC a) (Nn a),←c (GC b) (Nn b)];rw[List.toArray_inj h]
theorem bN {l:List Item}(h:I64 l) (hl:l.length≤20000):ET l=some (UF l):=by
 refine oE ?_;unfold ET;refine BV (λk (z:gM)=>z=GC (l.take k)) (by omega) rfl (λk z hk hz=> ?_) λz hz=> ?_
 ·subst hz;have hx:=gO hk;have a:=h _ (hZ hk);have e:GC (l.take (k+1))=GC (l.take k) ++GC [l[k]]:=by rw[jV,hx,Sk];rfl
  have hlen:=Xh (l:=l.take k) λy hy=>h y (mQ hy)
  have:(l.take k).length≤k:=by rw[jG];omega
  have d:=Io (i:=l[k].1) (by omega) (by omega);have f:=Io (i:=l[k].2) (by omega) (by omega);have b:EG (GC (l.take k)) l[k].1 10=some (GC (l.take k) ++Ct l[k].1):=by unfold EG;rw[gF ⟨rfl,by omega,by omega,by omega⟩]
  refine AS hx (AP b (BI (by simp;omega) ?_));have c:EG (GC (l.take k) ++Ct l[k].1++ [46]) l[k].2 10=some (GC (l.take k) ++Ct l[k].1++ [46] ++Ct l[k].2):=by unfold EG;rw[gF ⟨rfl,by omega,by omega,by simp;omega⟩]
  refine AP c (BI (by simp;omega) (AB ?_));rw[e];simp[GC]
 ·subst hz;rw[iU (iN _)];refine AP (x:=UF l) ?_ (AB rfl);unfold Up UF;rw[gF (List.all_eq_true.2 (Nn l))]
def nx (R:Rl) (l:List Item) (s:Int):List Item:=(l.filter λx=>beh R x==s).map λx=>(x.1,x.2+1)
theorem OkI.dot {nT:Int}{R:Rl}(V:VP nT R) {x:Item}(h:OkI R x):x.1≤1000∧x.2≤1000:=by
 obtain⟨b,c,r,a,d⟩:=h
 have:=V.short r (gY a)
 have:=(gS.1 a).1
 have:=V.few
 omega
theorem OkI.i64 {nT:Int}{R:Rl}(V:VP nT R) {l:List Item}(h:∀x∈l,OkI R x):I64 l:=λx hx=>by
 have:=(h x hx).dot V
 have:=(h x hx).1
 have:=(h x hx).2.1
 omega
theorem ZF {p:Au}{nT:Int}(V:VP nT p.2.2.1) {l:List Item}(h:∀x∈l,OkI p.2.2.1 x) (hl:l.length≤1000000) (s:Int):CW (qA p Cv 0) l s=some (nx p.2.2.1 l s):=by
 refine oE ?_;unfold CW;refine BV (λk (z:List Item)=>z=nx p.2.2.1 (l.take k) s) (by omega) rfl (λk z hk hz=> ?_) λz hz=>AB (by rw[hz,iU (iN _)]);subst hz;have hx:=gO hk;have a:=h _ (hZ hk);have ad:=a.dot V;have b:=a.2.1;have e:nx p.2.2.1 (l.take (k+1)) s=nx p.2.2.1 (l.take k) s++nx p.2.2.1 [l[k]] s:=by
  rw[jV,hx];unfold nx;rw[nH,jD];rfl
 have hlen:(nx p.2.2.1 (l.take k) s).length≤k:=by
  unfold nx;rw[iL]
  have:=jF (λx=>beh p.2.2.1 x==s) (l.take k)
  rw[jG]at this;omega
 refine AS hx (AP (Nj a) ?_);refine AM (Q:=λz=>z=nx p.2.2.1 (l.take (k+1)) s) (AR (λhc=> ?_) λhc=>AB ?_) λz hz=>AB hz
 ·refine BI (by simp;omega) (AB ?_);rw[e,w64 (by omega) (by omega)];unfold nx;rw[lK,gF hc];rfl
 ·rw[e];unfold nx;rw[lK,gG (by rw[hc];decide)];simp
theorem PL {R:Rl}{l:List Item}{s:Int}{y:Item}:y∈nx R l s↔∃x∈l,beh R x=s∧y=(x.1,x.2+1):=by
 unfold nx;simp only[kG,List.mem_filter,beq_iff_eq];constructor
 ·rintro⟨x,⟨a,b⟩,c⟩;exact⟨x,a,b,c.symm⟩
 ·rintro⟨x,a,b,c⟩;exact⟨x,⟨a,b⟩,c.symm⟩
theorem Sm {R:Rl}{l:List Item}(h:l.Pairwise Lt) (s:Int):(nx R l s).Pairwise Lt:=by
 unfold nx;rw[nJ];exact(h.filter _).imp λ{a b} h=>by unfold Lt at *;dsimp only;omega
theorem bP (R:Rl) (l:List Item) (s:Int):(nx R l s).length≤l.length:=by
 unfold nx;rw[iL];exact jF _ _
theorem Qc {nT:Int}{R:Rl}(V:VP nT R) {l:List Item}(h:∀x∈l,OkI R x) {s:Int}(hs:0≤s):∀y∈nx R l s,OkI R y∧1≤y.2:=λy hy=>by
 obtain⟨x,c,a,rfl⟩:=PL.1 hy;have⟨d,e,r,b,f⟩:=h x c;refine⟨⟨d,by dsimp only;omega,r,b,?_⟩,by dsimp only;omega⟩;unfold beh at a;rw[b]at a;dsimp only at a ⊢;rcases jK x.2.toNat r.2.1.length with g | g
 ·omega
 ·rw[iO g]at a;simp at a;omega
def syr (R:Rl) (l:List Item):gM:=(l.map (beh R)).filter λs=>decide (0≤s)
def sy (R:Rl) (l:List Item):gM:=Lib.compact (KL (syr R l))
theorem UH {p:Au}{l:List Item}(h:∀x∈l,OkI p.2.2.1 x) (hl:l.length≤1000000):B6 (qA p Cv 0) l=some (sy p.2.2.1 l):=by
 refine oE ?_;unfold B6;have hlen:∀k,(syr p.2.2.1 (l.take k)).length≤l.length:=λk=>by
  unfold syr
  have:=jF (λs=>decide (0≤s)) ((l.take k).map (beh p.2.2.1))
  rw[iL,jG]at this;omega
 refine BV (λk (z:gM)=>z=syr p.2.2.1 (l.take k)) (by omega) rfl (λk z hk hz=> ?_) λz hz=> ?_
 ·subst hz;have hx:=gO hk;have a:=h _ (hZ hk);have e:syr p.2.2.1 (l.take (k+1))=syr p.2.2.1 (l.take k) ++syr p.2.2.1 [l[k]]:=by
   rw[jV,hx];unfold syr;rw[jD,nH];rfl
  have:=hlen k
  refine AS hx (AP (Nj a) ?_);refine AM (Q:=λz=>z=syr p.2.2.1 (l.take (k+1))) (AR (λhc=> ?_) λhc=>AB ?_) λz hz=>AB hz
  ·refine BI (by simp;omega) (AB ?_);rw[e];unfold syr;rw[mV,lK,gF (by simpa using hc)];rfl
  ·rw[e];unfold syr;rw[mV,lK,gG (by simpa using hc)];simp
 ·subst hz
  have:=hlen l.length
  rw[iU (iN _)]at this ⊢;refine AP (x:=KL (syr p.2.2.1 l)) (by unfold Uv;rw[gF (by omega)])<|AP (x:=sy p.2.2.1 l) (by unfold Mt;rw[gF (by unfold KL;rw[(DT _ _).length_eq];omega)];rfl) (AB rfl)
theorem Sn (l:gM):(KL l).Pairwise (· ≤ ·):=by
 have d:=O0 (le:=λx y:Int=>decide (x≤y)) (by
  intro a b c d e;simp only[gJ]at *
  omega) (by
  intro a b;simp only[Bool.or_eq_true,gJ]
  omega) l
 exact d.imp λ{a b} h=>gD h
theorem Qd {l:gM}(h:l.Pairwise (· ≤ ·)):∀m,m≤l.length→(Lib.compactUpTo l.toArray m).Pairwise (· < ·)∧(∀x,x∈Lib.compactUpTo l.toArray m↔x∈l.take m):=by
 intro m
 induction m with
 |zero=>intro _;exact⟨.nil,λx=>by simp[Lib.compactUpTo]⟩
 |succ m ih=>
  intro hm;obtain⟨f,a⟩:=ih (by omega);rw[Lib.compactUpTo_succ];have hx:=gO (show m<l.length by omega);have b:l.toArray[m]! =l[m]:=by rw[getElem!_pos _ m (by simp;omega)];simp
  have et:l.take (m+1)=l.take m++ [l[m]]:=by rw[jV,hx];rfl
  have le:∀x∈l.take m,x≤l[m]:=λx hx=>by
   obtain⟨j,hj,rfl⟩:=mU hx;rw[jG]at hj;rw[nU];exact jE.1 h j m (by omega) (by omega) (by omega)
  cases hk:Lib.keeps l.toArray m with
  |true=>
   rw[gF rfl,b,et];refine⟨mM.2 ⟨f,by simp,λx hx y hy=> ?_⟩,λx=>by rw[iD,iD,a]⟩;obtain rfl:=gW.1 hy;have hx':=(a x).1 hx
   have:=le x hx'
   unfold Lib.keeps at hk;have hk:=gD hk;rcases hk with rfl | hk
   ·simp at hx'
   ·have c:l.toArray[m - 1]! =l[m - 1]:=by rw[getElem!_pos _ (m - 1) (by simp;omega)];simp
    rw[b,c]at hk;have d:m≠0:=λe=>by subst e;simp at hx'
    have hle:x≤l[m - 1]:=by
     obtain⟨j,hj,rfl⟩:=mU hx';rw[jG]at hj;rw[nU];rcases jK j (m - 1) with g | g
     ·exact jE.1 h j (m - 1) (by omega) (by omega) (by omega)
     ·have:j=m - 1:=by omega
      subst this;exact Int.le_refl _
    have:=jE.1 h (m - 1) m (by omega) (by omega) (by omega)
    omega
  |false=>
   rw[gG (by decide),mG,et];refine⟨f,λx=> ?_⟩;rw[a,iD,gW];unfold Lib.keeps at hk;have hk:=gE hk;have d:m≠0:=λe=>hk (.inl e);have c:l.toArray[m - 1]! =l[m - 1]:=by rw[getElem!_pos _ (m - 1) (by simp;omega)];simp
   have heq:l[m] =l[m - 1]:=by
    by_cases q:l[m] =l[m - 1]
    ·exact q
    ·exact gI (.inr (by rw[b,c];exact q)) hk
   constructor
   ·exact .inl
   ·rintro(h | rfl)
    ·exact h
    ·rw[heq];refine gY (i:=m - 1) ?_;rw[kF,gF (by omega),gO (by omega)]
theorem aF (R:Rl) (l:List Item):(sy R l).Pairwise (· < ·):=(Qd (Sn _) _ (iN _)).1
theorem Hg {R:Rl}{l:List Item}{s:Int}:s∈sy R l↔0≤s∧ ∃x∈l,beh R x=s:=by
 unfold sy Lib.compact;rw[(Qd (Sn _) _ (iN _)).2,iU (iN _)];unfold KL;rw[(DT _ _).mem_iff];unfold syr;simp only[List.mem_filter,kG,gJ];constructor
 ·rintro⟨⟨x,a,b⟩,c⟩;exact⟨c,x,a,b⟩
 ·rintro⟨c,x,a,b⟩;exact⟨⟨x,a,b⟩,c⟩
theorem UI (R:Rl) (l:List Item):(sy R l).length≤l.length:=by
 have b:=O1 (KL (syr R l));have c:(KL (syr R l)).length=(syr R l).length:=(DT _ _).length_eq;have a:(syr R l).length≤(l.map (beh R)).length:=jF _ _;rw[iL]at a;unfold sy;omega
abbrev k0:List Item:=[((0:Int),(0:Int))]
noncomputable def clo (p:Au) (K:List Item):List Item:=(BR (qA p Cv 0) K).getD []
abbrev VPp (p:Au):Prop:=VP (p.1.length:Int) p.2.2.1
structure Je (R:Rl) (k:List Item):Prop where
 ok:∀x∈k,OkI R x
 up:k.Pairwise Lt
theorem Lt.nodup {l:List Item}(h:l.Pairwise Lt):l.Nodup:=jP.2 (h.imp λ{a b} h e=>by subst e;exact Lt.irrefl _ h)
theorem Fk {nT:Int}{R:Rl}(V:VP nT R) {l:List Item}(h:∀x∈l,OkI R x) (hn:l.Nodup):l.length≤10100:=by
 have:=List.Nodup.length_le_of_subset (l₂:=(mA 100).flatMap λa=>(mA 101).map λb=>(((a:Nat):Int),((b:Nat):Int))) hn (λx hx=>by
  have⟨d,e,r,c,f⟩:=h x hx
  have:=V.short r (gY c)
  have:=(gS.1 c).1
  have:=V.few
  refine List.mem_flatMap.2 ⟨x.1.toNat,mP.2 (by omega),kG.2 ⟨x.2.toNat,mP.2 (by omega),?_⟩⟩;exact mO (by dsimp only;omega) (by dsimp only;omega))
 refine Nat.le_trans this ?_;rw[List.length_flatMap];simp only[iL,List.length_range];decide
theorem Fl {p:Au}(V:VPp p) {K:List Item}(h:Je p.2.2.1 K):BR (qA p Cv 0) K=some (clo p K)∧RV p.2.2.1 K (clo p K)∧Je p.2.2.1 (clo p K)∧(clo p K).length≤10100:=by
 have hl:=Fk V h.ok (Lt.nodup h.up);obtain⟨C,b,a⟩:=UE V h.ok (Lt.nodup h.up) (by omega);have e:clo p K=C:=by unfold clo;rw[b];rfl
 rw[e];have hg:Je p.2.2.1 C:=⟨λx hx=>((a.mem x).1 hx).ok h.ok,a.up⟩;exact⟨b,a,hg,Fk V hg.ok (Lt.nodup hg.up)⟩
noncomputable def E8 (p:Au) (B:List dtK) (k:List Item) (fr wi:Int):Nat×List dtK:=
 match B.findIdx? (λb=>decide (b.1=k)) with
 |some i=>(i,B)
 |none=>(B.length,B++ [(k,clo p k,fr,wi)])
abbrev BE:Type:=List dtK×List (List Edge)
noncomputable def EJ (p:Au) (b:dtK) (i:Nat) (y:BE) (s:Int):BE:=((E8 p y.1 (nx p.2.2.1 b.2.1 s) (i:Int) s).2,(Dp y.2 y.1.length (E8 p y.1 (nx p.2.2.1 b.2.1 s) (i:Int) s).2.length).set i ((((Dp y.2 y.1.length (E8 p y.1 (nx p.2.2.1 b.2.1 s) (i:Int) s).2.length))[i]?).getD [] ++ [(s,(((E8 p y.1 (nx p.2.2.1 b.2.1 s) (i:Int) s).1:Nat):Int))]))
noncomputable def D3 (p:Au) (b:dtK) (i:Nat) (l:gM) (y:BE):BE:=l.foldl (EJ p b i) y
noncomputable def stM (p:Au):Nat→BE
 | 0=>([(k0,clo p k0, -1, -1)],[[]])
 |n+1=>match (stM p n).1[n]? with
  |some b=>D3 p b n (sy p.2.2.1 b.2.1) (stM p n)
  |none=>stM p n
noncomputable def mid (p:Au) (n m:Nat):BE:=match (stM p n).1[n]? with
 |some b=>D3 p b n ((sy p.2.2.1 b.2.1).take m) (stM p n)
 |none=>stM p n
theorem HP (p:Au) (B:List dtK) (k:List Item) (fr wi:Int):
 (∃i b,E8 p B k fr wi=(i,B)∧B[i]? =some b∧b.1=k)∨(E8 p B k fr wi=(B.length,B++ [(k,clo p k,fr,wi)])∧ ∀b∈B,b.1≠k):=by
 unfold E8;cases h:B.findIdx? (λb=>decide (b.1=k)) with
 |none=>
  right
  refine⟨rfl,λb hb e=> ?_⟩
  have:=jS.1 h b hb
  simp[e]at this
 |some i=>
  left
  obtain⟨hi,a,_⟩:=List.findIdx?_eq_some_iff_getElem.1 h;exact⟨i,B[i],rfl,gO hi,gD a⟩
def HQ (R:Rl) (B:List dtK) (b:dtK) (syms:gM) (e:List Edge):Prop:=
 e.map (·.1)=syms∧ ∀x∈e,∃(t:Nat) (bt:dtK),x.2=(t:Int)∧1≤t∧B[t]? =some bt∧bt.1=nx R b.2.1 x.1
structure Inv (p:Au) (n:Nat) (syms:gM) (y:BE):Prop where
 wf:∀b∈y.1,Je p.2.2.1 b.1∧b.2.1=clo p b.1
 len:y.2.length=y.1.length
 zero:y.1[0]? =some (k0,clo p k0, -1, -1)
 from_:∀(j:Nat) b,1≤j→y.1[j]? =some b→ ∃(f:Nat) (bf:dtK) (e:List Edge),f<j∧b.2.2.1=(f:Int)∧y.1[f]? =some bf∧b.1=nx p.2.2.1 bf.2.1 b.2.2.2∧b.2.2.2∈sy p.2.2.1 bf.2.1∧y.2[f]? =some e∧(b.2.2.2,(j:Int))∈e
 apart:∀(i j:Nat) bi bj,y.1[i]? =some bi→y.1[j]? =some bj→bi.1=bj.1→i=j
 done:∀(j:Nat) b e,j<n→y.1[j]? =some b→y.2[j]? =some e→HQ p.2.2.1 y.1 b (sy p.2.2.1 b.2.1) e
 cur:∀b e,y.1[n]? =some b→y.2[n]? =some e→HQ p.2.2.1 y.1 b syms e
 fresh:∀(j:Nat) e,n<j→y.2[j]? =some e→e= []
theorem HQ.up {R:Rl}{B B':List dtK}{b:dtK}{syms:gM}{e:List Edge}(H:HQ R B b syms e) (hB:∀(j:Nat) x,B[j]? =some x→B'[j]? =some x):HQ R B' b syms e:=
 ⟨H.1,λx hx=>by have⟨t,bt,a,c,d,f⟩:=H.2 x hx;exact⟨t,bt,a,c,hB t bt d,f⟩⟩
theorem EU {α:Type}{l:List α}{x y:α}{j:Nat}(h:l[j]? =some y):(l++ [x])[j]? =some y:=by
 rw[gV (gS.1 h).1];exact h
theorem Bo {α:Type}{l:List α}{y:α}{j:Nat}(h:l[j]? =some y):j<l.length:=(gS.1 h).1
theorem Inv.grow {p:Au}{n:Nat}{syms:gM}{B:List dtK}{E:List (List Edge)}(H:Inv p n syms (B,E)) (hn:n<B.length) {x:dtK}:(E++ [[]]).length=(B++ [x]).length∧(B++ [x])[0]? =some (k0,clo p k0, -1, -1)∧
 (∀(j:Nat) b e,j<n→(B++ [x])[j]? =some b→(E++ [[]])[j]? =some e→HQ p.2.2.1 (B++ [x]) b (sy p.2.2.1 b.2.1) e)∧
 (∀b e,(B++ [x])[n]? =some b→(E++ [[]])[n]? =some e→HQ p.2.2.1 (B++ [x]) b syms e)∧(∀(j:Nat) e,n<j→(E++ [[]])[j]? =some e→e= []):=by
 have hl:=H.len;dsimp only at hl;refine⟨by simp[hl],EU H.zero,λj b e hj hb he=> ?_,λb e hb he=> ?_,λj e hj he=> ?_⟩
 ·rw[gV (by omega)]at hb he;exact(H.done j b e hj hb he).up λ_ _ h=>EU h
 ·rw[gV (by omega)]at hb he;exact(H.cur b e hb he).up λ_ _ h=>EU h
 ·rcases FR he with h | ⟨_,h⟩
  ·exact H.fresh j e hj h
  ·exact h
theorem Inv.edge {p:Au}(V:VPp p) {n:Nat}{syms:gM}{B:List dtK}{E:List (List Edge)}(H:Inv p n syms (B,E)) {b:dtK}(hb:B[n]? =some b) {s:Int}(hs:s∈sy p.2.2.1 b.2.1):Inv p n (syms++ [s]) (EJ p b n (B,E) s):=by
 have hnl:=Bo hb;have hl:=H.len;dsimp only at hl;obtain⟨e,he⟩:∃e,E[n]? =some e:=⟨_,gO (by omega)⟩;have⟨hg,hc⟩:=H.wf b (gY hb);have⟨_,_,hgc,_⟩:=Fl V hg;have⟨A,xs,hxs,hxe⟩:=Hg.1 hs;have hne:∀y∈nx p.2.2.1 b.2.1 s,1≤y.2:=λy hy=>(Qc V (l:=b.2.1) (by rw[hc];exact hgc.ok) A y hy).2;have hnn:∃y,y∈nx p.2.2.1 b.2.1 s:=⟨_,PL.2 ⟨xs,hxs,hxe,rfl⟩⟩;have hzero:nx p.2.2.1 b.2.1 s≠k0:=λh=>by
  obtain⟨y,hy⟩:=hnn
  have:=hne y hy
  rw[h]at hy
  have:=gW.1 hy
  subst this;dsimp only at *;omega
 have hcur:=H.cur b e hb he;unfold EJ;rcases HP p B (nx p.2.2.1 b.2.1 s) (n:Int) s with⟨i,bi,w,k,C⟩|⟨w,k⟩
 ·dsimp only;rw[w];dsimp only;have hgE:Dp E B.length B.length=E:=by unfold Dp;rw[gF rfl]
  rw[hgE,he,oA];have z:1≤i:=by
   rcases nG i with h | h
   ·subst h
    have:=H.zero
    dsimp only at this;rw[k]at this;cases this;exact gI C.symm hzero
   ·exact h
  refine⟨H.wf,by simp[hl],H.zero,λj b' hj hb'=> ?_,H.apart,λj b' e' hj hb' he'=> ?_,λb' e' hb' he'=> ?_,λj e' hj he'=> ?_⟩
  ·have⟨f,bf,ef,m,o,g,q,r,d,t⟩:=H.from_ j b' hj hb';dsimp only at g d ⊢;by_cases hf:f=n
   ·subst hf;rw[he]at d;cases d;exact⟨f,bf,_,m,o,g,q,r,jM (by omega),iZ _ t⟩
   ·exact⟨f,bf,ef,m,o,g,q,r,by rw[jH (λh=>hf h.symm)];exact d,t⟩
  ·dsimp only at he';rw[jH (by omega)]at he';exact H.done j b' e' hj hb' he'
  ·dsimp only at he' hb';rw[jM (by omega)]at he';rw[hb]at hb';cases he';cases hb';refine⟨by rw[jD,hcur.1];rfl,λx hx=> ?_⟩;rcases iD.1 hx with h | h
   ·exact hcur.2 x h
   ·obtain rfl:=gW.1 h;exact⟨i,bi,rfl,z,k,C⟩
  ·dsimp only at he';rw[jH (by omega)]at he';exact H.fresh j e' hj he'
 ·dsimp only;rw[w];dsimp only;have hgE:Dp E B.length (B++ [(nx p.2.2.1 b.2.1 s,clo p (nx p.2.2.1 b.2.1 s),(n:Int),s)]).length=E++ [[]]:=by unfold Dp;rw[gG (by simp)]
  have u:(E++ [[]])[n]? =some e:=EU he;rw[hgE,u,oA];have⟨J,D,F,G,I⟩:=H.grow hnl (x:=(nx p.2.2.1 b.2.1 s,clo p (nx p.2.2.1 b.2.1 s),(n:Int),s));have hgk:Je p.2.2.1 (nx p.2.2.1 b.2.1 s):=⟨λy hy=>(Qc V (l:=b.2.1) (by rw[hc];exact hgc.ok) A y hy).1,Sm (by rw[hc];exact hgc.up) s⟩
  generalize hX:(nx p.2.2.1 b.2.1 s,clo p (nx p.2.2.1 b.2.1 s),(n:Int),s)=X at *
  have X1:X.1=nx p.2.2.1 b.2.1 s:=by rw[←hX]
  have hlast:(B++ [X])[B.length]? =some X:=by rw[iT (iN _),Nat.sub_self];rfl
  refine⟨λb' hb'=> ?_,by simp[hl],D,λj b' hj hb'=> ?_,λi j bi bj hi hj hij=> ?_,λj b' e' hj hb' he'=> ?_,λb' e' hb' he'=> ?_,λj e' hj he'=> ?_⟩
  ·rcases iD.1 hb' with h | h
   ·exact H.wf b' h
   ·obtain rfl:=gW.1 h;rw[←hX];exact⟨hgk,rfl⟩
  ·dsimp only at hb' ⊢;rcases FR hb' with h | ⟨hj',rfl⟩
   ·have⟨f,bf,ef,m,o,g,q,r,d,t⟩:=H.from_ j b' hj h;dsimp only at g d ⊢;by_cases hf:f=n
    ·subst hf;rw[he]at d;cases d;exact⟨f,bf,_,m,o,EU g,q,r,jM (by simp;omega),iZ _ t⟩
    ·exact⟨f,bf,ef,m,o,EU g,q,r,by rw[jH (λh=>hf h.symm)];exact EU d,t⟩
   ·subst hj';refine⟨n,b,_,hnl,by rw[←hX],EU hb,by rw[←hX],by rw[←hX];exact hs,jM (by simp;omega),lG _ ?_⟩;rw[←hX];exact gW.2 rfl
  ·dsimp only at hi hj;rcases FR hi with a | ⟨a,a'⟩ <;>rcases FR hj with c | ⟨c,c'⟩
   ·exact H.apart i j bi bj a c hij
   ·rw[c',X1]at hij;exact gI hij (k bi (gY a))
   ·rw[a',X1]at hij;exact gI hij.symm (k bj (gY c))
   ·omega
  ·dsimp only at he' hb';rw[jH (by omega)]at he';exact F j b' e' hj hb' he'
  ·dsimp only at he' hb';rw[jM (by simp;omega)]at he';rw[EU hb]at hb';cases he';cases hb';have v:=G b e (EU hb) u;refine⟨by rw[jD,v.1];rfl,λx hx=> ?_⟩;rcases iD.1 hx with h | h
   ·exact v.2 x h
   ·obtain rfl:=gW.1 h;exact⟨B.length,X,rfl,by omega,hlast,X1⟩
  ·dsimp only at he';rw[jH (by omega)]at he';exact I j e' hj he'
theorem Qe {p:Au}{b:dtK}{n:Nat}{s:Int}(y:BE):∃l,(EJ p b n y s).1=y.1++l:=by
 unfold EJ;rcases HP p y.1 (nx p.2.2.1 b.2.1 s) (n:Int) s with⟨i,bi,a,_⟩|⟨a,_⟩
 ·rw[a];exact⟨[],by simp⟩
 ·rw[a];exact⟨_,rfl⟩
theorem IA {p:Au}{b:dtK}{n:Nat}:∀(l:gM) (y:BE),∃m,(D3 p b n l y).1=y.1++m:=by
 intro l
 induction l with
 |nil=>intro y;exact⟨[],by simp[D3]⟩
 |cons s l ih=>
  intro y;have⟨a,c⟩:=Qe (p:=p) (b:=b) (n:=n) (s:=s) y;obtain⟨d,e⟩:=ih (EJ p b n y s);exact⟨a++d,by rw[←gT,←c];exact e⟩
theorem Inv.fold {p:Au}(V:VPp p) {n:Nat}{b:dtK}:∀(l:gM) {syms:gM}{y:BE},Inv p n syms y→y.1[n]? =some b→(∀s∈l,s∈sy p.2.2.1 b.2.1)→Inv p n (syms++l) (D3 p b n l y):=by
 intro l
 induction l with
 |nil=>intro syms y H hb _;rw[mG];exact H
 |cons s l ih=>
  intro syms y H hb hl;obtain⟨B,E⟩:=y;have c:=H.edge V hb (hl s (by simp));have⟨m,hm⟩:=Qe (p:=p) (b:=b) (n:=n) (s:=s) (B,E);have a:=ih c (by rw[hm,gV (Bo hb)];exact hb) (λx hx=>hl x (by simp[hx]));rw[gT]at a;exact a
theorem Inv.next {p:Au}{n:Nat}{y:BE}{b:dtK}(hb:y.1[n]? =some b) (H:Inv p n (sy p.2.2.1 b.2.1) y):Inv p (n+1) [] y:=by
 refine⟨H.wf,H.len,H.zero,H.from_,H.apart,λj b' e hj hb' he=> ?_,λb' e hb' he=> ?_,λj e hj he=>H.fresh j e (by omega) he⟩
 ·rcases iX.1 hj with h | rfl
  ·exact H.done j b' e h hb' he
  ·rw[hb]at hb';cases hb';exact H.cur b e hb he
 ·have:=H.fresh (n+1) e (by omega) he
  subst this;exact⟨rfl,by simp⟩
theorem Inv.skip {p:Au}{n:Nat}{syms:gM}{y:BE}(hn:y.1.length≤n) (H:Inv p n syms y) (m:Nat) (hm:n≤m):Inv p m [] y:=by
 have hl:=H.len;refine⟨H.wf,H.len,H.zero,H.from_,H.apart,λj b e hj hb he=>H.done j b e (by have:=Bo hb;omega) hb he,λb e hb he=> ?_,λj e hj he=> ?_⟩
 ·have:=Bo hb;omega
 ·have:=Bo he;omega
theorem No {p:Au}(V:VPp p) (hp:1≤p.2.2.1.length):∀n,Inv p n [] (stM p n):=by
 intro n
 induction n with
 |zero=>
  have hg:Je p.2.2.1 k0:=⟨λx hx=>by
   obtain rfl:=gW.1 hx;exact⟨by decide,by decide,p.2.2.1[0],gO (by omega),by simp⟩,by simp⟩
  have one:∀(j:Nat) b,(stM p 0).1[j]? =some b→j=0:=λj b h=>by
   have:=Bo h
   simp[stM]at this;exact this
  refine⟨λb hb=> ?_,rfl,rfl,λj b hj hb=> ?_,λi j bi bj hi hj _=>by rw[one i bi hi,one j bj hj],λj b e hj=>by omega,λb e hb he=> ?_,λj e hj he=> ?_⟩
  ·have:b=(k0,clo p k0, -1, -1):=gW.1 hb
   subst this;exact⟨hg,rfl⟩
  ·have:=one j b hb;omega
  ·have:e= []:=by simpa[stM]using he.symm
   subst this;exact⟨rfl,by simp⟩
  ·have:=Bo he
   simp[stM]at this;omega
 |succ n ih=>
  unfold stM;cases h:(stM p n).1[n]? with
  |none=>exact ih.skip (List.getElem?_eq_none_iff.1 h) (n+1) (by omega)
  |some b=>
   have a:=ih.fold V (sy p.2.2.1 b.2.1) h (λs hs=>hs);refine Inv.next (b:=b) ?_ a;have⟨m,hm⟩:=IA (p:=p) (b:=b) (n:=n) (sy p.2.2.1 b.2.1) (stM p n);rw[hm,gV (Bo h)];exact h
theorem ZG {p:Au}(V:VPp p) (hp:1≤p.2.2.1.length) {n m:Nat}{b:dtK}(hb:(stM p n).1[n]? =some b):Inv p n ((sy p.2.2.1 b.2.1).take m) (mid p n m)∧(mid p n m).1[n]? =some b:=by
 have H:=(No V hp n).fold V ((sy p.2.2.1 b.2.1).take m) hb (λs hs=>mQ hs);have⟨l,hl⟩:=IA (p:=p) (b:=b) (n:=n) ((sy p.2.2.1 b.2.1).take m) (stM p n);unfold mid;rw[hb];exact⟨H,by rw[hl,gV (Bo hb)];exact hb⟩
theorem Xj {p:Au}{n m:Nat}{b:dtK}{s:Int}(hb:(stM p n).1[n]? =some b) (hs:(sy p.2.2.1 b.2.1)[m]? =some s):mid p n (m+1)=EJ p b n (mid p n m) s:=by
 unfold mid;rw[hb];dsimp only;rw[jV,hs];unfold D3;rw[kZ];rfl
theorem U4 {p:Au}{n:Nat}{b:dtK}(hb:(stM p n).1[n]? =some b):mid p n (sy p.2.2.1 b.2.1).length=stM p (n+1):=by
 unfold mid;rw[stM];rw[hb];dsimp only;rw[iU (iN _)]
theorem ZH (p:Au) (n:Nat):∃l,(stM p (n+1)).1=(stM p n).1++l:=by
 rw[stM];cases h:(stM p n).1[n]? with
 |none=>exact⟨[],by simp⟩
 |some b=>exact IA _ _
theorem Xk (p:Au) {n m:Nat}(h:n≤m):∃l,(stM p m).1=(stM p n).1++l:=by
 induction h with
 |refl=>exact⟨[],by simp⟩
 | @step m _ ih=>
  obtain⟨l,hl⟩:=ih;obtain⟨l',hl'⟩:=ZH p m;exact⟨l++l',by rw[hl',hl,gT]⟩
theorem UJ {p:Au}{n:Nat}(h:(stM p n).1.length≤n) {m:Nat}(hm:n≤m):stM p m=stM p n:=by
 induction hm with
 |refl=>rfl
 | @step m hm ih=>
  rw[stM,ih,iO (Nat.le_trans h hm)]
theorem U5 {α:Type}{o:Option α}{P:α→Prop}(h:Ok (o.bind some) P):Ok o P:=by
 cases o with
 |none=>exact h
 |some x=>exact h
def tot (B:List dtK):Nat:=(B.map (·.2.1.length)).sum
theorem OY (B C:List dtK):tot (B++C)=tot B+tot C:=by unfold tot;rw[jD,List.sum_append]
def Fit (L M:Int) (B:List dtK):Prop:=(B.length:Int) ≤L∧((tot B:Nat):Int) ≤M
theorem Fit.of_app {L M:Int}{B C:List dtK}(h:Fit L M (B++C)):Fit L M B:=by
 unfold Fit at *;rw[OY,iH]at h;omega
structure OP (L M:Int) (fd:Fd) (rm cl:Cu) (B:List dtK):Prop where
 map:∀k,I64 k→BT (UF k) fd=(B.findIdx? (λb=>decide (b.1=k))).map (λn:Nat=>(n:Int))
 rlim:rm.1=L
 rused:rm.2.1=(B.length:Int)
 clim:cl.1=M
 cused:cl.2.1=((tot B:Nat):Int)
theorem U6 {m:Cu}{n:Int}(a:0≤n) (b:n≤1000000) (c:0≤m.2.1) (d:m.2.1≤m.1) (e:m.1≤1099511627776):
 Ok (Cx m n) λt=>(n≤m.1 - m.2.1→t.1=0∧t.2.1=m.1∧t.2.2.1=m.2.1+n)∧(m.1 - m.2.1<n→t.1=5∧t.2=m):=by
 unfold Cx Eu;refine Af (gB (by omega)) (AP rfl ?_);rw[w64 (show -9223372036854775808≤m.1 - m.2.1 by omega) (by omega),w64 (show -9223372036854775808≤m.2.1+n by omega) (by omega)];refine AR (λhc=>AB ?_) λhc=>AB ?_
 ·have:=gD hc
  exact⟨λh=>by omega,λ_=>⟨rfl,rfl⟩⟩
 ·have:=gE hc
  exact⟨λ_=>⟨rfl,rfl,rfl⟩,λh=>by omega⟩
theorem Vz {B:List dtK}{x:dtK}{k:List Item}(h:∀b∈B,b.1≠x.1):(B++ [x]).findIdx? (λb=>decide (b.1=k))=if k=x.1 then some B.length else B.findIdx? (λb=>decide (b.1=k)):=by
 rw[List.findIdx?_append];by_cases e:k=x.1
 ·rw[gF e]
  have:B.findIdx? (λb=>decide (b.1=k))=none:=jS.2 λb hb=>gB (by rw[e];exact h b hb)
  rw[this];simp[e]
 ·rw[gG e]
  have: [x].findIdx? (λb=>decide (b.1=k))=none:=jS.2 λb hb=>gB (by
   obtain rfl:=gW.1 hb;exact λh=>e h.symm)
  rw[this];simp
theorem add_ok {p:Au}(V:VPp p) {L M:Int}{fd:Fd}{rm cl:Cu}{B:List dtK}{k:List Item}{fr wi:Int}(C:OP L M fd rm cl B) (F:Fit L M B) (hL:L≤1099511627776) (hM:M≤1099511627776) (g:Je p.2.2.1 k) (hB:B.length<1099512676352):
 Ok (Vv p fd B rm cl k fr wi) λr=>r.1=(((E8 p B k fr wi).1:Nat):Int)∧r.2.2.2.1=(E8 p B k fr wi).2∧(Fit L M (E8 p B k fr wi).2→r.2.1=0∧OP L M r.2.2.1 r.2.2.2.2.1 r.2.2.2.2.2 (E8 p B k fr wi).2)∧(¬Fit L M (E8 p B k fr wi).2→r.2.1=5):=by
 have hi:=OkI.i64 V g.ok;have hkl:=Fk V g.ok (Lt.nodup g.up);have⟨c,l,o,s⟩:=Fl V g;have hm:=C.map k hi;unfold Vv;refine AP (bN hi (by omega)) ?_;unfold E8;cases hf:B.findIdx? (λb=>decide (b.1=k)) with
 |some i=>
  rw[hf]at hm;rw[hm];exact BK rfl (AB ⟨rfl,rfl,λ_=>⟨rfl,C⟩,λh=>gI F h⟩)
 |none=>
  rw[hf]at hm;have hno:∀b∈B,b.1≠k:=λb hb=>gE (jS.1 hf b hb);rw[hm];have hLB:=F.1;have hMB:=F.2;refine Af rfl (AP c ?_);refine AM (U6 (m:=rm) (n:=1) (by decide) (by decide) (by rw[C.rused];omega) (by rw[C.rused,C.rlim];exact hLB) (by rw[C.rlim];exact hL)) λt ht=> ?_;rw[C.rused,C.rlim]at ht;have htot:tot (B++ [(k,clo p k,fr,wi)])=tot B+(clo p k).length:=by rw[OY];unfold tot;simp
  have hlen:(B++ [(k,clo p k,fr,wi)]).length=B.length+1:=by simp
  refine AM (Q:=λ(z:Int×Cu)=>(Fit L M (B++ [(k,clo p k,fr,wi)])→t.1=0∧z.1=0∧z.2.1=M∧z.2.2.1=((tot B+(clo p k).length:Nat):Int))∧(¬Fit L M (B++ [(k,clo p k,fr,wi)])→z.1=5)) (AR (λhc=> ?_) λhc=>AB ?_) λz hz=> ?_
  ·refine AM (U6 (m:=cl) (n:=(((clo p k).length:Nat):Int)) (by omega) (by omega) (by rw[C.cused];omega) (by rw[C.cused,C.clim];exact hMB) (by rw[C.clim];exact hM)) λu hu=>AB ?_;rw[C.cused,C.clim]at hu;unfold Fit;rw[htot,hlen];refine⟨λh=>⟨eq_of_beq hc,(hu.1 (by omega)).1,(hu.1 (by omega)).2.1,by rw[(hu.1 (by omega)).2.2];omega⟩,λh=> ?_⟩;rcases mD (M - (tot B:Int)) ((clo p k).length:Int) with q | q
   ·exact(hu.2 q).1
   ·exfalso;refine h ⟨?_,by omega⟩;rcases mD (L - (B.length:Int)) 1 with w | w
    ·have:=(ht.2 w).1
     rw[this]at hc;simp at hc
    ·omega
  ·unfold Fit;rw[htot,hlen];have hc:¬t.1=0:=by simpa using hc
   have hw:L - (B.length:Int) <1:=by
    rcases mD (L - (B.length:Int)) 1 with w | w
    ·exact w
    ·exact gI (ht.1 w).1 hc
   exact⟨λh=>by omega,λ_=>(ht.2 hw).1⟩
  ·refine BI (by simp;omega) (AB ⟨?_,rfl,λhF=> ?_,λhF=>hz.2 hF⟩)
   ·dsimp only;rw[hlen,w64 (by omega) (by omega)];omega
   ·have⟨v,d,f,j⟩:=hz.1 hF;have a:1≤L - (B.length:Int):=by unfold Fit at hF;rw[hlen]at hF;omega
    have⟨t1,t2,t3⟩:=ht.1 a;refine⟨d,λk' hk'=> ?_,t2,by rw[t3,hlen];omega,f,by rw[j,htot]⟩;rw[DC,Vz (x:=(k,clo p k,fr,wi)) hno];by_cases e:k'=k
    ·rw[gF (by rw[e]),gF e];rfl
    ·rw[gG (λh=>e (Xi h)),gG e];exact C.map k' hk'
theorem ZI {p:Au}(V:VPp p) {L M:Int}{fd:Fd}{rm cl:Cu}{B:List dtK}{E:List (List Edge)}{n:Nat}{syms:gM}{b:dtK}{s:Int}(H:Inv p n syms (B,E)) (hb:B[n]? =some b) (hs:s∈sy p.2.2.1 b.2.1) (hsl:syms.length≤1000000)
 (C:OP L M fd rm cl B) (F:Fit L M B) (hL:L≤1099511627776) (hM:M≤1099511627776) (hB:B.length<1099512676352):
 Ok (U2 p b (n:Int) s (fd,B,E,rm,cl)) λe=>(Fit L M (EJ p b n (B,E) s).1→ ∃fd' rm' cl',e= .next (fd',(EJ p b n (B,E) s).1,(EJ p b n (B,E) s).2,rm',cl')∧OP L M fd' rm' cl' (EJ p b n (B,E) s).1)∧(¬Fit L M (EJ p b n (B,E) s).1→e= .done 5):=by
 have⟨hg,hc⟩:=H.wf b (gY hb);have⟨_,_,hgc,hlc⟩:=Fl V hg;rw[←hc]at hgc hlc;have f:=(Hg.1 hs).1;have hgk:Je p.2.2.1 (nx p.2.2.1 b.2.1 s):=⟨λy hy=>(Qc V hgc.ok f y hy).1,Sm hgc.up s⟩;have hl:=H.len;dsimp only at hl;have hnl:=Bo hb;obtain⟨e,he⟩:∃e,E[n]? =some e:=⟨_,gO (by omega)⟩;have hel:e.length=syms.length:=by rw[← (H.cur b e hb he).1,iL]
 unfold U2;refine AP (ZF V hgc.ok (by omega) s)<|AM (add_ok V C F hL hM hgk hB (fr:=(n:Int)) (wi:=s)) λr hr=> ?_;obtain⟨r1,c,r3,d⟩:=hr;obtain⟨ri,re,rfd,rB,rrm,rcl⟩:=r;dsimp only at r1 c r3 d ⊢;subst r1 c;unfold EJ;dsimp only;by_cases hF:Fit L M (E8 p B (nx p.2.2.1 b.2.1 s) (n:Int) s).2
 ·have⟨a,g⟩:=r3 hF;subst a;have hgr:(Dp E B.length (E8 p B (nx p.2.2.1 b.2.1 s) (n:Int) s).2.length)[n]? =some e:=by
   unfold Dp;split
   ·exact he
   ·exact EU he
  refine Af rfl (AS hgr (BI (by simp;omega) (ER (by omega) (by have:=Bo hgr;omega) (AB ⟨λ_=>⟨rfd,rrm,rcl,?_,g⟩,λh=>gI hF h⟩))));rw[hgr,kM];rfl
 ·have a:=d hF;subst a;exact BK rfl (AB ⟨λh=>gI h hF,λ_=>rfl⟩)
def bQ (p:Au) (L:Int):Prop:= ∀n m,(((mid p n m).1.length:Nat):Int) ≤L→(mid p n m).1.length<1099512676352
theorem Xl (p:Au) (n m:Nat) {b:dtK}(hb:(stM p n).1[n]? =some b):∃l,(stM p (n+1)).1=(mid p n m).1++l:=by
 rw[←U4 hb];unfold mid;rw[hb];dsimp only;rw[iU (iN _)]
 conv=>rhs;intro l;lhs;rw[←mI m (sy p.2.2.1 b.2.1)]
 unfold D3;rw[kZ];exact IA _ _
theorem Xm {p:Au}(V:VPp p) (hp:1≤p.2.2.1.length) {L M:Int}{fd:Fd}{rm cl:Cu}{n:Nat}{b:dtK}(hb:(stM p n).1[n]? =some b) (C:OP L M fd rm cl (stM p n).1) (F:Fit L M (stM p n).1) (hL:L≤1099511627776) (hM:M≤1099511627776) (hR:bQ p L):
 Ok (RT p b (n:Int) (fd,(stM p n).1,(stM p n).2,rm,cl)) λe=>(Fit L M (stM p (n+1)).1→ ∃fd' rm' cl',e= .next (fd',(stM p (n+1)).1,(stM p (n+1)).2,rm',cl')∧OP L M fd' rm' cl' (stM p (n+1)).1)∧(¬Fit L M (stM p (n+1)).1→e= .done 5):=by
 have H:=No V hp n;have⟨hg,hc⟩:=H.wf b (gY hb);have⟨_,_,hgc,hlc⟩:=Fl V hg;rw[←hc]at hgc hlc;have hsl:=UI p.2.2.1 b.2.1;unfold RT;refine AP (UH hgc.ok (by omega)) (U5 ?_);have a:mid p n 0=stM p n:=by unfold mid;rw[hb];rfl
 refine F6 (λm (y:BSt)=>y.2.1=(mid p n m).1∧y.2.2.1=(mid p n m).2∧Fit L M (mid p n m).1∧OP L M y.1 y.2.2.2.1 y.2.2.2.2 (mid p n m).1) (λq=>q=5∧ ¬Fit L M (stM p (n+1)).1) (by omega) ⟨by rw[a],by rw[a],by rw[a];exact F,by rw[a];exact C⟩ (λm y hm hy=> ?_) (λy hy=>AB ?_) λq hq=>AB ⟨λh=>gI h hq.2,λ_=>by rw[hq.1]⟩
 ·obtain⟨fd,B,E,rm,cl⟩:=y;obtain⟨d,f,hF,hC⟩:=hy;dsimp only at d f hC ⊢;have⟨hI,hbm⟩:=ZG V hp hb (m:=m);have hs:=gO hm;have hsm:=hZ hm;have hsucc:=Xj hb hs;have hroom:=hR n m hF.1;refine AS hs ?_;subst d f;refine(ZI (B:=(mid p n m).1) (E:=(mid p n m).2) V hI hbm hsm (by rw[jG];omega) hC hF hL hM hroom).mono λe he=> ?_;have g:EJ p b n ((mid p n m).1,(mid p n m).2) (sy p.2.2.1 b.2.1)[m] =mid p n (m+1):=hsucc.symm;rw[g]at he;by_cases c:Fit L M (mid p n (m+1)).1
  ·obtain⟨fd',rm',cl',i,j⟩:=he.1 c;exact .inl ⟨_,i,rfl,rfl,c,j⟩
  ·refine .inr ⟨5,he.2 c,rfl,λh=>c ?_⟩;have⟨l,hl⟩:=Xl p n (m+1) hb;rw[hl]at h;exact h.of_app
 ·obtain⟨fd,B,E,rm,cl⟩:=y;obtain⟨d,f,hF,hC⟩:=hy;dsimp only at d f hC;rw[U4 hb]at d f hF hC;subst d f;exact⟨λ_=>⟨fd,rm,cl,rfl,hC⟩,λh=>gI hF h⟩
theorem V0 {p:Au}(V:VPp p) (hp:1≤p.2.2.1.length) {L M:Int}{fd:Fd}{rm cl:Cu}(C:OP L M fd rm cl (stM p 0).1) (F:Fit L M (stM p 0).1) (hL:L≤1099511627776) (hM:M≤1099511627776) (hR:bQ p L):
 Ok (OX p (fd,(stM p 0).1,(stM p 0).2,rm,cl)) λe=>(∃n fd' rm' cl',e= .next (fd',(stM p n).1,(stM p n).2,rm',cl')∧(stM p n).1.length≤n∧Fit L M (stM p n).1∧OP L M fd' rm' cl' (stM p n).1)∨(e= .done 5∧ ∃n,¬Fit L M (stM p n).1):=by
 unfold OX;refine U5 (Bq (λ(z:Int×BSt)=>∃n:Nat,z.1=(n:Int)∧z.2.2.1=(stM p n).1∧z.2.2.2.1=(stM p n).2∧Fit L M (stM p n).1∧OP L M z.2.1 z.2.2.2.2.1 z.2.2.2.2.2 (stM p n).1) (λz=>(L+1 - z.1).toNat) (λe=>(∃n fd' rm' cl',e= .next (fd',(stM p n).1,(stM p n).2,rm',cl')∧(stM p n).1.length≤n∧Fit L M (stM p n).1∧OP L M fd' rm' cl' (stM p n).1)∨(e= .done 5∧ ∃n,¬Fit L M (stM p n).1)) ⟨0,rfl,rfl,rfl,F,C⟩ (λz hz=> ?_) λe he=>AB he);obtain⟨i,fd,B,E,rm,cl⟩:=z;obtain⟨n,b,c,d,hF,hC⟩:=hz;dsimp only at b c d hC ⊢;subst b c d;refine AR (λhc=> ?_) λhc=>As (.inl ⟨n,fd,rm,cl,rfl,?_,hF,hC⟩)
 ·have hc:=gD hc;have hn:n< (stM p n).1.length:=by omega
  have hb:=gO hn;refine AS hb (AM (Xm V hp hb hC hF hL hM hR) λe he=> ?_);have hFL:=hF.1;by_cases a:Fit L M (stM p (n+1)).1
  ·obtain⟨fd',rm',cl',f,g⟩:=he.1 a;subst f;have hw:gR .i64 ((n:Int)+1)=((n+1:Nat):Int):=by rw[w64 (by omega) (by omega)];omega
   refine BJ ⟨⟨n+1,hw,rfl,rfl,a,g⟩,?_⟩;dsimp only;rw[hw];omega
  ·have:=he.2 a
   subst this;exact As (.inr ⟨rfl,n+1,a⟩)
 ·have:=gE hc
  omega
def held (n:Int):Int:=if n<0 then 0 else if n>1099511627776 then 1099511627776 else n
theorem new_ok (n:Int):F3 n=some (held n,0,0):=by
 refine oE ?_;unfold F3 Ic;refine AP rfl (AB ?_);refine mO ?_ rfl;dsimp only;unfold held
 split<;>split<;>(try split) <;>(try split) <;>omega
theorem OZ (n:Int):0≤held n∧held n≤1099511627776:=by unfold held;split<;>(try split) <;>omega
noncomputable def bR (p:Au) (n:Nat):EC:=(p.1,p.2.1,p.2.2.1,p.2.2.2.1,p.2.2.2.2.1,p.2.2.2.2.2,Ey (stM p n).1 (stM p n).2,((tot (stM p n).1:Nat):Int))
theorem Xn {p:Au}(V:VPp p) (hp:1≤p.2.2.1.length) {st it:Int}(hR:bQ p (held st)):
 Ok (PH p st it) λr=>(∃n,(stM p n).1.length≤n∧Fit (held st) (held it) (stM p n).1∧r=(some (bR p n),0))∨(r=(none,5)∧ ∃n,¬Fit (held st) (held it) (stM p n).1):=by
 unfold PH;have hs:=OZ st;have hi:=OZ it;have hg:=(No V hp 0).wf (k0,clo p k0, -1, -1) (gW.2 rfl);have C0:OP (held st) (held it) [] (held st,0,0) (held it,0,0) []:=⟨λk _=>rfl,rfl,rfl,rfl,rfl⟩;refine AP (new_ok st) (AP (new_ok it) (AM (add_ok V C0 ⟨hs.1,hi.1⟩ hs.2 hi.2 hg.1 (by simp)) λr hr=> ?_));obtain⟨r1,a,r3,b⟩:=hr;have e:E8 p [] k0 (-1) (-1)=(0,(stM p 0).1):=rfl;rw[e]at r1 a r3 b;obtain⟨ri,re,rfd,rB,rrm,rcl⟩:=r;dsimp only at r1 a r3 b ⊢;subst a;by_cases hF:Fit (held st) (held it) (stM p 0).1
 ·have⟨c,d⟩:=r3 hF;subst c;refine Af rfl (AM (V0 V hp d hF hs.2 hi.2 hR) λe he=> ?_);rcases he with⟨n,fd',rm',cl',rfl,f,g,h⟩|⟨rfl,n,hn⟩
  ·refine AP (x:=((tot (stM p n).1:Nat):Int)) (by unfold Ev;exact gH some h.cused) (AB (.inl ⟨n,f,g,rfl⟩))
  ·exact AB (.inr ⟨rfl,n,hn⟩)
 ·have:=b hF
  subst this;exact BK rfl (AB (.inr ⟨rfl,0,hF⟩))
end Go.Proofs.YtkfgeafgfeppfaaGreatDoor
namespace Go.Proofs.YtkfgeafgfeppfaaGreatDoor
open Go Go.Eng Dg
abbrev dtP:Type:=Au
abbrev dtA:Type:=EC
noncomputable def V1 (ss:List Ad) (x y:Int):Option (Bool×List Ad):=(idx ss x).bind λs=>(idx ss y).bind λo=>need (OkS s∧OkS o)<|some (FQ s o,ss.set x.toNat (BL s o))
noncomputable def ZJ (ss:List Ad) (x:Int) (o:Ad):Option (Bool×List Ad):=(idx ss x).bind λs=>need (OkS s∧OkS o)<|some (FQ s o,ss.set x.toNat (BL s o))
def nT (p:dtP):Int:=(p.1.length:Int)
noncomputable def K5 (p:dtP) (m:Int) (null:List Bool) (x:Int) (ss:List Ad) (seq:gM):Option (Bool×Bool×List Ad):=
 (DE (σ:=Bool×List Ad) (β:=Bool×Bool×List Ad) 0 (seq.length:Int) (false,ss) λi z=>
  (idx seq i).bind λsym=>(Bu p sym).bind λt=>
  cond t
   ((DJ (nT p) [sym]).bind λo=>(ZJ z.2 x o).bind λu=>some (.done (u.1 || z.1,false,u.2)))
   (need (gR .i64 (sym - nT p) <m)<|(V1 z.2 x (gR .i64 (sym - nT p))).bind λu=>(idx null (gR .i64 (sym - nT p))).bind λb=>
    cond b (some (.next (u.1 || z.1,u.2))) (some (.done (u.1 || z.1,false,u.2))))).bind λe=>match e with
 |.next z=>some (z.1,true,z.2)
 |.done r=>some r
noncomputable def PM (p:dtP) (m:Int) (null:List Bool) (ss:List Ad):Option (Bool×List Bool×List Ad):=forS (σ:=Bool×List Bool×List Ad) 0 (p.2.2.1.length:Int) (false,null,ss) λi z=>(idx p.2.2.1 i).bind λr=>need (0≤gR .i64 (r.1 - nT p)∧gR .i64 (r.1 - nT p) <m)<|(K5 p m z.2.1 (gR .i64 (r.1 - nT p)) z.2.2 r.2.1).bind λg=>(idx z.2.1 (gR .i64 (r.1 - nT p))).bind λb=>(DB z.2.1 (gR .i64 (r.1 - nT p)) (b || g.2.1)).bind λnull'=>some (z.1 || g.1 || (g.2.1 && !b),null',g.2.2)
noncomputable def M3 (p:dtP) (m:Int) (null:List Bool) (ss:List Ad):Option (Bool×List Ad):=forS (σ:=Bool×List Ad) 0 (p.2.2.1.length:Int) (false,ss) λi z=>(idx p.2.2.1 i).bind λr=>forS (σ:=Bool×List Ad) 0 (r.2.1.length:Int) z λj z=>(idx r.2.1 j).bind λsym=>(Bu p sym).bind λt=>cond t (some z) (need (0≤gR .i64 (sym - nT p)∧gR .i64 (sym - nT p) <m)<|(K5 p m null (m+gR .i64 (sym - nT p)) z.2 (r.2.1.drop (j+1).toNat)).bind λg=>(cond g.2.1 (need (0≤gR .i64 (r.1 - nT p)∧gR .i64 (r.1 - nT p) <m)<|(V1 g.2.2 (m+gR .i64 (sym - nT p)) (m+gR .i64 (r.1 - nT p))).bind λu=>some (u.1 || g.1,u.2)) (some (g.1,g.2.2))).bind λh=>some (z.1 || h.1,h.2))
noncomputable def Nq (p:dtP):Option (List Ad):=forS (σ:=List Ad) 0 (gR .i64 ((p.2.1.length:Int)+1)) [] λ_ acc=>(CM (nT p)).bind λs=>app acc [s]
noncomputable def KT (ss:List Ad):Option (List gM):=forS (σ:=List gM) 0 (ss.length:Int) [] λi acc=>(idx ss i).bind λs=>(JM s).bind λl=>app acc [l]
abbrev dtF:Type:=Z6
noncomputable def PN (p:dtP):Option dtF:=(Dh (gR .i64 ((p.2.1.length:Int)+1)) false).bind λnull=>(Nq p).bind λf=>(Nq p).bind λg=>(loop (σ:=Int×List Bool×List Ad) (β:=Int×List Bool×List Ad) (1,null,f++g) λz=>(PM p (f.length:Int) z.2.1 z.2.2).bind λr=>cond r.1 (some (.next (gR .i64 (z.1+1),r.2))) (some (.done (z.1,r.2)))).bind λz=>(idx (z.2.2.drop f.length) (p.2.1.length:Int)).bind λs=>(Aq s 0).bind λa=>(loop (σ:=List Ad) (β:=List Ad) (z.2.2.set (f.length+p.2.1.length) a.2) λss=>(M3 p (f.length:Int) z.2.1 ss).bind λr=>cond r.1 (some (.next r.2)) (some (.done r.2))).bind λss=>(KT (ss.take f.length)).bind λa=>(KT (ss.drop f.length)).bind λb=>some (z.2.1,a,b,z.1)
end Go.Proofs.YtkfgeafgfeppfaaGreatDoor
namespace Go.Proofs.YtkfgeafgfeppfaaGreatDoor
open Go Go.Eng
noncomputable def Nr (r1 b a:Nat):T:=iW 0 fW (jQ fW [fL 1] λi=>gU 87 [fN (fH a)] fR λl=>cond l (iB [fL (wN i.1)]) (kD 0 [fL i.1])) λm=>dX a 8 λj=>dX r1 1 λc=>deref j.1 λn=>chk (0≤(c.2.1:Int)∧(c.2.1:Int) < (j.2.1:Nat))<|fA n (c.2.1:Int) 1 λo=>gU 88 [fN o,fL 0] fR λt=>iW 2 [] (jQ [] [] λu=>gU 89 [fN (fH a)] fR λp=>cond p (iB []) (kD 2 [])) λv=>dX a 6 λd=>dX a 7 λq=>dX a 8 λk=>gU 90 [sv q] fP λr=>eR a 8 k<|eR a 6 d<|gU 90 [sv k] fP λs=>eR a 6 d<|eC b 0 d<|eC b 1 r<|eC b 2 s<|eM b 3 m.1<|dX b 0 λe=>dX b 1 λf=>dX b 2 λg=>eL b 3 λh=>jI (.agg #[sv e,sv f,sv g,fL h])
noncomputable def PO (p_0:Pl6):T:=dZ #[sv p_0.1,sv p_0.2.1,sv p_0.2.2.1,sv p_0.2.2.2.1,sv p_0.2.2.2.2.1,sv p_0.2.2.2.2.2.1] 32 λr1=>dZ #[fM,fM,fM,fL 0] 104 λr=>L6 r1 λt3 t4 t5 g h i=>dX r1 1 λj=>L6 r1 λk l m n o p=>L6 r1 λa b c d e f=>mF (jX (kW 68 (fL (gR .i64 ((j.2.1:Int)+(1:Int)))) (fL (gR .i64 ((j.2.1:Int)+(1:Int))))) fP λs=>S6 r1 a b c d e f<|S6 r1 k l m n o p<|S6 r1 t3 t4 t5 g h i<|gU 86 [aH k l m n o p] fP λt=>S6 r1 a b c d e f<|S6 r1 t3 t4 t5 g h i<|gU 86 [aH a b c d e f] fP λu=>S6 r1 t3 t4 t5 g h i<|dZ #[sv t3,sv t4,sv t5,sv g,sv h,sv i,sv s,sv t,sv u] 179 λv=>Nr r1 r v) (gU 86 [aH k l m n o p] fP λq=>S6 r1 a b c d e f<|eR r1 1 j<|S6 r1 t3 t4 t5 g h i<|mF (jX (kW 68 (fL (gR .i64 ((j.2.1:Int)+(1:Int)))) (fL (gR .i64 ((j.2.1:Int)+(1:Int))))) fP λw=>S6 r1 a b c d e f<|S6 r1 t3 t4 t5 g h i<|gU 86 [aH a b c d e f] fP λx=>S6 r1 t3 t4 t5 g h i<|dZ #[sv t3,sv t4,sv t5,sv g,sv h,sv i,sv w,sv q,sv x] 179 λy=>Nr r1 r y) (gU 86 [aH a b c d e f] fP λz=>eR r1 1 j<|S6 r1 t3 t4 t5 g h i<|jX (kW 68 (fL (gR .i64 ((j.2.1:Int)+(1:Int)))) (fL (gR .i64 ((j.2.1:Int)+(1:Int))))) fP λA=>S6 r1 t3 t4 t5 g h i<|dZ #[sv t3,sv t4,sv t5,sv g,sv h,sv i,sv A,sv q,sv z] 179 λB=>Nr r1 r B))
theorem RX (p_0:Pl6):Ab gP Tryz.f62 [(aG p_0)] =PO p_0:=by kernel_rfl
noncomputable def Ls (p_0:Pl6):T:=dZ #[sv p_0.1,sv p_0.2.1,sv p_0.2.2.1,sv p_0.2.2.2.1,sv p_0.2.2.2.2.1,sv p_0.2.2.2.2.2.1] 32 λr1=>dX r1 1 λt2=>iW 0 fV (jQ fV [fL 0,fM] λa=>cond (decide (a.1< (gR .i64 ((t2.2.1:Int)+(1:Int))))) (dX r1 0 λt5=>gU 93 [fL (t5.2.1:Int)] fO λb=>dZ #[fN b] 111 λc=>jX (iJ #[153,153] 153 #[sv a.2.1,.slice (fH c) 1 1]) fP λd=>iB [fL (wN a.1),sv d]) (kD 0 [fL a.1,sv a.2.1])) λe=>jI (sv e.2.1)
theorem OQ (p_0:Pl6):Ab gP Tryz.f86 [(aG p_0)] =Ls p_0:=by kernel_rfl
noncomputable def Gu (s_0:gL):T:=deref s_0 λy=>eF y 2 λt2=>iW 0 fT (jQ fT [fL 0,.bool false] λb=>cond (decide (b.1< (t2.2.1:Int))) (deref t2.1 λi=>chk (0≤b.1∧b.1< (t2.2.1:Nat))<|eH i b.1 3 λz=>eG i b.1 3 1 λA=>eK i b.1 3 2 λB=>dZ #[fL 0,fM,fL 0] 95 λe=>eM e 0 z<|eC e 1 A<|eM e 2 B<|eL e 0 λj=>gU 114 [fN s_0,fL j] fQ λa=>dX e 1 λk=>deref s_0 λl=>eF l 7 λf=>deref f.1 λm=>chk (0≤a∧a< (f.2.1:Nat))<|fA m a 1 λn=>gU 115 [fN s_0,sv k,.func (.func 94) #[fN n] #[]] (.tuple [aB,aB]) λd=>jR fS (cond b.2.1 (iB [.bool true]) (cond d.1 (iB [.bool true]) (cond d.2.1 (deref s_0 λo=>eF o 6 λg=>deref g.1 λp=>chk (0≤a∧a< (g.2.1:Nat))<|fC p a 1 λq=>iB [.bool (!q)]) (iB [.bool false])))) λr=>jR [] (deref s_0 λs=>eF s 6 λc=>deref s_0 λt=>eF t 6 λh=>deref h.1 λu=>chk (0≤a∧a< (h.2.1:Nat))<|fC u a 1 λv=>cond v (deref c.1 λw=>chk (0≤a∧a< (c.2.1:Nat))<|oH (w.add (gX a *1)) (.bool true)<|iB []) (deref c.1 λx=>chk (0≤a∧a< (c.2.1:Nat))<|oH (x.add (gX a *1)) (.bool d.2.1)<|iB [])) λC=>iB [fL (wN b.1),.bool r.1]) (kD 0 [fL b.1,.bool b.2.1])) λD=>jI (.bool D.2.1)
theorem KU (s_0:gL):Ab gP Tryz.f87 [(.pointer s_0)] =Gu s_0:=by kernel_rfl
noncomputable def GP (s_0:gL):T:=deref s_0 λJ=>eF J 2 λt2=>iW 0 fT (jQ fT [fL 0,.bool false] λc=>cond (decide (c.1< (t2.2.1:Int))) (deref t2.1 λo=>chk (0≤c.1∧c.1< (t2.2.1:Nat))<|eH o c.1 3 λK=>eG o c.1 3 1 λL=>eK o c.1 3 2 λM=>dZ #[fL 0,fM,fL 0] 95 λj=>eM j 0 K<|eC j 1 L<|eM j 2 M<|dX j 1 λd=>iW 2 fT (jQ fT [fL 0,.bool c.2.1] λa=>cond (decide (a.1< (d.2.1:Int))) (iW 3 fS (deref d.1 λp=>chk (0≤a.1∧a.1< (d.2.1:Nat))<|eH p a.1 1 λk=>deref s_0 λq=>M6 q λr s t u v w=>gU 80 [aH r s t u v w,fL k] fR λy=>cond y (kD 3 [.bool a.2.1]) (deref s_0 λl=>eF l 8 λe=>gU 114 [fN s_0,fL k] fQ λf=>kN (l.add 8) (sv e)<|deref e.1 λz=>chk (0≤f∧f< (e.2.1:Nat))<|fA z f 1 λm=>dX j 1 λb=>chk (0≤(wN a.1)∧(wN a.1) ≤(b.2.1:Int)∧(b.2.1:Int) ≤(b.2.2:Nat))<|gU 115 [fN s_0,.slice (if b.2.2=gX (wN a.1) then b.1 else lT (λx=>mL x (gX (wN a.1) *1)) b.1) (gX (b.2.1:Int) - gX (wN a.1)) (b.2.2 - gX (wN a.1)),.func (.func 94) #[fN m] #[]] (.tuple [aB,aB]) λg=>jR fS (cond g.2.1 (jR fS (deref s_0 λn=>eF n 8 λh=>eL j 0 λA=>gU 114 [fN s_0,fL A] fQ λi=>kN (n.add 8) (sv h)<|deref h.1 λB=>chk (0≤i∧i< (h.2.1:Nat))<|fA B i 1 λC=>gU 94 [fN m,fN C] fR λD=>cond D (iB [.bool true]) (iB [.bool g.1])) λE=>iB [.bool E.1]) (iB [.bool g.1])) λF=>jR fS (cond a.2.1 (iB [.bool true]) (iB [.bool F.1])) λG=>iB [.bool G.1])) λH=>iB [fL (wN a.1),.bool H.1]) (kD 2 [fL a.1,.bool a.2.1])) λI=>iB [fL (wN c.1),.bool I.2.1]) (kD 0 [fL c.1,.bool c.2.1])) λN=>jI (.bool N.2.1)
theorem Jf (s_0:gL):Ab gP Tryz.f89 [(.pointer s_0)] =GP s_0:=by kernel_rfl
noncomputable def Lu (c:gL) (a d:Nat):T:=iW 0 fV (jQ fV [fL 0,fM] λb=>cond (decide (b.1< ((a:Nat):Int))) (deref c λe=>chk (0≤b.1∧b.1< (a:Nat))<|fA e b.1 1 λt4=>gU 39 [fN t4] fP λt5=>dZ #[sv t5] 30 λf=>jX (iJ #[102,102] 102 #[sv b.2.1,.slice (fH f) 1 1]) fP λg=>iB [fL (wN b.1),sv g]) (kD 0 [fL b.1,sv b.2.1])) λh=>jI (sv h.2.1)
theorem OR (a:gL) (b c:Nat):Ab gP Tryz.f90 [(.slice a b c)] =Lu a b c:=by kernel_rfl
noncomputable def M4 (f_0:Slc×Slc×Slc×Int×Unit) (c:Pl6) (d:gL) (a g:Nat):T:=dZ #[sv f_0.1,sv f_0.2.1,sv f_0.2.2.1,fL f_0.2.2.2.1] 104 λr1=>dZ #[sv c.1,sv c.2.1,sv c.2.2.1,sv c.2.2.2.1,sv c.2.2.2.2.1,sv c.2.2.2.2.2.1] 32 λj=>dX j 0 λt3=>gU 93 [fL (t3.2.1:Int)] fO λt4=>iW 0 fX (jQ fX [fL 0,.bool false,fM] λe=>fJ e.1 a (iW 1 [aB,aS] (fI d a e.1 λD=>eH D e.1 1 λf=>L6 j λk l m n o p=>gU 80 [aH k l m n o p,fL f] fR λq=>cond q (gU 88 [fN t4,fL f] fR λE=>gU 39 [fN t4] fP λr=>jI (.tuple #[sv r,.bool false])) (dX j 0 λb=>jR fS (fK ((gR .i64 (f - (b.2.1:Int))) < 0) (iB [.bool true]) (dX r1 1 λs=>iB [.bool (decide ((gR .i64 (f - (b.2.1:Int))) ≥ (s.2.1:Int)))])) λt=>cond t.1 (kD 1 [.bool e.2.1,sv e.2.2.1]) (dX j 0 λu=>dX r1 1 λh=>deref h.1 λv=>chk (0≤(gR .i64 (f - (b.2.1:Int)))∧(gR .i64 (f - (b.2.1:Int))) < (h.2.1:Nat))<|dY v (gR .i64 (f - (b.2.1:Int))) 1 λw=>gU 95 [fL (u.2.1:Int),sv w] fO λx=>gU 94 [fN t4,fN x] fR λF=>dX r1 0 λi=>deref i.1 λy=>chk (0≤(gR .i64 (f - (b.2.1:Int)))∧(gR .i64 (f - (b.2.1:Int))) < (i.2.1:Nat))<|fC y (gR .i64 (f - (b.2.1:Int))) 1 λz=>cond (!z) (gU 39 [fN t4] fP λA=>jI (.tuple #[sv A,.bool false])) (iB [.bool e.2.1,sv e.2.2.1])))) λC=>iB [fL (wN e.1),.bool C.1,sv C.2.1]) (kD 0 [fL e.1,.bool e.2.1,sv e.2.2.1])) λG=>gU 39 [fN t4] fP λB=>jI (.tuple #[sv B,.bool true])
theorem LS (f_0:Slc×Slc×Slc×Int×Unit) (d:Pl6) (a:gL) (b c:Nat):Ab gP Tryz.f101 [(.agg #[(sv f_0.1),(sv f_0.2.1),(sv f_0.2.2.1),(.int .i64 f_0.2.2.2.1)]),(aG d),(.slice a b c)] =M4 f_0 d a b c:=by kernel_rfl
noncomputable def JN (s_0:gL) (a:Int):T:=deref s_0 λb=>fD b λt2=>jI (fL (gR .i64 (a - (t2.2.1:Int))))
theorem M5 (s_0:gL) (a:Int):Ab gP Tryz.f114 [(.pointer s_0),(.int .i64 a)] =JN s_0 a:=by kernel_rfl
noncomputable def FZ (s_0:gL) (b:gL) (a h:Nat) (i:gL):T:=iW 0 [aI,aB,aB] (jQ [aI,aB,aB] [fL 0,.bool false,.bool false] λc=>cond (decide (c.1< ((a:Nat):Int))) (deref b λA=>chk (0≤c.1∧c.1< (a:Nat))<|eH A c.1 1 λt4=>deref s_0 λB=>M6 B λC D E F n o=>gU 80 [aH C D E F n o,fL t4] fR λp=>cond p (jR [aB,aB] (deref s_0 λq=>fD q λr=>dZ #[fL t4] 3 λs=>gU 95 [fL (r.2.1:Int),.slice (fH s) 1 1] fO λt=>gU 94 [fN i,fN t] fR λu=>cond u (iB [.bool true,.bool false]) (iB [.bool c.2.2.1,.bool false])) λj=>jI (.tuple #[.bool j.1,.bool j.2.1])) (jR fS (deref s_0 λk=>eF k 7 λd=>gU 114 [fN s_0,fL t4] fQ λe=>kN (k.add 7) (sv d)<|deref d.1 λv=>chk (0≤e∧e< (d.2.1:Nat))<|fA v e 1 λw=>gU 94 [fN i,fN w] fR λx=>cond x (iB [.bool true]) (iB [.bool c.2.2.1])) λl=>deref s_0 λm=>eF m 6 λf=>gU 114 [fN s_0,fL t4] fQ λg=>kN (m.add 6) (sv f)<|deref f.1 λy=>chk (0≤g∧g< (f.2.1:Nat))<|fC y g 1 λz=>cond (!z) (jI (.tuple #[.bool l.1,.bool false])) (iB [fL (wN c.1),.bool c.2.1,.bool l.1]))) (kD 0 [fL c.1,.bool c.2.1,.bool c.2.2.1])) λG=>jI (.tuple #[.bool G.2.2.1,.bool true])
theorem IB (s_0:gL) (a:gL) (b c:Nat) (d:gL):Ab gP Tryz.f115 [(.pointer s_0),(.slice a b c),(.func (.func 94) #[(.pointer d)] #[])] =FZ s_0 a b c d:=by kernel_rfl
noncomputable def Qf (p_0:Pl6) (a_1:gL):T:=dZ #[sv p_0.1,sv p_0.2.1,sv p_0.2.2.1,sv p_0.2.2.2.1,sv p_0.2.2.2.2.1,sv p_0.2.2.2.2.2.1] 32 λr1=>L6 r1 λt2 t3 t4 t5 a b=>L6 r1 λn o c d e f=>mF (gU 62 [aH n o c d e f] (.one (.agg [.slice,.slice,.slice,.int .i64])) λg=>S6 r1 t2 t3 t4 t5 a b<|mF (nW (.map #[] 0) λB=>S6 r1 t2 t3 t4 t5 a b<|nW (.map #[] 0) λC=>S6 r1 t2 t3 t4 t5 a b<|dZ #[sv t2,sv t3,sv t4,sv t5,sv a,sv b,fN a_1,sv g.1,sv g.2.1,sv g.2.2.1,fL g.2.2.2.1,fM,.map (some B),.map (some C)] 109 λh=>gU 63 [fN (fH h),.func (.func 64) #[fN (fH h)] #[]] (.tuple []) λa2=>gU 65 [fN (fH h)] (.tuple fY) λt=>gU 68 [fN (fH h)] fP λD=>gU 67 [sv t.2.1,sv t.1] fP λE=>gU 67 [sv D,sv E] fP λF=>gU 66 [fN (fH h),sv F] (.tuple []) λa3=>jI (fN (fH h))) (nW (.map #[] 0) λG=>S6 r1 t2 t3 t4 t5 a b<|nW (.map #[] 0) λH=>S6 r1 t2 t3 t4 t5 a b<|dZ #[sv t2,sv t3,sv t4,sv t5,sv a,sv b,fN a_1,sv g.1,sv g.2.1,sv g.2.2.1,fL g.2.2.2.1,fM,.map (some H),.map (some G)] 109 λi=>gU 63 [fN (fH i),.func (.func 64) #[fN (fH i)] #[]] (.tuple []) λa4=>gU 65 [fN (fH i)] (.tuple fY) λu=>gU 68 [fN (fH i)] fP λI=>gU 67 [sv u.2.1,sv u.1] fP λJ=>gU 67 [sv I,sv J] fP λK=>gU 66 [fN (fH i),sv K] (.tuple []) λa5=>jI (fN (fH i)))) (mF (nW (.map #[] 0) λv=>S6 r1 n o c d e f<|S6 r1 t2 t3 t4 t5 a b<|mF (gU 62 [aH n o c d e f] (.one (.agg [.slice,.slice,.slice,.int .i64])) λp=>S6 r1 t2 t3 t4 t5 a b<|nW (.map #[] 0) λL=>S6 r1 t2 t3 t4 t5 a b<|dZ #[sv t2,sv t3,sv t4,sv t5,sv a,sv b,fN a_1,sv p.1,sv p.2.1,sv p.2.2.1,fL p.2.2.2.1,fM,.map (some v),.map (some L)] 109 λj=>gU 63 [fN (fH j),.func (.func 64) #[fN (fH j)] #[]] (.tuple []) λa6=>gU 65 [fN (fH j)] (.tuple fY) λw=>gU 68 [fN (fH j)] fP λM=>gU 67 [sv w.2.1,sv w.1] fP λN=>gU 67 [sv M,sv N] fP λO=>gU 66 [fN (fH j),sv O] (.tuple []) λa7=>jI (fN (fH j))) (nW (.map #[] 0) λP=>S6 r1 n o c d e f<|S6 r1 t2 t3 t4 t5 a b<|gU 62 [aH n o c d e f] (.one (.agg [.slice,.slice,.slice,.int .i64])) λq=>S6 r1 t2 t3 t4 t5 a b<|dZ #[sv t2,sv t3,sv t4,sv t5,sv a,sv b,fN a_1,sv q.1,sv q.2.1,sv q.2.2.1,fL q.2.2.2.1,fM,.map (some v),.map (some P)] 109 λk=>gU 63 [fN (fH k),.func (.func 64) #[fN (fH k)] #[]] (.tuple []) λa8=>gU 65 [fN (fH k)] (.tuple fY) λx=>gU 68 [fN (fH k)] fP λQ=>gU 67 [sv x.2.1,sv x.1] fP λR=>gU 67 [sv Q,sv R] fP λS=>gU 66 [fN (fH k),sv S] (.tuple []) λa9=>jI (fN (fH k)))) (nW (.map #[] 0) λy=>S6 r1 n o c d e f<|S6 r1 t2 t3 t4 t5 a b<|mF (gU 62 [aH n o c d e f] (.one (.agg [.slice,.slice,.slice,.int .i64])) λr=>S6 r1 t2 t3 t4 t5 a b<|nW (.map #[] 0) λU=>S6 r1 t2 t3 t4 t5 a b<|dZ #[sv t2,sv t3,sv t4,sv t5,sv a,sv b,fN a_1,sv r.1,sv r.2.1,sv r.2.2.1,fL r.2.2.2.1,fM,.map (some U),.map (some y)] 109 λl=>gU 63 [fN (fH l),.func (.func 64) #[fN (fH l)] #[]] (.tuple []) λb0=>gU 65 [fN (fH l)] (.tuple fY) λz=>gU 68 [fN (fH l)] fP λV=>gU 67 [sv z.2.1,sv z.1] fP λW=>gU 67 [sv V,sv W] fP λX=>gU 66 [fN (fH l),sv X] (.tuple []) λb1=>jI (fN (fH l))) (nW (.map #[] 0) λY=>S6 r1 n o c d e f<|S6 r1 t2 t3 t4 t5 a b<|gU 62 [aH n o c d e f] (.one (.agg [.slice,.slice,.slice,.int .i64])) λs=>S6 r1 t2 t3 t4 t5 a b<|dZ #[sv t2,sv t3,sv t4,sv t5,sv a,sv b,fN a_1,sv s.1,sv s.2.1,sv s.2.2.1,fL s.2.2.2.1,fM,.map (some Y),.map (some y)] 109 λm=>gU 63 [fN (fH m),.func (.func 64) #[fN (fH m)] #[]] (.tuple []) λb2=>gU 65 [fN (fH m)] (.tuple fY) λA=>gU 68 [fN (fH m)] fP λZ=>gU 67 [sv A.2.1,sv A.1] fP λa0=>gU 67 [sv Z,sv a0] fP λa1=>gU 66 [fN (fH m),sv a1] (.tuple []) λb3=>jI (fN (fH m)))))
theorem So (p_0:Pl6) (a_1:gL):Ab gP Tryz.f37 [(aG p_0),(.pointer a_1)] =Qf p_0 a_1:=by kernel_rfl
noncomputable def Gv (c:gL) (f:gL):T:=deref c λu=>fE u 6 λt2=>gU 11 [fN t2] fQ λt3=>iW 0 fW (jQ fW [fL 0] λd=>fK (d.1<t3) (deref c λv=>fE v 6 λw=>gU 91 [fN w,fL d.1] fP λg=>iW 2 fW (jQ fW [fL 0] λa=>fJ a.1 g.2.1 (fI g.1 g.2.1 a.1 λe=>eH e a.1 2 λh=>eK e a.1 2 1 λi=>dZ #[fL 0,fL 0] 79 λb=>eM b 0 h<|eM b 1 i<|deref c λj=>M6 j λk l m n o p=>eL b 0 λq=>gU 80 [aH k l m n o p,fL q] fR λr=>jR [] (cond (!r) (eL b 0 λs=>eL b 1 λt=>gU 64 [fN f,.agg #[fL d.1,fL s],fL t] (.tuple []) λx=>iB []) (iB [])) λy=>iB [fL (wN a.1)]) (kD 2 [fL a.1])) λz=>iB [fL (wN d.1)]) (kD 0 [fL d.1])) λA=>jI (.tuple #[])
theorem KV (a:gL) (b:gL):Ab gP Tryz.f63 [(.pointer a),(.func (.func 64) #[(.pointer b)] #[])] =Gv a b:=by kernel_rfl
noncomputable def Gw (c:gL) (d:Nat) (e:Nat) (f:Nat):T:=deref c λw=>fE w 6 λt2=>gU 11 [fN t2] fQ λt3=>iW 0 fW (jQ fW [fL 0] λg=>fK (g.1<t3) (deref c λx=>fE x 6 λy=>gU 91 [fN y,fL g.1] fP λi=>iW 2 fW (jQ fW [fL 0] λa=>fJ a.1 i.2.1 (fI i.1 i.2.1 a.1 λh=>eH h a.1 2 λj=>eK h a.1 2 1 λk=>dZ #[fL 0,fL 0] 79 λb=>eM b 0 j<|eM b 1 k<|deref c λl=>M6 l λm n o p q r=>eL b 0 λs=>gU 80 [aH m n o p q r,fL s] fR λt=>jR [] (cond (!t) (eL b 0 λu=>eL b 1 λv=>gU 92 [.agg #[fL g.1,fL u],fL v,fN (fH d),fN (fH e),fN (fH f)] (.tuple []) λz=>iB []) (iB [])) λA=>iB [fL (wN a.1)]) (kD 2 [fL a.1])) λB=>iB [fL (wN g.1)]) (kD 0 [fL g.1])) λC=>jI (.tuple #[])
theorem KW (d:gL) (a:Nat) (b:Nat) (c:Nat):Ab gP Tryz.f63 [(.pointer d),(.func (.func 92) #[] #[(.pointer (fH a)),(.pointer (fH b)),(.pointer (fH c))])] =Gw d a b c:=by kernel_rfl
noncomputable def Ez (a:gL) (b:Int×Int×Unit) (i:Int):T:=dZ #[fL b.1,fL b.2.1] 184 λr1=>deref a λk=>fF k 12 λt3=>eL r1 0 λt4=>eL r1 1 λt5=>deref a λl=>eF l 11 λm=>jX (oF (lQ 106 (.map t3) (.agg #[fL t4,fL t5]) (fL (m.2.1:Int))) λ_=>.pure undef) (.tuple []) λn=>deref a λj=>eF j 11 λc=>eL r1 0 λd=>eL r1 1 λe=>dZ #[fL d,fL e] 184 λf=>kN (j.add 11) (sv c)<|jX (iJ #[105,105] 105 #[sv c,.slice (fH f) 1 1]) fP λg=>deref a λh=>oH (h.add 11) (sv g)<|jI (.tuple #[])
theorem KX (c:gL) (b:Int×Int×Unit) (a:Int):Ab gP Tryz.f64 [(.pointer c),(.agg #[(.int .i64 b.1),(.int .i64 b.2.1)]),(.int .i64 a)] =Ez c b a:=by kernel_rfl
noncomputable def Gx (a:gL):T:=dZ #[fN a] 42 λr1=>dZ #[fM] 153 λb=>dZ #[fM] 102 λr3=>eD r1 0 λt4=>gU 63 [fN t4,.func (.func 92) #[] #[fN (fH r1),fN (fH b),fN (fH r3)]] (.tuple []) λt5=>dX b 0 λc=>dX r3 0 λd=>jI (.tuple #[sv c,sv d])
theorem KY (a:gL):Ab gP Tryz.f65 [(.pointer a)] =Gx a:=by kernel_rfl
noncomputable def EK (s_0:Int×Int×Unit) (h:Int) (e:Nat) (d:Nat) (a:Nat):T:=dZ #[fL s_0.1,fL s_0.2.1] 184 λr1=>eD e 0 λt2=>deref t2 λa3=>fD a3 λt4=>gU 93 [fL (t4.2.1:Int)] fO λt5=>eD e 0 λt6=>gU 41 [fN t6,fL h,fL 0] fR λt7=>jR [] (cond t7 (gU 88 [fN t5,fL 0] fR λt9=>iB []) (iB [])) λz8=>eD e 0 λp=>deref p λq=>fE q 6 λr=>gU 91 [fN r,fL h] fP λi=>iW 0 fV (jQ fV [fL 0,fM] λb=>cond (decide (b.1< (i.2.1:Int))) (deref i.1 λm=>chk (0≤b.1∧b.1< (i.2.1:Nat))<|eH m b.1 2 λs=>eK m b.1 2 1 λt=>dZ #[fL 0,fL 0] 79 λg=>eM g 0 s<|eM g 1 t<|eD e 0 λu=>deref u λv=>M6 v λw x y z A B=>eL g 0 λC=>gU 80 [aH w x y z A B,fL C] fR λD=>jR [aS] (cond D (eL g 0 λE=>gU 88 [fN t5,fL E] fR λa6=>iB [sv b.2.1]) (eD e 0 λF=>deref F λG=>eF G 7 λn=>eL g 0 λj=>eD e 0 λH=>deref H λI=>fD I λk=>deref n.1 λJ=>chk (0≤(gR .i64 (j - (k.2.1:Int)))∧(gR .i64 (j - (k.2.1:Int))) < (n.2.1:Nat))<|fC J (gR .i64 (j - (k.2.1:Int))) 1 λK=>jR [aS] (cond K (eD e 0 λL=>deref L λM=>fF M 12 λN=>eL g 0 λO=>jX (kT 106 (.map N) (.agg #[fL h,fL O]) false) fQ λP=>dZ #[fL P] 3 λQ=>jX (iJ #[30,30] 30 #[sv b.2.1,.slice (fH Q) 1 1]) fP λR=>iB [sv R]) (iB [sv b.2.1])) λS=>iB [sv S.1])) λU=>iB [fL (wN b.1),sv U.1]) (kD 0 [fL b.1,sv b.2.1])) λl=>dX d 0 λf=>dX a 0 λc=>mF (dZ #[fN t5] 111 λo=>eR a 0 c<|eR d 0 f<|mF (jX (iJ #[153,153] 153 #[sv f,.slice (fH o) 1 1]) fP λV=>eR a 0 c<|dZ #[sv l.2.1] 30 λW=>eR a 0 c<|jX (iJ #[102,102] 102 #[sv c,.slice (fH W) 1 1]) fP λX=>eC d 0 V<|eC a 0 X<|jI (.tuple #[])) (dZ #[sv l.2.1] 30 λY=>eR a 0 c<|eR d 0 f<|jX (iJ #[153,153] 153 #[sv f,.slice (fH o) 1 1]) fP λZ=>eR a 0 c<|jX (iJ #[102,102] 102 #[sv c,.slice (fH Y) 1 1]) fP λa0=>eC d 0 Z<|eC a 0 a0<|jI (.tuple #[]))) (dZ #[sv l.2.1] 30 λa1=>eR a 0 c<|eR d 0 f<|dZ #[fN t5] 111 λa2=>eR a 0 c<|eR d 0 f<|jX (iJ #[153,153] 153 #[sv f,.slice (fH a2) 1 1]) fP λa4=>eR a 0 c<|jX (iJ #[102,102] 102 #[sv c,.slice (fH a1) 1 1]) fP λa5=>eC d 0 a4<|eC a 0 a5<|jI (.tuple #[]))
theorem Ip (s_0:Int×Int×Unit) (a:Int) (b:Nat) (c:Nat) (d:Nat):Ab gP Tryz.f92 [(.agg #[(.int .i64 s_0.1),(.int .i64 s_0.2.1)]),(.int .i64 a),(.pointer (fH b)),(.pointer (fH c)),(.pointer (fH d))] =EK s_0 a b c d:=by kernel_rfl
noncomputable def Fa (b:gL):T:=deref b λa1=>eF a1 11 λt2=>jX (kW 102 (fL (t2.2.1:Int)) (fL (t2.2.1:Int))) fP λt3=>deref b λa4=>eF a4 11 λt5=>iW 0 fW (jQ fW [fL 0] λi=>cond (decide (i.1< (t5.2.1:Int))) (deref t5.1 λa8=>chk (0≤i.1∧i.1< (t5.2.1:Nat))<|eH a8 i.1 2 λt9=>eK a8 i.1 2 1 λn=>dZ #[fL 0,fL 0] 184 λg=>eM g 0 t9<|eM g 1 n<|deref b λo=>eF o 2 λj=>iW 2 fW (jQ fW [fL 0] λc=>cond (decide (c.1< (j.2.1:Int))) (iW 3 [] (deref j.1 λk=>chk (0≤c.1∧c.1< (j.2.1:Nat))<|eH k c.1 3 λp=>eG k c.1 3 1 λq=>eK k c.1 3 2 λr=>dZ #[fL 0,fM,fL 0] 95 λe=>eM e 0 p<|eC e 1 q<|eM e 2 r<|eL e 0 λs=>eL g 1 λt=>cond (s !=t) (kD 3 []) (eL g 0 λu=>dX e 1 λl=>iW 4 fU (jQ fU [fL 0,fL u] λa=>cond (decide (a.1< (l.2.1:Int))) (deref l.1 λv=>chk (0≤a.1∧a.1< (l.2.1:Nat))<|eH v a.1 1 λm=>deref b λh=>eF h 7 λw=>fD ((h.add 7).add 1) λy=>fD ((h.add 7).add 2) λz=>eV ((h.add 7).add 3) λA=>deref b λB=>M6 B λC D E F G H=>dX e 1 λd=>chk (0≤(wN a.1)∧(wN a.1) ≤(d.2.1:Int)∧(d.2.1:Int) ≤(d.2.2:Nat))<|gU 101 [.agg #[sv w,sv y,sv z,fL A],aH C D E F G H,.slice (if d.2.2=gX (wN a.1) then d.1 else lT (λx=>mL x (gX (wN a.1) *1)) d.1) (gX (d.2.1:Int) - gX (wN a.1)) (d.2.2 - gX (wN a.1))] (.tuple fZ) λI=>jR fS (cond I.2.1 (deref b λJ=>M6 J λK L M N O P=>gU 80 [aH K L M N O P,fL m] fR λQ=>iB [.bool (!Q)]) (iB [.bool false])) λR=>jR [] (cond R.1 (deref b λS=>fF S 12 λU=>jX (kT 106 (.map U) (.agg #[fL a.2.1,fL m]) false) fQ λf=>deref t3.1 λV=>chk (0≤f∧f< (t3.2.1:Nat))<|dY V f 1 λW=>dZ #[fL i.1] 3 λX=>jX (iJ #[30,30] 30 #[sv W,.slice (fH X) 1 1]) fP λY=>deref t3.1 λZ=>chk (0≤f∧f< (t3.2.1:Nat))<|oH (Z.add (gX f *1)) (sv Y)<|iB []) (iB [])) λa5=>deref b λa0=>fE a0 6 λa2=>gU 21 [fN a2,fL a.2.1,fL m] fQ λa3=>iB [fL (wN a.1),fL a3]) (kD 4 [fL a.1,fL a.2.1])) λa6=>iB [])) λa7=>iB [fL (wN c.1)]) (kD 2 [fL c.1])) λa9=>iB [fL (wN i.1)]) (kD 0 [fL i.1])) λz6=>jI (sv t3)
theorem IC (a:gL):Ab gP Tryz.f68 [(.pointer a)] =Fa a:=by kernel_rfl
noncomputable def HR (a:gL) (b:gL) (c j:Nat):T:=deref a λa1=>eF a1 11 λt2=>iW 0 fW (jQ fW [fL 0] λg=>cond (decide (g.1< (t2.2.1:Int))) (deref t2.1 λa5=>chk (0≤g.1∧g.1< (t2.2.1:Nat))<|eH a5 g.1 2 λt6=>eK a5 g.1 2 1 λt7=>dZ #[fL 0,fL 0] 184 λr=>eM r 0 t6<|eM r 1 t7<|deref a λa9=>eF a9 2 λk=>iW 2 fW (jQ fW [fL 0] λd=>cond (decide (d.1< (k.2.1:Int))) (iW 3 [] (deref k.1 λl=>chk (0≤d.1∧d.1< (k.2.1:Nat))<|eH l d.1 3 λH=>eG l d.1 3 1 λI=>eK l d.1 3 2 λJ=>dZ #[fL 0,fM,fL 0] 95 λh=>eM h 0 H<|eC h 1 I<|eM h 2 J<|eL h 0 λK=>eL r 1 λL=>cond (K !=L) (kD 3 []) (deref a λs=>fE s 6 λm=>eL r 0 λn=>dX h 1 λo=>mF (gU 42 [fN m,fL n,sv o] fQ λM=>dZ #[fL 0,fL 0] 113 λe=>eM e 0 M<|eM e 1 d.1<|deref a λN=>fF N 13 λO=>eL e 0 λP=>eL e 1 λQ=>jX (kT 107 (.map O) (.agg #[fL P,fL Q]) false) fO λR=>jR [] (cond (mW R) (deref a λt=>fF t 13 λu=>eL e 0 λv=>eL e 1 λw=>deref a λS=>fD S λU=>gU 93 [fL (U.2.1:Int)] fO λV=>fG e 0 v<|fG e 1 w<|kN (t.add 13) (.map u)<|jX (oF (lQ 107 (.map u) (.agg #[fL v,fL w]) (fN V)) λ_=>.pure undef) (.tuple []) λc4=>iB []) (iB [])) λc5=>deref a λW=>fF W 13 λX=>eL e 0 λY=>eL e 1 λZ=>deref b λx=>chk (0≤g.1∧g.1< (c:Nat))<|fA x g.1 1 λy=>jX (kT 107 (.map X) (.agg #[fL Y,fL Z]) false) fO λa0=>kN (x.add (gX g.1 *1)) (fN y)<|gU 94 [fN a0,fN y] fR λc6=>iB []) (dZ #[fL 0,fL 0] 113 λf=>eR h 1 o<|fG r 0 n<|kN (s.add 6) (fN m)<|gU 42 [fN m,fL n,sv o] fQ λa2=>eM f 0 a2<|eM f 1 d.1<|deref a λa3=>fF a3 13 λa4=>eL f 0 λa6=>eL f 1 λa7=>jX (kT 107 (.map a4) (.agg #[fL a6,fL a7]) false) fO λa8=>jR [] (cond (mW a8) (deref a λz=>fF z 13 λA=>eL f 0 λB=>eL f 1 λC=>deref a λb0=>fD b0 λb1=>gU 93 [fL (b1.2.1:Int)] fO λb2=>fG f 0 B<|fG f 1 C<|kN (z.add 13) (.map A)<|jX (oF (lQ 107 (.map A) (.agg #[fL B,fL C]) (fN b2)) λ_=>.pure undef) (.tuple []) λc7=>iB []) (iB [])) λc8=>deref a λb3=>fF b3 13 λb4=>eL f 0 λb5=>eL f 1 λb6=>deref b λD=>chk (0≤g.1∧g.1< (c:Nat))<|fA D g.1 1 λE=>jX (kT 107 (.map b4) (.agg #[fL b5,fL b6]) false) fO λb7=>kN (D.add (gX g.1 *1)) (fN E)<|gU 94 [fN b7,fN E] fR λc9=>iB []))) λd0=>iB [fL (wN d.1)]) (kD 2 [fL d.1])) λd1=>iB [fL (wN g.1)]) (kD 0 [fL g.1])) λz3=>deref a λb8=>fE b8 6 λb9=>gU 11 [fN b9] fQ λc0=>iW 4 fW (jQ fW [fL 0] λi=>cond (decide (i.1<c0)) (gU 41 [fN a,fL i.1,fL 0] fR λc1=>jR [] (cond c1 (deref a λp=>fF p 13 λq=>deref a λF=>fD F λG=>dZ #[fL 0] 3 λc2=>kN F (sv G)<|kN (p.add 13) (.map q)<|gU 95 [fL (G.2.1:Int),.slice (fH c2) 1 1] fO λc3=>kN (p.add 13) (.map q)<|jX (oF (lQ 107 (.map q) (.agg #[fL i.1,fL 0]) (fN c3)) λ_=>.pure undef) (.tuple []) λd2=>iB []) (iB [])) λd3=>iB [fL (wN i.1)]) (kD 4 [fL i.1])) λd4=>jI (.tuple #[])
theorem LT (d:gL) (a:gL) (b c:Nat):Ab gP Tryz.f66 [(.pointer d),(.slice a b c)] =HR d a b c:=by kernel_rfl
noncomputable def M7 (c:gL) (b:Int) (a:Int):T:=jR fS (fK (a< 0) (iB [.bool true]) (deref c λj=>eF j 2 λt3=>iB [.bool (decide (a≥ (t3.2.1:Int)))])) λk=>cond k.1 (jI (.bool false)) (deref c λl=>fE l 6 λt5=>deref c λg=>eF g 2 λd=>fI d.1 d.2.1 a λh=>eG h a 3 1 λi=>gU 38 [fN t5,fL b] fP λe=>kN ((h.add (gX a *3)).add 1) (sv i)<|kN (g.add 2) (sv d)<|gU 72 [sv e,.agg #[fL a,fL (i.2.1:Int)]] fR λf=>jI (.bool f))
theorem LU (c:gL) (a:Int) (b:Int):Ab gP Tryz.f41 [(.pointer c),(.int .i64 a),(.int .i64 b)] =M7 c a b:=by kernel_rfl
noncomputable def M8 (c:gL) (a:Int):T:=deref c λp=>fE p 6 λt2=>gU 38 [fN t2,fL a] fP λt3=>iW 0 fV (jQ fV [fL 0,fM] λb=>fJ b.1 t3.2.1 (fI t3.1 t3.2.1 b.1 λo=>eH o b.1 2 λq=>eK o b.1 2 1 λr=>dZ #[fL 0,fL 0] 73 λd=>eM d 0 q<|eM d 1 r<|eL d 1 λg=>deref c λh=>eF h 2 λe=>eL d 0 λf=>fI e.1 e.2.1 f λi=>eG i f 3 1 λj=>jR [aS] (cond (g==(j.2.1:Int)) (eL d 0 λk=>dZ #[fL k] 3 λl=>jX (iJ #[30,30] 30 #[sv b.2.1,.slice (fH l) 1 1]) fP λm=>iB [sv m]) (iB [sv b.2.1])) λn=>iB [fL (wN b.1),sv n.1]) (kD 0 [fL b.1,sv b.2.1])) λs=>jI (sv s.2.1)
theorem LV (b:gL) (a:Int):Ab gP Tryz.f13 [(.pointer b),(.int .i64 a)] =M8 b a:=by kernel_rfl
noncomputable def JO (c:gL) (a:Int) (b:Int):T:=deref c λd=>fF d 13 λt2=>jX (kT 107 (.map t2) (.agg #[fL a,fL b]) false) fO λt3=>cond (mW t3) (jI fM) (gU 39 [fN t3] fP λt4=>jI (sv t4))
theorem M9 (c:gL) (a:Int) (b:Int):Ab gP Tryz.f15 [(.pointer c),(.int .i64 a),(.int .i64 b)] =JO c a b:=by kernel_rfl
noncomputable def NA (d:gL) (b:Int) (a:Int):T:=gU 41 [fN d,fL b,fL a] fR λt1=>cond (!t1) (jI fM) (deref d λw=>eF w 2 λt3=>fI t3.1 t3.2.1 a λg=>eH g a 3 λt5=>eG g a 3 1 λx=>eK g a 3 2 λy=>dZ #[fL 0,fM,fL 0] 95 λe=>eM e 0 t5<|eC e 1 x<|eM e 2 y<|deref d λz=>fE z 6 λh=>gU 11 [fN h] fQ λi=>iW 0 fV (jQ fV [fL 0,fM] λc=>fK (c.1<i) (deref d λj=>fE j 6 λk=>eL e 0 λl=>gU 21 [fN k,fL c.1,fL l] fQ λf=>jR fS (fK (f≥ 0) (deref d λm=>fE m 6 λn=>dX e 1 λo=>gU 42 [fN n,fL c.1,sv o] fQ λp=>iB [.bool (p==b)]) (iB [.bool false])) λq=>jR [aS] (cond q.1 (eL e 0 λr=>dZ #[fL r,fL f] 79 λs=>jX (iJ #[54,54] 54 #[sv c.2.1,.slice (fH s) 1 1]) fP λt=>iB [sv t]) (iB [sv c.2.1])) λu=>iB [fL (wN c.1),sv u.1]) (kD 0 [fL c.1,sv c.2.1])) λv=>jI (sv v.2.1))
theorem LW (c:gL) (a:Int) (b:Int):Ab gP Tryz.f18 [(.pointer c),(.int .i64 a),(.int .i64 b)] =NA c a b:=by kernel_rfl
end Go.Proofs.YtkfgeafgfeppfaaGreatDoor
namespace Go.Proofs.YtkfgeafgfeppfaaGreatDoor
open Go Go.Eng Dg
abbrev PlK (φ:AD) (t:Slc×Slc×Slc×Slc×Slc×Slc×Unit) (p:dtP):Prop:=JR φ t p
abbrev plV (t:Slc×Slc×Slc×Slc×Slc×Slc×Unit):List Value:=[sv t.1,sv t.2.1,sv t.2.2.1,sv t.2.2.2.1,sv t.2.2.2.2.1,sv t.2.2.2.2.2.1]
structure FsK (φ:AD) (a:Addr) (t:Slc×Slc×Slc×Slc×Slc×Slc×Unit) (n f g:Slc) (p:dtP) (ps qs:List gL):Prop where
 cells:Ci φ (some a) (plV t++ [sv n,sv f,sv g])
 pl:PlK φ t p
 kf:Ro.SliceIs mN φ f ps
 kg:Ro.SliceIs mN φ g qs
section
variable {φ ψ:AD}{h:AE}{F:List Chk}{a:Addr}{t:Slc×Slc×Slc×Slc×Slc×Slc×Unit}{n f g:Slc}{p:dtP}{ps qs:List gL}
theorem FsK.mono (H:FsK φ a t n f g p ps qs) (hs:Sub φ ψ):FsK ψ a t n f g p ps qs:=⟨H.cells.mono hs,H.pl.mono hs,H.kf.mono hs,H.kg.mono hs⟩
theorem FsK.at (H:FsK φ a t n f g p ps qs) (st:St φ F h) {j:Nat}{v:Value}(hv:(plV t++ [sv n,sv f,sv g])[j]? =some v):BW h (a.add j)=some v:=AJ st.sub (H.cells.at j hv)
theorem RY {K:Bool→T}{P:Bh→AE→Prop}(cells:∀j v,(plV t)[j]? =some v→BW h (a.add j)=some v) (k:PlK φ t p) (st:St φ F h) {s:Int}{r:Bool}(hd:Bu p s=some r)
 (hk:∀ψ h',Sub φ ψ→St ψ F h'→(K r).wp gP P h'):
 (nZ .slice a λ(d:Slc)=>nZ .slice (a.add 1) λ(e:Slc)=>nZ .slice (a.add 2) λ(f:Slc)=>nZ .slice (a.add 3) λ(g:Slc)=>nZ .slice (a.add 4) λ(b:Slc)=>nZ .slice (a.add 5) λ(c:Slc)=>
  gU 80 [(.agg #[(sv d),(sv e),(sv f),(sv g),(sv b),(sv c)]),(.int .i64 s)] fR K).wp gP P h:=by
 have i:a.add 0=a:=by cases a;rfl
 refine AG (x:=t.1) (by have:=cells 0 _ rfl;rwa [i]at this) rfl<|AG (x:=t.2.1) (cells 1 _ rfl) rfl<|AG (x:=t.2.2.1) (cells 2 _ rfl) rfl<|AG (x:=t.2.2.2.1) (cells 3 _ rfl) rfl<|AG (x:=t.2.2.2.2.1) (cells 4 _ rfl) rfl<|AG (x:=t.2.2.2.2.2.1) (cells 5 _ rfl) rfl<|AK (FM k st hd) ?_;rintro _ l ⟨ψ,y,le,rfl,rfl,m⟩;exact⟨y,rfl,hk ψ l le m⟩
theorem FsK.pv (H:FsK φ a t n f g p ps qs) (st:St φ F h):∀j v,(plV t)[j]? =some v→BW h (a.add j)=some v:=λj v hv=>H.at st (by
 rw[gV (gS.1 hv).1];exact hv)
theorem add_zero (a:Addr):a.add 0=a:=by cases a;rfl
theorem PP (H:FsK φ a t n f g p ps qs) (st:St φ F h) (s:Int):
 CallsH gP 114 [.pointer (some a),.int .i64 s] h (Ap λv h'=>v=fQ.val (gR .i64 (s - nT p))∧St φ F h'):=by
 refine Av mixed Tryz.func114 ?_;rw[M5];unfold JN;refine AF _ rfl (AG (x:=t.1) (by have:=H.at st (j:=0) rfl;rwa [add_zero]at this) rfl ?_);have e:t.1.2.1=p.1.length:=H.pl.k0.length;rw[e];exact AC ⟨rfl,st⟩
theorem P8 {α:Type}{l:List α}{k:Nat}{x:α}(h:idx l (k:Int)=some x):l[k]? =some x:=by rw[CK]at h;exact h
theorem UK {ps qs:List gL}{k:Nat}{q:gL}(h:ps[k]? =some q):(ps++qs)[k]? =some q:=by rw[gV (gS.1 h).1];exact h
abbrev fsC (n:Slc) (null:List Bool) (ps:List gL) (ss:List Ad) (F:List Chk):List Chk:=cR 4 lL n null::(AT ps ss++F)
theorem PQ (gk:Dg.Glob φ) (K:FsK φ a t n f g p ps qs) {sq:Slc}{seq:gM}(ks:Ro.SliceIs (hQ .i64) φ sq seq) {null:List Bool}{ss:List Ad}{x:Nat}{q:gL}(hq:(ps++qs)[x]? =some q) (hl:(ps++qs).length=ss.length) {r:Bool×Bool×List Ad}
 (hd:K5 p (ps.length:Int) null (x:Int) ss seq=some r) (s0:St φ (fsC n null (ps++qs) ss F) h):
 CallsH gP 115 [.pointer (some a),sv sq,.func (.func 94) #[.pointer q] #[]] h (Ap λv h'=>∃ψ:AD,Sub φ ψ∧v=((.tuple [aB,aB]):Sh).val (r.1,r.2.1,())∧r.2.2.length=ss.length∧St ψ (fsC n null (ps++qs) r.2.2 F) h'):=by
 refine Av mixed Tryz.func115 ?_;rw[IB];unfold FZ;unfold K5 at hd;have nk:=ks.length;have⟨g3,T,hd⟩:=bS hd;refine Ag (λ(y:Int×Bool×Bool×Unit) w g=>∃(ψ:AD) (ss':List Ad),Sub φ ψ∧g=mC (y.2.2.1,ss')∧ss'.length=ss.length∧St ψ (fsC n null (ps++qs) ss' F) w) (g:=g3) ?_ ?_
 ·refine NR T (λi (y:Int×Bool×Bool×Unit) w g=>∃(ψ:AD),Sub φ ψ∧y.1=i∧y.2.2.1=g.1∧g.2.length=ss.length∧St ψ (fsC n null (ps++qs) g.2 F) w) ((0:Int),false,false,()) rfl ⟨φ,jB _,rfl,rfl,rfl,s0⟩ ?_ ?_
  ·rintro i z w ⟨gr,A⟩ e ⟨ψ,le,rfl,hg,c,st⟩ he h0 hlt hw hb;dsimp only at hg c st he;subst hg;refine Ac (by rw[nk];exact gC hlt) ?_;have⟨sym,U,he⟩:=bS he;have⟨tm,V,he⟩:=bS he;obtain⟨A1,a5,W,X,r1,Y⟩:=(ks.mono le).get U;refine AF _ W (Ah X ?_);obtain rfl:=r1;refine AG (x:=sym) (AJ st.sub (Y 0 _ rfl)) rfl<|AF _ rfl (RY ((K.mono le).pv st) (K.mono le).pl st V ?_);intro ψ1 h1 Z E;have le':=le.trans Z;refine AH he rfl (λ_ he=> ?_) (λ_ he=> ?_)
   ·have⟨o,ho,he⟩:=bS he;have⟨u,hu,he⟩:=bS he;obtain rfl:=iS he;obtain rfl:=hb _ rfl;obtain rfl:=iS hd;unfold ZJ at hu;have⟨s,hs,hu⟩:=bS hu;have⟨ok,hu⟩:=CD hu;obtain rfl:=iS hu;refine Aa (λ(y:Bool×Bool×Unit) w (_:Unit)=>y=(FQ s o || z.2.2.1,false,())∧ ∃ψ,Sub φ ψ∧St ψ (fsC n null (ps++qs) (A.set x (BL s o)) F) w) (g:=()) ?_ ?_
    ·refine AF _ rfl<|AG (x:=t.1) (by have:=(K.mono le').at E (j:=0) rfl;rwa [add_zero]at this) rfl<|AV (vs:=[.int .i64 sym]) E ?_;intro a0 h2 B;have H:=oK (r:=hQ .i64) (l:=[sym]) (n:=1) B (.cons (a:=[_]) rfl .nil) rfl (by decide);have⟨ψ2,I,k2,J⟩:=lC (t:=(some ⟨a0,0,none⟩,1,1)) H;have e:t.1.2.1=p.1.length:=K.pl.k0.length;rw[e];refine AK (Ei k2 J ho) ?_;rintro _ h3 ⟨ψ3,p',R,L,rfl,rfl,a1⟩;refine⟨p',rfl,?_⟩;have a2:St ψ3 (Bd p' R::(AT (ps++qs) A++(cR 4 lL n null::F))) h3:=a1.perm (hO _ (iF (l₁:=AT (ps++qs) A)).symm);refine AK (Sb (gk.mono ((le'.trans I).trans L)) (P8 hs) hq ok a2) ?_;rintro _ h4 ⟨M,C,rfl,a3⟩;refine⟨_,rfl,?_⟩;have D:St M (fsC n null (ps++qs) (A.set x (BL s R)) F) h4:=a3.tail.perm (iF (l₁:=AT (ps++qs) (A.set x (BL s R))));cases hgr:FQ s R
     ·exact AU rfl (AO (z.2.2.1,false,()) rfl ⟨by simp,M,((le'.trans I).trans L).trans C,D⟩)
     ·exact Ac rfl (AO (true,false,()) rfl ⟨by simp,M,((le'.trans I).trans L).trans C,D⟩)
    ·rintro y h5 ⟨rfl,S,d,G⟩;exact Aj (Al (AC ⟨S,d,rfl,by simp[c],G⟩))
   ·have⟨hm,he⟩:=CD he;have⟨u,hu,he⟩:=bS he;have⟨b,Q,he⟩:=bS he;unfold V1 at hu;have⟨s,hs,hu⟩:=bS hu;have⟨o,ho,hu⟩:=bS hu;have⟨ok,hu⟩:=CD hu;obtain rfl:=iS hu;have⟨y0,y1,y2⟩:=CC ho;obtain⟨k,hk⟩:∃k:Nat,gR .i64 (sym - nT p)=(k:Int):=⟨_,(Int.toNat_of_nonneg y0).symm⟩;have hkp:k<ps.length:=by omega
    have hpk:ps[k]? =some ps[k]:=gO hkp;rw[hk]at ho Q;refine Aa (λ(y:Bool×Unit) w (_:Unit)=>y=(FQ s o || z.2.2.1,())∧ ∃ψ,Sub φ ψ∧St ψ (fsC n null (ps++qs) (A.set x (BL s o)) F) w) (g:=()) ?_ ?_
    ·refine AF _ rfl<|AG (x:=f) ((K.mono le').at E (j:=7) rfl) rfl<|AK (PP (K.mono le') E sym) ?_;rintro _ h2 ⟨rfl,B⟩;refine⟨_,rfl,?_⟩;refine AN ((K.mono le').at B (j:=7) rfl) ?_;rw[hk];obtain⟨A2,a4,N,O,r2,P⟩:=((K.mono le').kf).get (i:=(k:Int)) (by rw[CK];exact hpk);refine AF _ N (Ah O ?_);obtain rfl:=r2;refine AG (x:=ps[k]) (AJ B.sub (P 0 _ rfl)) rfl ?_;have H:St ψ1 (AT (ps++qs) A++(cR 4 lL n null::F)) h2:=B.perm (iF (l₁:=AT (ps++qs) A)).symm;refine AK (U0 (gk.mono le') (P8 hs) (P8 ho) hq (UK hpk) ok H) ?_;rintro _ h3 ⟨M,C,rfl,J⟩;refine⟨_,rfl,?_⟩;have D:St M (fsC n null (ps++qs) (A.set x (BL s o)) F) h3:=J.perm (iF (l₁:=AT (ps++qs) (A.set x (BL s o))));cases hgr:FQ s o
     ·exact AU rfl (AO (z.2.2.1,()) rfl ⟨by simp,M,le'.trans C,D⟩)
     ·exact Ac rfl (AO (true,()) rfl ⟨by simp,M,le'.trans C,D⟩)
    ·rintro y h5 ⟨rfl,S,d,G⟩;refine AF _ rfl<|AG (x:=n) ((K.mono d).at G (j:=6) rfl) rfl<|AK (PP (K.mono d) G sym) ?_;rintro _ h6 ⟨rfl,m⟩;refine⟨_,rfl,?_⟩;refine AN ((K.mono d).at m (j:=6) rfl) ?_;rw[hk];have⟨A2,a4,N,O,r2,P⟩:=m.get Q;refine AF _ N (Ah O ?_);obtain rfl:=r2;refine AG (x:=b) (P 0 _ rfl) rfl ?_;cases b
     ·obtain rfl:=iS he;obtain rfl:=hb _ rfl;obtain rfl:=iS hd;refine Ac rfl<|Aj (Al (AC ⟨S,d,rfl,by simp[c],m⟩))
     ·obtain rfl:=iS he;refine AU rfl<|AZ (gR .i64 (z.1+(1:Int)),z.2.1,FQ s o || z.2.2.1,()) _ rfl rfl ⟨S,d,hw,rfl,by simp[c],m⟩
  ·rintro i z w ⟨gr,A⟩ ⟨ψ,le,rfl,hg,c,st⟩ hge hr;subst hr;dsimp only at hg c st;refine AU (by rw[nk];exact gB (kO.2 hge))<|AI (AL z rfl ⟨ψ,A,le,by rw[hg],c,st⟩)
 ·rintro z h1 ⟨ψ,ss',le,rfl,c,st⟩;obtain rfl:=iS hd;exact AC ⟨ψ,le,rfl,c,st⟩
end
end Go.Proofs.YtkfgeafgfeppfaaGreatDoor
