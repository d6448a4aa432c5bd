/- The parts Sim2 to DgLays2, put together. Conditions: each tells its own. -/
import Derived.Test.YtnlkgidlfnefbaaGreatDoorKc5
import Derived.Test.YtnlkgidlfnefbaaGreatDoorKc6
import Derived.KernelRfl
import Derived.Test.YtnlkgidlfnefbaaGreatDoorKc3
import Derived.Test.YtnlkgidlfnefbaaGreatDoorProg
import Derived.Shelf.Sort.Plain
import Derived.Shelf.SlSortCmp.NoneTotal
import Derived.Shelf.Slices.CompactI
import Derived.Shelf.Small.Wraps
import Derived.Shelf.Slices.In.SortNone
import Derived.Shelf.SlicesE.DeleteFunc
set_option linter.unusedVariables false
set_option maxRecDepth 100000
set_option maxHeartbeats 4000000
open Nat renaming beq → bD,lt_succ_iff_lt_or_eq → kU,lt_or_ge → mU
open Go.Eng.Ro.SliceIs renaming nil → bO
open List renaming getElem?_eq_getElem → eE,getElem_mem → kF,length_append → kK,pairwise_cons → kY,mem_append → lG,getElem?_append_right → lN,getElem?_eq_some_iff → lP,getElem?_append_left → lQ,getElem?_eq_none → lZ,getElem?_of_mem → mB,mem_append_left → mC,mem_cons → mE,mem_singleton → mG,append_assoc → mT,perm_middle → nJ,length_cons → nK,length → nP
open Go.Eng.Ro renaming int → hA,str → hC,SliceIs → hM
open Go.Proofs.Tryz renaming prog → kG,underlying30 → kL,underlying3 → kQ,underlying4 → kT,zeroValue3 → kV,zeroValue4 → kW,sizeOf3 → lA,underlying0 → lD,isAgg3 → lF,zeroValue0 → lI,sizeOf4 → lK,isAgg4 → lT,zeroValue30 → lV,sizeOf0 → lY,isAgg0 → mD,sizeOf30 → mF,underlying221 → mH,underlying250 → mI,underlying226 → mJ,underlying115 → mK,underlying243 → mL,underlying244 → mM,underlying267 → mN,underlying271 → mO,underlying279 → mP,underlying280 → mQ,underlying29 → mR,isAgg30 → mW,zeroValue221 → mX,zeroValue250 → mY,zeroValue226 → mZ,zeroValue115 → nA,zeroValue243 → nB,zeroValue244 → nC,zeroValue267 → nD,zeroValue271 → nF,zeroValue279 → nG,zeroValue280 → nH,underlying5 → nN,underlying9 → nO
open Go.IntKind renaming wrap → kH
open ByteArray renaming extract → kI,toList → kO,size → lM
open Go.Eng.St renaming freezeRow → kJ,unpair → lC,cell → lJ,cells → lU,unro → lX,lit → nW,shut → nY
open Int renaming emod_lt_of_pos → kX,toNat → kZ,emod_nonneg → lH,toNat_natCast → lR,le_refl → nQ,tmod → oA
open Go.Eng.Sub renaming trans → lB,refl → nX
open Go.Value renaming int → lL
open Array renaming getElem?_append_left → lO,getElem?_modify → mA
open UInt8 renaming ofNat → lS,toNat → nU
open Go.Eng.AY renaming next → lW,done → mS
open Option renaming bind_some → nI
open Go.Eng.Rep renaming row → nZ
open Go.Proofs.Tryz
namespace Go.Proofs.YtnlkgidlfnefbaaGreatDoor
open Go Go.Eng
section
variable {φ:AD}{h:AH}{F:List Chk}
theorem Vx:GU kG 29 29 57 3:=⟨mR,.inl mR,⟨t57,by kernel_rfl,rfl,⟨_,rfl,rfl⟩,by decide,by decide⟩,by decide⟩
theorem Ci:GU kG 30 30 3 1:=⟨kL,.inl kL,⟨t3,by kernel_rfl,rfl,⟨_,rfl,rfl⟩,by decide,by decide⟩,by decide⟩
noncomputable def D8 (g_0:DV):Option (List ByteArray×List ByteArray×List BM×List Int×List Int×List ByteArray×Int×ByteArray):=
 (DL (g_0.1,g_0.2.1,g_0.2.2.1,g_0.2.2.2.1,g_0.2.2.2.2)).bind λt8=>
 cond (!t8)
 (some (([]:List ByteArray),[],[],[],[],[],1,{data:=#[]}))
 ((forS (σ:=As) 0 (g_0.2.2.2.2.length:Int) (([{data:=#[36,101,110,100]}]:List ByteArray),[],[],([(0:Int)]:List Int),([(0:Int)]:List Int),([{data:=#[]}]:List ByteArray)) λi a=>
  (idx g_0.2.2.2.2 i).bind λB=>
  (BI a.2.1 B.1).bind λR=>
  (cond (decide (R< 0))
  ((idx g_0.2.2.2.2 i).bind λC=>
   (app (a.1,a.2.1,a.2.2.1,a.2.2.2.1,a.2.2.2.2.1,a.2.2.2.2.2).2.1 ([C.1]:List ByteArray)).bind λS=>
   some ((a.1,a.2.1,a.2.2.1,a.2.2.2.1,a.2.2.2.2.1,a.2.2.2.2.2).1,S,(a.1,a.2.1,a.2.2.1,a.2.2.2.1,a.2.2.2.2.1,a.2.2.2.2.2).2.2.1,(a.1,a.2.1,a.2.2.1,a.2.2.2.1,a.2.2.2.2.1,a.2.2.2.2.2).2.2.2.1,(a.1,a.2.1,a.2.2.1,a.2.2.2.1,a.2.2.2.2.1,a.2.2.2.2.2).2.2.2.2.1,(a.1,a.2.1,a.2.2.1,a.2.2.2.1,a.2.2.2.2.1,a.2.2.2.2.2).2.2.2.2.2))
  (some (a.1,a.2.1,a.2.2.1,a.2.2.2.1,a.2.2.2.2.1,a.2.2.2.2.2))).bind λn=>
  (idx g_0.2.2.2.2 i).bind λD=>
  (app n.2.2.2.2.2 ([D.2.2.2]:List ByteArray)).bind λT=>
  some (n.1,n.2.1,n.2.2.1,n.2.2.2.1,n.2.2.2.2.1,T)).bind λU=>
  (DF (σ:=(As×As)) (β:=(List ByteArray×List ByteArray×List BM×List Int×List Int×List ByteArray×Int×ByteArray)) 0 (g_0.1.length:Int) ((([]:List ByteArray),[],[],[],[],([]:List ByteArray)),U) λe g=>
   (idx g_0.1 e).bind λE=>
   (BI g.2.2.1 E.1).bind λV=>
   cond (decide (V≥ 0))
   ((idx g_0.1 e).bind λF=>
    some (mS (([]:List ByteArray),[],[],[],[],[],15,F.1)))
   ((idx g_0.1 e).bind λG=>
    (app g.2.1 ([G.1]:List ByteArray)).bind λW=>
    (idx g_0.1 e).bind λH=>
    (Cb (g_0.1,g_0.2.1,g_0.2.2.1,g_0.2.2.2.1,g_0.2.2.2.2) H.1).bind λX=>
    (app g.2.2.2.2.1 ([X]:List Int)).bind λY=>
    some (lW (g.1,(W,g.2.2.1,g.2.2.2.1,Y,g.2.2.2.2.2.1,g.2.2.2.2.2.2))))).bind λt=>match t with
  |.next I=>
   (forS (σ:=As) 0 (g_0.2.2.1.length:Int) I.2 λu o=>
    (idx g_0.2.2.1 u).bind λJ=>
    (app o.2.2.2.2.1 ([J.1]:List Int)).bind λZ=>
    some (o.1,o.2.1,o.2.2.1,o.2.2.2.1,Z,o.2.2.2.2.2)).bind λf=>
   (Bq (f.1,f.2.1) g_0.2.2.2.1).bind λa0=>
   (DF (σ:=(As×As)) (β:=(List ByteArray×List ByteArray×List BM×List Int×List Int×List ByteArray×Int×ByteArray)) 0 (g_0.2.2.2.2.length:Int) (I.1,(f.1,f.2.1,([((kH .i64 ((f.1.length:Int)+(f.2.1.length:Int))),([a0]:List Int),0)]:List BM),f.2.2.2.1,f.2.2.2.2.1,f.2.2.2.2.2)) λv b=>
    (idx g_0.2.2.2.2 v).bind λd=>
    (Bq (b.2.1,b.2.2.1) d.1).bind λK=>
    (DF (σ:=(As×BM)) (β:=(List ByteArray×List ByteArray×List BM×List Int×List Int×List ByteArray×Int×ByteArray)) 0 (d.2.1.length:Int) (b.1,(K,[],0)) λk c=>
     (idx d.2.1 k).bind λL=>
     (Bq (b.2.1,b.2.2.1) L).bind λl=>
     cond (decide (l< 0))
     ((idx d.2.1 k).bind λM=>
      some (mS (([]:List ByteArray),[],[],[],[],[],16,M)))
     ((app c.2.2.1 ([l]:List Int)).bind λp=>
      (cond (decide (l< (b.2.1.length:Int)))
      ((idx b.2.2.2.2.1 l).bind λN=>
       some (((c.2.1,p,c.2.2.2).1),(c.2.1,p,c.2.2.2).2.1,N))
      (some (c.2.1,p,c.2.2.2))).bind λO=>
      some (lW (c.1,O)))).bind λq=>match q with
    |.next h=>
     ((cond (!(kO d.2.2.1==kO {data:=#[]}))
     ((Cb (g_0.1,g_0.2.1,g_0.2.2.1,g_0.2.2.2.1,g_0.2.2.2.2) d.2.2.1).bind λs=>
      cond (s==0)
      (some (mS (([]:List ByteArray),[],[],[],[],[],16,d.2.2.1)))
      (some (lW ((h.2.1,h.2.2.1,s),h.1))))
     (some (lW (h.2,h.1)))):Option (AY (BM×As) (List ByteArray×List ByteArray×List BM×List Int×List Int×List ByteArray×Int×ByteArray))).bind λr=>match r with
     |.next m=>
      (app b.2.2.2.1 ([(m.1.1,m.1.2.1,m.1.2.2)]:List BM)).bind λP=>
      some (lW (m.2,(b.2.1,b.2.2.1,P,b.2.2.2.2.1,b.2.2.2.2.2.1,b.2.2.2.2.2.2)))
     |.done w=>some (mS w)
    |.done x=>some (mS x)).bind λy=>match y with
   |.next j=>
    (BI j.2.2.1 g_0.2.2.2.1).bind λQ=>
    cond (decide (Q< 0))
    (some (([]:List ByteArray),[],[],[],[],[],16,g_0.2.2.2.1))
    (some (j.2.1,j.2.2.1,j.2.2.2.1,j.2.2.2.2.1,j.2.2.2.2.2.1,j.2.2.2.2.2.2,0,{data:=#[]}))
   |.done z=>some z
  |.done A=>some A)
theorem MP {A:Slc×Slc×Slc×ByteArray×Slc×Unit}{cw:List HY}{dg:List Ic}{cx:List Fc}{d0:List Dh}(b5:hM HZ φ A.1 cw) (d1:hM N2 φ A.2.1 dg) (bs:hM G5 φ A.2.2.1 cx) (b6:hM GX φ A.2.2.2.2.1 d0) (s0:St φ F h) {r:(List ByteArray×List ByteArray×List BM×List Int×List Int×List ByteArray×Int×ByteArray)}(hd:D8 (cw,dg,cx,A.2.2.2.1,d0)=some r):
 CallsH kG 54 [(.agg #[(sv A.1),(sv A.2.1),(sv A.2.2.1),(.string A.2.2.2.1),(sv A.2.2.2.2.1)])] h (Ae λv h'=>∃ψ:AD,∃y:(Pl6)×Int×ByteArray×Unit,∃dk:List ByteArray,∃dl:List ByteArray,∃dp:List BM,∃ds:List Int,∃dx:List Int,∃dy:List ByteArray,Sub φ ψ∧v=((.tuple [(.agg [.slice,.slice,.slice,.slice,.slice,.slice]),aI,(.atom .string)]):Sh).val y∧(dk,dl,dp,ds,dx,dy,y.2.1,y.2.2.1)=r∧hM hC ψ y.1.1 dk∧hM hC ψ y.1.2.1 dl∧hM CB ψ y.1.2.2.1 dp∧hM (hA .i64) ψ y.1.2.2.2.1 ds∧hM (hA .i64) ψ y.1.2.2.2.2.1 dx∧hM hC ψ y.1.2.2.2.2.2.1 dy∧St ψ F h'):=by
 refine AN mixed func54 (MD ..) ?_;have e0:A.1.2.1=nP cw:=b5.length;have e1:A.2.2.1.2.1=nP cx:=bs.length;have c1:A.2.2.2.2.1.2.1=nP d0:=b6.length;refine AU (vs:=[sv A.1,sv A.2.1,sv A.2.2.1,.string A.2.2.2.1,sv A.2.2.2.2.1]) s0 λG p4 h9=>AU (vs:=[.slice none 0 0,.slice none 0 0,.slice none 0 0,.slice none 0 0,.slice none 0 0,.slice none 0 0]) h9 λE p5 bj=>AA bj.at1 rfl<|AA bj.at1 rfl<|AA bj.at1 rfl<|AA bj.at1 rfl<|AA bj.at1 rfl ?_;have⟨p6,hb,hd⟩:=bS hd;refine AE (JL (A:=(A.1,A.2.1,A.2.2.1,A.2.2.2.1,A.2.2.2.2.1,())) b5 d1 bs b6 bj hb) ?_;rintro _ p7 ⟨V,t8,p8,rfl,rfl,e2⟩;refine⟨t8,rfl,?_⟩;refine kD hd rfl (λhd=>?_) (λhd=>?_)
 ·refine AG e2 rfl rfl λp9 hc=>AG hc rfl rfl λpa he=>AG he rfl rfl λpb hf=>AG hf rfl rfl λpc hg=>AG hg rfl rfl λpd hh=>AG hh rfl rfl λpe ba=>AA (x:=((none,0,0):Slc)) ba rfl<|AA (x:=((none,0,0):Slc)) ba rfl<|AA (x:=((none,0,0):Slc)) ba rfl<|AA (x:=((none,0,0):Slc)) ba rfl<|AA (x:=((none,0,0):Slc)) ba rfl<|AA (x:=((none,0,0):Slc)) ba rfl ?_;exact AB ⟨V,((((none,0,0):Slc),((none,0,0):Slc),((none,0,0):Slc),((none,0,0):Slc),((none,0,0):Slc),((none,0,0):Slc),()),(1:Int),{data:=#[]},()),[],[],[],[],[],[],sb,rfl,iS hd,(bO hC V),(bO hC V),(bO CB V),(bO (hA .i64) V),(bO (hA .i64) V),(bO hC V),ba.tail.tail⟩
 refine AU (vs:=[.string ({data:=#[36,101,110,100]})]) e2 λl0 pf hi=>AU (vs:=[.int .i64 (0:Int)]) hi λl1 pg hj=>AU (vs:=[.int .i64 (0:Int)]) hj λl2 ph hk=>AU (vs:=[.string ({data:=#[]})]) hk λl4 pi hl=>AU (vs:=[.slice none 0 0,.slice none 0 0,.slice none 0 0,.slice none 0 0,.slice none 0 0,.slice none 0 0]) hl λB pj hm=>AG hm rfl rfl λpk hn=>AG hn rfl rfl λpl ho=>AG ho rfl rfl λpm hp=>AG hp rfl rfl λpn hq=>AG hq rfl rfl λpo hr=>AG hr rfl rfl λpp hs=> ?_;have ht:=nW (r:=hC) (l:=([{data:=#[36,101,110,100]}]:List ByteArray)) (n:=1) hs.at4 (.cons (a:=[_]) rfl .nil) rfl (by decide);have hu:=nW (r:=(hA .i64)) (l:=([(0:Int)]:List Int)) (n:=1) ((ht.nil 9 hC).nil 57 CB).at6 (.cons (a:=[_]) rfl .nil) rfl (by decide);have hv:=nW (r:=(hA .i64)) (l:=([(0:Int)]:List Int)) (n:=1) hu.at6 (.cons (a:=[_]) rfl .nil) rfl (by decide);have hw:=nW (r:=hC) (l:=([{data:=#[]}]:List ByteArray)) (n:=1) hv.at6 (.cons (a:=[_]) rfl .nil) rfl (by decide);have hx:=JC (t0:=((some ⟨l0,0,none⟩,1,1):Slc)) (t1:=((none,0,0):Slc)) (t2:=((none,0,0):Slc)) (t3:=((some ⟨l1,0,none⟩,1,1):Slc)) (t4:=((some ⟨l2,0,none⟩,1,1):Slc)) (t5:=((some ⟨l4,0,none⟩,1,1):Slc)) hw.at6.at6.at6.at6.at6.at6.at6;have⟨pq,hy,hd⟩:=bS hd;refine Bb hy (λhz y J g=>∃ψ:AD,∃e3:As,Sub V ψ∧y.1=hz∧e3=g∧St ψ (cO 32 IM (jX B) e3::Wq5 E::Wq1 G A::F) J) ((0:Int),()) rfl ⟨V,(([{data:=#[36,101,110,100]}]:List ByteArray),[],[],([(0:Int)]:List Int),([(0:Int)]:List Int),([{data:=#[]}]:List ByteArray)),sb,rfl,rfl,hx.at2.at2.at2⟩ ?_ ?_ ?_
 ·rintro _ l5 pr _ _ ⟨ps,M,pt,rfl,rfl,e4⟩ N pu i0 i1;refine AA e4.at2 rfl<|Ai (dT c1 i0) ?_;have⟨i2,pv,pw,px,py,pz,q0,e5,c2⟩:=GD e4;obtain rfl:B=i2:=by simpa using e5
  clear e5;refine AA c2.at6 rfl<|AA c2.at8 rfl<|Rh S8 b6 N c2 λq1 N=> ?_;have⟨q2,i3,N⟩:=bS N;refine AE (Bp c2.at4 i3) ?_;rintro _ q3 ⟨d2,y0,q4,rfl,rfl,i4⟩;refine⟨y0,rfl,?_⟩;have e6:=JC i4.at5.at1.at5.at5.at5.at5.at6.at6.at6.at6.at6.at6.at6;have⟨i5,al,N⟩:=bS N;refine Ad (λy J g=>∃ψ:AD,∃e7:As,Sub d2 ψ∧e7=g∧St ψ (cO 32 IM (jX B) e7::Wq5 E::Wq1 G A::F) J) (g:=i5) ?_ ?_
  ·refine kD al rfl (λal=>?_) (λal=>?_)
   ·have⟨i6,q5,q6,q7,q8,q9,qa,e8,c3⟩:=GD e6;obtain rfl:B=i6:=by simpa using e8
    clear e8;refine AA c3.at6 rfl<|AA c3.at8 rfl<|Rh S8 b6 al c3 λe9 al=>AU (vs:=[.string e9.1]) c3 λz2 qb d3=>AI (lJ (b:=B) (j:=1) d3.at7 rfl) ?_;have⟨i7,i8,al⟩:=bS al;refine AZ (r:=hC) (ms:=([e9.1]:List ByteArray)) Ch d3.tail.at4 rfl (lU d3) (.cons (a:=[_]) rfl .nil) rfl i8 ?_;intro z3 qc i9;refine AG i9.at6 rfl rfl λqd ia=> ?_;exact jY rfl ⟨d2,(M.1,i7,M.2.2.1,M.2.2.2.1,M.2.2.2.2.1,M.2.2.2.2.2),sb,iS al,((((JC ia.at6.at2.at6.at6.at6.at6.at6.at6.at6.at6.at6.at6.at6).at2).at2).at2)⟩
   exact jY rfl ⟨d2,(M.1,M.2.1,M.2.2.1,M.2.2.2.1,M.2.2.2.2.1,M.2.2.2.2.2),sb,iS al,e6.at2.at2.at2⟩
  rintro z4 qe ⟨ib,bt,qf,rfl,ic⟩;have⟨ie,qg,qh,qi,qj,qk,ql,ea,c4⟩:=GD ic;obtain rfl:B=ie:=by simpa using ea
  clear ea;refine AA c4.at6 rfl<|AA c4.at8 rfl<|ixS cF b6 N c4 λec N=>AU (vs:=[.string ec.2.2.2]) c4 λz5 qm d4=>AI (lJ (b:=B) (j:=5) d4.at7 rfl) ?_;have⟨ig,ih,N⟩:=bS N;refine AZ (r:=hC) (ms:=([ec.2.2.2]:List ByteArray)) Ch d4.tail rfl (lU d4) (.cons (a:=[_]) rfl .nil) rfl ih ?_;intro z6 qn ii;refine AG ii.at6 rfl rfl λqo ij=> ?_;obtain rfl:=iS N;exact jZ rfl rfl ⟨ib,(bt.1,bt.2.1,bt.2.2.1,bt.2.2.2.1,bt.2.2.2.2.1,ig),sb,i1,rfl,((((JC ij.at6.at6.at6.at6.at6.at6.at6.at6.at6.at6.at6.at6.at6).at2).at2).at2)⟩
 ·rintro _ l5 qp ⟨ik,il,qq,rfl,rfl,ed⟩ im;refine AA ed.at2 rfl<|AW (dF c1 im)<|AO (kB rfl ⟨_,ik,il,sb,rfl,rfl,ed.at2.at2.at2⟩)
 rintro z7 qr ⟨_,ee,io,qs,_,rfl,ip⟩;have iq:=JC (t0:=((none,0,0):Slc)) (t1:=((none,0,0):Slc)) (t2:=((none,0,0):Slc)) (t3:=((none,0,0):Slc)) (t4:=((none,0,0):Slc)) (t5:=((none,0,0):Slc)) ((((((ip.nil 9 hC).nil 9 hC).nil 57 CB).nil 3 (hA .i64)).nil 3 (hA .i64)).nil 9 hC).at7.at6.at6.at6.at6.at6.at6;have⟨qt,ir,hd⟩:=bS hd;refine BR ir (λit y J g=>∃ψ:AD,∃ef:As,∃eg:As,Sub ee ψ∧y.1=it∧(ef,eg)=g∧St ψ (cO 32 IM (jX E) ef::cO 32 IM (jX B) eg::Wq1 G A::F) J) ((0:Int),{data:=#[]},(0:Int),()) rfl ⟨ee,(([]:List ByteArray),[],[],[],[],([]:List ByteArray)),io,sb,rfl,rfl,iq.at2.at2.at2⟩ ?_ ?_ ?_
 ·rintro _ y1 qu _ _ ⟨qv,iu,c5,qw,rfl,rfl,ek⟩ p qx iv iw ix;refine AA ek.at2 rfl<|Ai (dT e0 iv) ?_;have⟨iy,qy,qz,r0,r3,r4,r5,el,c6⟩:=GD ek.at1;obtain rfl:B=iy:=by simpa using el
  clear el;refine AA c6.at6 rfl<|AA c6.at8 rfl<|Rh QF b5 p c6 λr6 p=> ?_;have⟨r7,iz,p⟩:=bS p;refine AE (Bp c6.at4 iz) ?_;rintro _ r8 ⟨b7,y2,r9,rfl,rfl,bb⟩;refine⟨y2,rfl,?_⟩;refine kD p rfl (λp=>?_) (λp=>?_)
  ·refine AA bb.at8 rfl ?_;have⟨em,j0,p⟩:=bS p;obtain⟨ra,rb,j1,j2,j3,en⟩:=(b5.up (ψ:=b7)).get j0;refine AF _ j1 (Am j2 ?_);obtain⟨_,_,rfl,rfl,⟨_,_,rfl,rfl,⟨_,_,rfl,rfl,rfl⟩⟩⟩:=j3;refine AL (x:=em.1) (AM (lB sb bb.sub) (en 0 _ rfl)) rfl ?_;have⟨ja,rc,rd,re,rf,rg,rh,eo,jb⟩:=GD bb.at7;obtain rfl:E=ja:=by simpa using eo
   clear eo;refine AG jb.at6 rfl rfl λri jc=>AG jc rfl rfl λrj jd=>AG jd rfl rfl λrk je=>AG je rfl rfl λrl jf=>AG jf rfl rfl λrm jg=>AG jg rfl rfl λrn ap=>AI (AM (lB sb ap.sub) (en 0 _ rfl))<|AI (lJ (b:=G) (j:=0) ap.at14 rfl)<|AA (x:=((none,0,0):Slc)) ap rfl<|AA (x:=((none,0,0):Slc)) ap rfl<|AA (x:=((none,0,0):Slc)) ap rfl<|AA (x:=((none,0,0):Slc)) ap rfl<|AA (x:=((none,0,0):Slc)) ap rfl<|AA (x:=((none,0,0):Slc)) ap rfl ?_;obtain rfl:=iS p;obtain rfl:=ix _ rfl;obtain rfl:=iS hd;exact Ak (Al (AB ⟨b7,((((none,0,0):Slc),((none,0,0):Slc),((none,0,0):Slc),((none,0,0):Slc),((none,0,0):Slc),((none,0,0):Slc),()),(15:Int),em.1,()),[],[],[],[],[],[],sb,rfl,rfl,(bO hC b7),(bO hC b7),(bO CB b7),(bO (hA .i64) b7),(bO (hA .i64) b7),(bO hC b7),ap.tail.tail.tail.tail.tail.tail.tail.tail.tail.tail.tail.tail.tail.tail.tail⟩))
  refine AA bb.at6 rfl<|AA bb.at8 rfl<|Rh QF b5 p bb λer p=>AU (vs:=[.string er.1]) bb λz8 rp d5=>AI (lJ (b:=B) (j:=0) d5.at7 rfl) ?_;have⟨jh,ji,p⟩:=bS p;refine AZ (r:=hC) (ms:=([er.1]:List ByteArray)) Ch d5.tail.at5 rfl (lU d5) (.cons (a:=[_]) rfl .nil) rfl ji ?_;intro z9 rq jj;refine AG jj.at6 rfl rfl λrr W=>AA W rfl<|AA W.at8 rfl<|AA W.at8 rfl<|AA W.at8 rfl<|AA W.at8 rfl<|AA W.at8 rfl<|AA W.at8 rfl<|Rh QF b5 p W λrs p=> ?_;have⟨rt,jk,p⟩:=bS p;refine AE (Fk (A:=(A.1,A.2.1,A.2.2.1,A.2.2.2.1,A.2.2.2.2.1,())) b5.up d1.up bs.up b6.up W jk) ?_;rintro _ ru ⟨jl,j4,rv,rfl,rfl,es⟩;refine⟨j4,rfl,?_⟩;refine AI (lJ (b:=B) (j:=3) es rfl)<|AU (vs:=[.int .i64 j4]) es λr74 rx d6=>AI (lJ (b:=B) (j:=3) d6.at1 rfl) ?_;have⟨jm,jn,p⟩:=bS p;refine AZ (r:=(hA .i64)) (ms:=([j4]:List Int)) Ci d6.tail.at5 rfl (lU d6) (.cons (a:=[_]) rfl .nil) rfl jn ?_;intro t75 ry jo;refine AG jo.at1 rfl rfl λrz jp=> ?_;obtain rfl:=iS p;exact jZ rfl rfl ⟨jl,iu,(jh,c5.2.1,c5.2.2.1,jm,c5.2.2.2.2.1,c5.2.2.2.2.2),sb,iw,rfl,((((JC jp.at2.at3.at6.at4.at6.at6.at6.at6.at6.at6.at6.at6.at6).at2).at1).at2)⟩
 ·rintro _ y1 s1 _ ⟨jq,jr,js,s2,rfl,rfl,ev⟩ jt ju;subst ju;refine AA ev.at2 rfl<|AW (dF e0 jt)<|AO (kB rfl ⟨_,rfl,_,jq,jr,js,sb,rfl,rfl,ev.at2.at2.at2⟩)
 rintro j7 s3 ⟨_,rfl,_,ew,ex,jv,s4,_,rfl,jw⟩;have⟨s5,jx,hd⟩:=bS hd;refine Bb jx (λjy y J g=>∃ψ:AD,∃ey:As,Sub ew ψ∧y.1=jy∧ey=g∧St ψ (cO 32 IM (jX B) ey::cO 32 IM (jX E) ex::Wq1 G A::F) J) ((0:Int),()) rfl ⟨ew,jv,sb,rfl,rfl,jw.at2.at1.at2⟩ ?_ ?_ ?_
 ·rintro _ y3 s6 _ _ ⟨jz,bw,s7,rfl,rfl,ez⟩ bx s8 k0 k1;refine AA ez.at2 rfl<|Ai (dT e1 k0) ?_;have⟨k2,s9,sa,sc,sd,se,sf,f0,c7⟩:=GD ez;obtain rfl:B=k2:=by simpa using f0
  clear f0;refine AA c7.at6 rfl<|AA c7.at8 rfl<|Rh cD bs bx c7 λf1 bx=>AU (vs:=[.int .i64 f1.1]) c7 λr83 sg d7=>AI (lJ (b:=B) (j:=4) d7.at7 rfl) ?_;have⟨k3,k4,bx⟩:=bS bx;refine AZ (r:=(hA .i64)) (ms:=([f1.1]:List Int)) Ci d7.tail.at1 rfl (lU d7) (.cons (a:=[_]) rfl .nil) rfl k4 ?_;intro t84 sh k5;refine AG k5.at6 rfl rfl λsi k6=> ?_;obtain rfl:=iS bx;exact jZ rfl rfl ⟨jz,(bw.1,bw.2.1,bw.2.2.1,bw.2.2.2.1,k3,bw.2.2.2.2.2),sb,k1,rfl,((((JC k6.at6.at6.at6.at6.at5.at6.at6.at6.at6.at6.at6.at6.at6).at2).at2).at2)⟩
 ·rintro _ y3 sj ⟨k7,k8,sk,rfl,rfl,f2⟩ k9;refine AA f2.at2 rfl<|AW (dF e1 k9)<|AO (kB rfl ⟨_,k7,k8,sb,rfl,rfl,f2.at2.at2.at2⟩)
 rintro z76 sl ⟨_,sm,q,sn,_,rfl,ka⟩;have⟨kb,f3,f4,z,kc,kd,ke,f5,K⟩:=GD ka;obtain rfl:B=kb:=by simpa using f5
 clear f5;have kf:=(K.at5).rowLen;have kg:=(K.at4).rowLen;refine AA K.at6 rfl<|AA K.at6 rfl<|AA K.at6 rfl<|AA K.at6 rfl<|AA K.at6 rfl<|AA K.at6 rfl<|AA K.at6 rfl<|AA K.at6 rfl<|AA K.at8 rfl ?_;have⟨so,kh,hd⟩:=bS hd;refine AE (DT (w:=(f3,f4,z,kc,kd,ke,())) K.at5.at5.at1 kh) ?_;rintro _ sp ⟨sq,O,sr,rfl,rfl,ki⟩;refine⟨O,rfl,?_⟩;refine AU (vs:=[.int .i64 O]) ki λj5 ss kj=>AU (vs:=[.int .i64 (kH .i64 ((f3.2.1:Int)+(f4.2.1:Int))),.slice (jX j5) 1 1,.int .i64 (0:Int)]) kj λy4 st kk=>AG kk.at8 rfl rfl λsu kl=> ?_;have km:=nW (r:=(hA .i64)) (l:=([O]:List Int)) (n:=1) kl.at3.at4.at4 (.cons (a:=[_]) rfl .nil) rfl (by decide);have⟨f6,sw,kn,ko⟩:=kJ (t:=((some ⟨j5,0,none⟩,1,1):Slc)) km;have kp:=nW (r:=CB) (l:=([((kH .i64 ((q.1.length:Int)+(q.2.1.length:Int))),([O]:List Int),(0:Int))]:List BM)) (n:=1) ko.at3 (.cons (a:=[_,_,_]) ⟨[_],_,rfl,(show _=_ by rw[kf,kg];rfl),⟨[_],_,rfl,⟨((some ⟨j5,0,none⟩,1,1):Slc),rfl,kn⟩,rfl⟩⟩ .nil) rfl (by decide);have kq:=((((JC (t2:=((some ⟨y4,0,none⟩,1,1):Slc)) kp.at6.at6.at6.at6.at6.at6.at6.at6.at6.at6).at3).at2).at2).at3;have⟨sx,kr,hd⟩:=bS hd;refine BR kr (λks y J g=>∃ψ:AD,∃f7:As,∃f8:As,Sub f6 ψ∧y.1=ks∧(f7,f8)=g∧St ψ (cO 32 IM (jX E) f7::cO 32 IM (jX B) f8::cR 57 CB z q.2.2.1::Wq1 G A::F) J) ((0:Int),j7.2.1,j7.2.2.1,()) rfl ⟨f6,ex,(q.1,q.2.1,([((kH .i64 ((q.1.length:Int)+(q.2.1.length:Int))),([O]:List Int),(0:Int))]:List BM),q.2.2.2.1,q.2.2.2.2.1,q.2.2.2.2.2),sb,rfl,rfl,kq⟩ ?_ ?_ ?_
 ·rintro _ j6 sy _ _ ⟨kt,f9,c,sz,rfl,rfl,bd⟩ a0 t6 ku kv fa;refine AA bd.at3 rfl<|Ai (dT c1 ku)<|AA bd.at3 rfl ?_;have⟨d,kw,a0⟩:=bS a0;obtain⟨t7,t9,kx,ky,kz,c8⟩:=(b6.up (ψ:=kt)).get kw;refine AF _ kx (Am ky ?_);obtain⟨_,_,rfl,rfl,⟨_,_,rfl,⟨L,rfl,d8⟩,l3⟩⟩:=kz;have fd:=d8.length;obtain⟨_,_,rfl,rfl,rfl⟩:=l3;refine AL (x:=d.1) (AM (lB sb bd.sub) (c8 0 _ rfl)) rfl<|AL (x:=L) (by rw[Ac];exact(AM (lB sb bd.sub) (c8 1 _ rfl))) rfl<|AL (x:=d.2.2.1) (by rw[Ac];exact(AM (lB sb bd.sub) (c8 2 _ rfl))) rfl<|AL (x:=d.2.2.2) (by rw[Ac];exact(AM (lB sb bd.sub) (c8 3 _ rfl))) rfl<|AU (vs:=[.string ({data:=#[]}),.slice none 0 0,.string ({data:=#[]}),.string ({data:=#[]})]) bd λD ta l6=>AG l6 rfl rfl λtb l7=>AG l7 rfl rfl λtc l8=>AG l8 rfl rfl λtd l9=>AG l9 rfl rfl λte la=> ?_;have⟨lb,e,f,i,k,m,o,fl,b1⟩:=GD la.at2;obtain rfl:B=lb:=by simpa using fl
  clear fl;have lc:=(b1.at5).rowLen;refine AA b1.at6 rfl<|AA b1.at6 rfl<|AA b1.at6 rfl<|AA b1.at6 rfl<|AA b1.at6 rfl<|AA b1.at6 rfl<|AA b1.at7 rfl ?_;have⟨tf,ld,a0⟩:=bS a0;refine AE (DT (w:=(e,f,i,k,m,o,())) b1.at5.at5.at1 ld) ?_;rintro _ tg ⟨d9,H,th,rfl,rfl,le⟩;refine⟨H,rfl,?_⟩;refine AU (vs:=[.int .i64 (0:Int),.slice none 0 0,.int .i64 (0:Int)]) le λC ti lf=>AG lf rfl rfl λtj lg=>AG lg rfl rfl λtk lh=>AG lh rfl rfl λtl li=> ?_;have lj:=lC ((lX (r:=(hA .i64)) (cs:=[.int .i64 (0:Int)]) (x:=(0:Int)) (li.nil 3 (hA .i64)) rfl).at1);have lk:St d9 (cO 57 Rq1 (jX C) (H,[],(0:Int))::cR 9 hC e c.1::cR 9 hC f c.2.1::cR 9 hC o c.2.2.2.2.2::cR 3 (hA .i64) m c.2.2.2.2.1::cR 3 (hA .i64) k c.2.2.2.1::cR 57 CB i c.2.2.1::cW 32 B [sv e,sv f,sv i,sv k,sv m,sv o]::cW 169 D [.string d.1,sv L,.string d.2.2.1,.string d.2.2.2]::cO 32 IM (jX E) f9::cR 57 CB z q.2.2.1::Wq1 G A::F) _:=nY (lC (lX (r:=(hA .i64)) (cs:=[.int .i64 H]) (x:=H) lj rfl)).at1;have⟨tm,ll,a0⟩:=bS a0;refine BR ll (λlm y J g=>∃ψ:AD,∃fn:As,∃fo:BM,Sub d9 ψ∧y.1=lm∧(fn,fo)=g∧St ψ (cO 32 IM (jX E) fn::cO 57 Rq1 (jX C) fo::cR 9 hC e c.1::cR 9 hC f c.2.1::cR 9 hC o c.2.2.2.2.2::cR 3 (hA .i64) m c.2.2.2.2.1::cR 3 (hA .i64) k c.2.2.2.1::cR 57 CB i c.2.2.1::cW 32 B [sv e,sv f,sv i,sv k,sv m,sv o]::cW 169 D [.string d.1,sv L,.string d.2.2.1,.string d.2.2.2]::cR 57 CB z q.2.2.1::Wq1 G A::F) J) ((0:Int),j6.2.1,j6.2.2.1,()) rfl ⟨d9,f9,(H,[],(0:Int)),sb,rfl,rfl,lk.at11.at11.at10.at10.at10.at10.at10.at10.at10.at10.at10.at11⟩ ?_ ?_ ?_
  ·rintro _ j8 tn _ _ ⟨tp,bl,s,tq,rfl,rfl,R⟩ u tr ln lo lp;refine AA R.at9 rfl<|Ai (dT fd ln)<|AA R.at8 rfl<|AA R.at8 rfl<|AA R.at8 rfl<|AA R.at8 rfl<|AA R.at8 rfl<|AA R.at8 rfl<|AA R.at9 rfl<|gx d8 u R λts u=> ?_;have⟨tt,lq,u⟩:=bS u;refine AE (DT (w:=(e,f,i,k,m,o,())) R.at2.at3.at1 lq) ?_;rintro _ tu ⟨w,P,tv,rfl,rfl,c9⟩;refine⟨P,rfl,?_⟩;refine kD u rfl (λu=>?_) (λu=>?_)
   ·refine AA c9.at9 rfl ?_;have⟨fr,lr,u⟩:=bS u;obtain⟨tw,tx,ls,lt,lu,fs⟩:=(d8.up (ψ:=w)).get lr;refine AF _ ls (Am lt ?_);obtain rfl:=lu;refine AL (x:=fr) (AM (lB sb c9.sub) (fs 0 _ rfl)) rfl ?_;have⟨lv,ty,tz,u0,u1,u2,u3,fv,lw⟩:=GD c9.at2;obtain rfl:E=lv:=by simpa using fv
    clear fv;refine AG lw.at6 rfl rfl λu4 lx=>AG lx rfl rfl λu5 ly=>AG ly rfl rfl λu6 lz=>AG lz rfl rfl λu7 m0=>AG m0 rfl rfl λu8 m1=>AG m1 rfl rfl λu9 X=>AI (AM (lB sb X.sub) (fs 0 _ rfl))<|AI (lJ (b:=D) (j:=1) X.at15 rfl)<|AA (x:=((none,0,0):Slc)) X rfl<|AA (x:=((none,0,0):Slc)) X rfl<|AA (x:=((none,0,0):Slc)) X rfl<|AA (x:=((none,0,0):Slc)) X rfl<|AA (x:=((none,0,0):Slc)) X rfl<|AA (x:=((none,0,0):Slc)) X rfl ?_;obtain rfl:=iS u;obtain rfl:=lp _ rfl;obtain rfl:=iS a0;obtain rfl:=fa _ rfl;obtain rfl:=iS hd;exact Ak (Al (Ak (Al (AB ⟨w,((((none,0,0):Slc),((none,0,0):Slc),((none,0,0):Slc),((none,0,0):Slc),((none,0,0):Slc),((none,0,0):Slc),()),(16:Int),fr,()),[],[],[],[],[],[],sb,rfl,rfl,(bO hC w),(bO hC w),(bO CB w),(bO (hA .i64) w),(bO (hA .i64) w),(bO hC w),X.tail.tail.tail.tail.tail.tail.tail.tail.tail.tail.tail.tail.tail.tail.tail.tail.tail.tail⟩))))
   obtain⟨m2,ua,fz,ub,m3⟩:=c9.at3.open;obtain rfl:C=m2:=by simpa using fz
   clear fz;obtain⟨uc,ud,rfl,ue,m4⟩:=m3.at1.pair;obtain⟨m5,m6⟩:=m4.ro;subst m5;obtain⟨uf,ug,rfl,uh,g0⟩:=m6.pair;obtain⟨g1,m7⟩:=g0.rowCs;subst m7;obtain⟨m8,m9⟩:=g0.at1.ro;subst m8;have g2:St w (cR 3 (hA .i64) g1 s.2.1::cW 57 C [.int .i64 s.1,sv g1,.int .i64 s.2.2]::cR 9 hC e c.1::cR 9 hC f c.2.1::cO 32 IM (jX E) bl::cR 9 hC o c.2.2.2.2.2::cR 3 (hA .i64) m c.2.2.2.2.1::cR 3 (hA .i64) k c.2.2.2.1::cR 57 CB i c.2.2.1::cW 32 B [sv e,sv f,sv i,sv k,sv m,sv o]::cW 169 D [.string d.1,sv L,.string d.2.2.1,.string d.2.2.2]::cR 57 CB z q.2.2.1::Wq1 G A::F) _:=m9;refine AA g2.at1 rfl<|AU (vs:=[.int .i64 P]) g2 λy5 ui g3=> ?_;have⟨bz,ma,u⟩:=bS u;refine AZ (r:=(hA .i64)) (ms:=([P]:List Int)) Ci g3.tail rfl (lU g3) (.cons (a:=[_]) rfl .nil) rfl ma ?_;intro y6 uj mb;refine AG mb.at1 rfl rfl λuk g4=>AA g4.at9 rfl ?_;have mc:=lX (r:=(hA .i64)) (cs:=[.int .i64 s.1]) (x:=(s.1)) (lC ((lX (r:=(hA .i64)) (cs:=[.int .i64 s.2.2]) (x:=(s.2.2)) g4.at1 rfl).at1)) rfl;have ch:St w (cO 57 Rq1 (jX C) (s.1,bz,s.2.2)::cR 9 hC e c.1::cR 9 hC f c.2.1::cO 32 IM (jX E) bl::cR 9 hC o c.2.2.2.2.2::cR 3 (hA .i64) m c.2.2.2.2.1::cR 3 (hA .i64) k c.2.2.2.1::cR 57 CB i c.2.2.1::cW 32 B [sv e,sv f,sv i,sv k,sv m,sv o]::cW 169 D [.string d.1,sv L,.string d.2.2.1,.string d.2.2.2]::cR 57 CB z q.2.2.1::Wq1 G A::F) _:=nY (lC mc).at1;have⟨md,bf,u⟩:=bS u;refine Ad (λy J g=>∃ψ:AD,∃g5:BM,Sub w ψ∧g5=g∧St ψ (cO 57 Rq1 (jX C) g5::cR 9 hC e c.1::cR 9 hC f c.2.1::cO 32 IM (jX E) bl::cR 9 hC o c.2.2.2.2.2::cR 3 (hA .i64) m c.2.2.2.2.1::cR 3 (hA .i64) k c.2.2.2.1::cR 57 CB i c.2.2.1::cW 32 B [sv e,sv f,sv i,sv k,sv m,sv o]::cW 169 D [.string d.1,sv L,.string d.2.2.1,.string d.2.2.2]::cR 57 CB z q.2.2.1::Wq1 G A::F) J) (g:=md) ?_ ?_
   ·refine kD bf (by rw[lc] <;>rfl) (λbf=>?_) (λbf=>?_)
    ·refine AA ch.at8 rfl<|gxO ch.at6 bf λcl bf=> ?_;obtain⟨me,ul,g6,um,mf⟩:=ch.open;obtain rfl:C=me:=by simpa using g6
     clear g6;obtain⟨un,uo,rfl,uq,mg⟩:=mf.at1.pair;obtain⟨mh,mi⟩:=mg.ro;subst mh;obtain⟨ur,us,rfl,ut,g7⟩:=mi.pair;obtain⟨g8,mj⟩:=g7.rowCs;subst mj;obtain⟨mk,ml⟩:=g7.at1.ro;subst mk;have mm:St w (cR 3 (hA .i64) g8 bz::cW 57 C [.int .i64 (s.1),sv g8,.int .i64 (s.2.2)]::cR 9 hC e c.1::cR 9 hC f c.2.1::cO 32 IM (jX E) bl::cR 9 hC o c.2.2.2.2.2::cR 3 (hA .i64) m c.2.2.2.2.1::cR 3 (hA .i64) k c.2.2.2.1::cR 57 CB i c.2.2.1::cW 32 B [sv e,sv f,sv i,sv k,sv m,sv o]::cW 169 D [.string d.1,sv L,.string d.2.2.1,.string d.2.2.2]::cR 57 CB z q.2.2.1::Wq1 G A::F) _:=ml;refine AG mm.at1 rfl rfl λuu mn=> ?_;have mo:=lX (r:=(hA .i64)) (cs:=[.int .i64 (s.1)]) (x:=(s.1)) (lC ((lX (r:=(hA .i64)) (cs:=[.int .i64 cl]) (x:=cl) mn.at1 rfl).at1)) rfl;have mp:St w (cO 57 Rq1 (jX C) ((s.1),bz,cl)::cR 9 hC e c.1::cR 9 hC f c.2.1::cO 32 IM (jX E) bl::cR 9 hC o c.2.2.2.2.2::cR 3 (hA .i64) m c.2.2.2.2.1::cR 3 (hA .i64) k c.2.2.2.1::cR 57 CB i c.2.2.1::cW 32 B [sv e,sv f,sv i,sv k,sv m,sv o]::cW 169 D [.string d.1,sv L,.string d.2.2.1,.string d.2.2.2]::cR 57 CB z q.2.2.1::Wq1 G A::F) _:=nY (lC mo).at1;exact jY rfl ⟨w,((s.1),bz,cl),sb,iS bf,mp.at11.at11.at11.at11.at11.at11.at11.at11.at11.at11.at11.at11⟩
    exact jY rfl ⟨w,(s.1,bz,s.2.2),sb,iS bf,ch.at11.at11.at11.at11.at11.at11.at11.at11.at11.at11.at11.at11⟩
   rintro y7 uv ⟨mq,mr,uw,rfl,mu⟩;obtain rfl:=iS u;exact jZ rfl rfl ⟨mq,bl,mr,sb,lo,rfl,mu.at11.at11.at11.at11.at11.at11.at11.at11.at10.at10.at10.at11⟩
  ·rintro _ j8 ux _ ⟨mv,mw,mx,uy,rfl,rfl,g9⟩ my mz;subst mz;refine AA g9.at9 rfl<|AW (dF fd my)<|AO (kB rfl ⟨_,rfl,_,mv,mw,mx,sb,rfl,rfl,g9.at11.at11.at11.at11.at11.at11.at11.at11.at11.at11.at11.at11⟩)
  rintro y8 uz ⟨_,rfl,_,gc,cm,S,v0,_,rfl,Y⟩;refine AA Y.at9 rfl ?_;have⟨n0,Q,a0⟩:=bS a0;refine Ad (λy J g=>∃ψ:AD,∃gd:BM,∃gf:As,Sub gc ψ∧lW (gd,gf)=g∧St ψ (cO 57 Rq1 (jX C) gd::cO 32 IM (jX E) gf::cR 9 hC e c.1::cR 9 hC f c.2.1::cR 9 hC o c.2.2.2.2.2::cR 3 (hA .i64) m c.2.2.2.2.1::cR 3 (hA .i64) k c.2.2.2.1::cR 57 CB i c.2.2.1::cW 32 B [sv e,sv f,sv i,sv k,sv m,sv o]::cW 169 D [.string d.1,sv L,.string d.2.2.1,.string d.2.2.2]::cR 57 CB z q.2.2.1::Wq1 G A::F) J) (g:=n0) ?_ ?_
  ·refine kD Q rfl (λQ=>?_) (λQ=>?_)
   ·refine AA Y.at11 rfl<|AA Y.at11 rfl<|AA Y.at11 rfl<|AA Y.at11 rfl<|AA Y.at11 rfl<|AA Y.at9 rfl ?_;have⟨v1,n1,Q⟩:=bS Q;refine AE (Fk (A:=(A.1,A.2.1,A.2.2.1,A.2.2.2.1,A.2.2.2.2.1,())) b5.up d1.up bs.up b6.up Y n1) ?_;rintro _ v2 ⟨T,I,v3,rfl,rfl,n2⟩;refine⟨I,rfl,?_⟩;obtain⟨n3,v4,gg,v5,n4⟩:=n2.at1.open;obtain rfl:C=n3:=by simpa using gg
    clear gg;obtain⟨v6,v7,rfl,v8,n5⟩:=n4.at1.pair;obtain⟨n6,n7⟩:=n5.ro;subst n6;obtain⟨v9,va,rfl,vb,gj⟩:=n7.pair;obtain⟨gk,n8⟩:=gj.rowCs;subst n8;obtain⟨n9,na⟩:=gj.at1.ro;subst n9;have nb:St T (cR 3 (hA .i64) gk S.2.1::cW 57 C [.int .i64 S.1,sv gk,.int .i64 S.2.2]::cO 32 IM (jX E) cm::cR 9 hC e c.1::cR 9 hC f c.2.1::cR 9 hC o c.2.2.2.2.2::cR 3 (hA .i64) m c.2.2.2.2.1::cR 3 (hA .i64) k c.2.2.2.1::cR 57 CB i c.2.2.1::cW 32 B [sv e,sv f,sv i,sv k,sv m,sv o]::cW 169 D [.string d.1,sv L,.string d.2.2.1,.string d.2.2.2]::cR 57 CB z q.2.2.1::Wq1 G A::F) _:=na;refine AG nb.at1 rfl rfl λvc cp=>AA cp rfl<|kD Q rfl (λQ=>?_) (λQ=>?_)
    ·refine AA cp.at10 rfl ?_;have⟨nc,vd,ve,vf,vg,vh,vi,gl,nd⟩:=GD cp.at2;obtain rfl:E=nc:=by simpa using gl
     clear gl;refine AG nd.at6 rfl rfl λvj nf=>AG nf rfl rfl λvk ng=>AG ng rfl rfl λvl nh=>AG nh rfl rfl λvm ni=>AG ni rfl rfl λvn nj=>AG nj rfl rfl λvo b8=>AI (lJ (b:=D) (j:=2) b8.at16 rfl)<|AA (x:=((none,0,0):Slc)) b8 rfl<|AA (x:=((none,0,0):Slc)) b8 rfl<|AA (x:=((none,0,0):Slc)) b8 rfl<|AA (x:=((none,0,0):Slc)) b8 rfl<|AA (x:=((none,0,0):Slc)) b8 rfl<|AA (x:=((none,0,0):Slc)) b8 rfl ?_;obtain rfl:=iS Q;obtain rfl:=iS a0;obtain rfl:=fa _ rfl;obtain rfl:=iS hd;exact ZE (Ak (Al (AB ⟨T,((((none,0,0):Slc),((none,0,0):Slc),((none,0,0):Slc),((none,0,0):Slc),((none,0,0):Slc),((none,0,0):Slc),()),(16:Int),d.2.2.1,()),[],[],[],[],[],[],sb,rfl,rfl,(bO hC T),(bO hC T),(bO CB T),(bO (hA .i64) T),(bO (hA .i64) T),(bO hC T),b8.tail.tail.tail.tail.tail.tail.tail.tail.tail.tail.tail.tail.tail.tail.tail.tail.tail.tail.tail⟩)))
    have nk:=lX (r:=(hA .i64)) (cs:=[.int .i64 S.1]) (x:=(S.1)) (lC ((lX (r:=(hA .i64)) (cs:=[.int .i64 I]) (x:=I) cp.at1 rfl).at1)) rfl;have nl:St T (cO 57 Rq1 (jX C) (S.1,S.2.1,I)::cO 32 IM (jX E) cm::cR 9 hC e c.1::cR 9 hC f c.2.1::cR 9 hC o c.2.2.2.2.2::cR 3 (hA .i64) m c.2.2.2.2.1::cR 3 (hA .i64) k c.2.2.2.1::cR 57 CB i c.2.2.1::cW 32 B [sv e,sv f,sv i,sv k,sv m,sv o]::cW 169 D [.string d.1,sv L,.string d.2.2.1,.string d.2.2.2]::cR 57 CB z q.2.2.1::Wq1 G A::F) _:=nY (lC nk).at1;exact jY rfl ⟨T,(S.1,S.2.1,I),cm,sb,iS Q,nl.at11.at11.at11.at11.at11.at11.at11.at11.at11.at11.at11.at11⟩
   exact jY rfl ⟨gc,S,cm,sb,iS Q,Y.at11.at11.at11.at11.at11.at11.at11.at11.at11.at11.at10.at11⟩
  rintro y9 vp ⟨nm,U,gn,vq,rfl,go⟩;refine AA go.at8 rfl ?_;obtain⟨nn,vr,gp,vt,np⟩:=go.open;obtain rfl:C=nn:=by simpa using gp
  clear gp;obtain⟨vu,vv,rfl,vw,nq⟩:=np.at1.pair;obtain⟨nr,ns⟩:=nq.ro;subst nr;obtain⟨vx,vy,rfl,vz,gr⟩:=ns.pair;obtain⟨c0,nt⟩:=gr.rowCs;subst nt;obtain⟨nu,nv⟩:=gr.at1.ro;subst nu;have cu:St nm (cR 3 (hA .i64) c0 U.2.1::cW 57 C [.int .i64 U.1,sv c0,.int .i64 U.2.2]::cO 32 IM (jX E) gn::cR 9 hC e c.1::cR 9 hC f c.2.1::cR 9 hC o c.2.2.2.2.2::cR 3 (hA .i64) m c.2.2.2.2.1::cR 3 (hA .i64) k c.2.2.2.1::cR 57 CB i c.2.2.1::cW 32 B [sv e,sv f,sv i,sv k,sv m,sv o]::cW 169 D [.string d.1,sv L,.string d.2.2.1,.string d.2.2.2]::cR 57 CB z q.2.2.1::Wq1 G A::F) _:=nv;refine AA (x:=(U.1)) cu.at1 rfl<|AA cu.at1 rfl<|AA (x:=(U.2.2)) cu.at1 rfl<|AU (vs:=[.int .i64 U.1,sv c0,.int .i64 U.2.2]) cu λz0 w0 nw=> ?_;have⟨nx,w1,ny,gs⟩:=kJ (t:=c0) nw.at1;have⟨nz,o0,a0⟩:=bS a0;refine AZ (r:=CB) (ms:=([(U.1,U.2.1,U.2.2)]:List BM)) Vx gs.tail.at7 rfl (lU gs) (.cons (a:=[_,_,_]) ⟨[_],_,rfl,rfl,⟨[_],_,rfl,⟨c0,rfl,ny⟩,rfl⟩⟩ .nil) rfl o0 ?_;intro z1 w2 o1;refine AG o1.at8 rfl rfl λw3 o2=> ?_;obtain rfl:=iS a0;exact jZ rfl rfl ⟨nx,gn,(c.1,c.2.1,nz,c.2.2.2.1,c.2.2.2.2.1,c.2.2.2.2.2),sb,kv,rfl,(((((((JC o2.at4.at5.at3.at8.at8.at8.at6.at6.at6.at6.at6.at6.at6).at1.tail).at2.tail).at3).at3).at2).at3)⟩
 ·rintro _ j6 w4 _ ⟨o3,o4,o5,w5,rfl,rfl,gv⟩ o6 o7;subst o7;refine AA gv.at3 rfl<|AW (dF c1 o6)<|AO (kB rfl ⟨_,rfl,_,o3,o4,o5,sb,rfl,rfl,gv.at3.at3.at3.at3⟩)
 rintro z97 w6 ⟨_,rfl,_,w7,w8,bp,w9,_,rfl,o8⟩;have⟨o9,h0,h1,h2,h3,h4,h5,h6,dd⟩:=GD o8.at1;obtain rfl:B=o9:=by simpa using h6
 clear h6;refine AA dd.at6 rfl<|AA dd.at9 rfl ?_;have⟨wa,oa,hd⟩:=bS hd;refine AE (Bp dd.at4 oa) ?_;rintro _ wb ⟨bg,j9,wc,rfl,rfl,Z⟩;refine⟨j9,rfl,?_⟩;refine kD hd rfl (λhd=>?_) (λhd=>?_)
 ·refine AA Z.at9 rfl ?_;have⟨ob,wd,we,wf,wg,wh,wi,h7,oc⟩:=GD Z.at7;obtain rfl:E=ob:=by simpa using h7
  clear h7;refine AG oc.at6 rfl rfl λwj od=>AG od rfl rfl λwk oe=>AG oe rfl rfl λwl og=>AG og rfl rfl λwm oh=>AG oh rfl rfl λwn oi=>AG oi rfl rfl λwo b9=>AI (lJ (b:=G) (j:=3) b9.at15 rfl)<|AA (x:=((none,0,0):Slc)) b9 rfl<|AA (x:=((none,0,0):Slc)) b9 rfl<|AA (x:=((none,0,0):Slc)) b9 rfl<|AA (x:=((none,0,0):Slc)) b9 rfl<|AA (x:=((none,0,0):Slc)) b9 rfl<|AA (x:=((none,0,0):Slc)) b9 rfl ?_;exact AB ⟨bg,((((none,0,0):Slc),((none,0,0):Slc),((none,0,0):Slc),((none,0,0):Slc),((none,0,0):Slc),((none,0,0):Slc),()),(16:Int),A.2.2.2.1,()),[],[],[],[],[],[],sb,rfl,iS hd,(bO hC bg),(bO hC bg),(bO CB bg),(bO (hA .i64) bg),(bO (hA .i64) bg),(bO hC bg),b9.tail.tail.tail.tail.tail.tail.tail.tail.tail.tail.tail.tail.tail.tail.tail.tail⟩
 refine AA Z.at6 rfl<|AA Z.at6 rfl<|AA Z.at6 rfl<|AA Z.at6 rfl<|AA Z.at6 rfl<|AA Z.at6 rfl ?_;have⟨oj,wp,wq,wr,ws,wt,wu,h8,ok⟩:=GD Z.at7;obtain rfl:E=oj:=by simpa using h8
 clear h8;refine AG ok.at6 rfl rfl λwv ol=>AG ol rfl rfl λww om=>AG om rfl rfl λwx on=>AG on rfl rfl λwy oo=>AG oo rfl rfl λwz op=>AG op rfl rfl λx0 bi=>AA bi rfl<|AA bi rfl<|AA bi rfl<|AA bi rfl<|AA bi rfl<|AA bi rfl ?_;have⟨x1,x2,oq,os⟩:=kJ (t:=h0) bi.at12;have⟨x3,x4,ot,ou⟩:=kJ (t:=h1) os.at7;have⟨x5,x6,ov,ow⟩:=kJ (t:=h2) ou.at10;have⟨x7,x8,ox,oy⟩:=kJ (t:=h3) ow.at9;have⟨x9,xa,oz,p0⟩:=kJ (t:=h4) oy.at8;have⟨p1,xb,p2,p3⟩:=kJ (t:=h5) p0.at7;exact AB ⟨p1,((h0,h1,h2,h3,h4,h5,()),(0:Int),{data:=#[]},()),bp.1,bp.2.1,bp.2.2.1,bp.2.2.2.1,bp.2.2.2.2.1,bp.2.2.2.2.2,sb,rfl,iS hd,oq.up,ot.up,ov.up,ox.up,oz.up,p2,p3.tail.tail.tail.tail.tail.tail.tail.tail.tail.tail⟩
noncomputable def CS (s_0:J1):Option (List ByteArray×List ByteArray×List BM×List Int×List Int×List ByteArray):=(B5 (s_0.1,s_0.2.1,s_0.2.2.1,s_0.2.2.2.1,s_0.2.2.2.2.1,s_0.2.2.2.2.2.1,s_0.2.2.2.2.2.2)).bind λb=>(D8 (b.1,b.2.1,b.2.2.1,b.2.2.2.1,b.2.2.2.2)).bind λa=>some (a.1,a.2.1,a.2.2.1,a.2.2.2.1,a.2.2.2.2.1,a.2.2.2.2.2.1)
theorem HH {A:Int×Int×Slc×Slc×Slc×Slc×Slc×Unit}{d:List Int}{e:List (List Int)}{f:List Int}{g:List Int}{i:List Int}(p:hM (hA .u8) φ A.2.2.1 d) (q:hM (Ro.list (hA .u8)) φ A.2.2.2.1 e) (s:hM (hA .u8) φ A.2.2.2.2.1 f) (t:hM (hA .u8) φ A.2.2.2.2.2.1 g) (u:hM (hA .u8) φ A.2.2.2.2.2.2.1 i) (D:St φ F h) {r:(List ByteArray×List ByteArray×List BM×List Int×List Int×List ByteArray)}(hd:CS (A.1,A.2.1,d,e,f,g,i)=some r):
 CallsH kG 29 [(.agg #[(.int .u8 A.1),(.int .u8 A.2.1),(sv A.2.2.1),(sv A.2.2.2.1),(sv A.2.2.2.2.1),(sv A.2.2.2.2.2.1),(sv A.2.2.2.2.2.2.1)])] h (Ae λv E=>∃ψ:AD,∃y:Pl6,∃j:List ByteArray,∃k:List ByteArray,∃l:List BM,∃m:List Int,∃n:List Int,∃o:List ByteArray,Sub φ ψ∧v=((.one (.agg [.slice,.slice,.slice,.slice,.slice,.slice])):Sh).val y∧(j,k,l,m,n,o)=r∧hM hC ψ y.1 j∧hM hC ψ y.2.1 k∧hM CB ψ y.2.2.1 l∧hM (hA .i64) ψ y.2.2.2.1 m∧hM (hA .i64) ψ y.2.2.2.2.1 n∧hM hC ψ y.2.2.2.2.2.1 o∧St ψ F E):=by refine AN mixed func29 (HG ..)<|AU (vs:=[.int .u8 A.1,.int .u8 A.2.1,sv A.2.2.1,sv A.2.2.2.1,sv A.2.2.2.2.1,sv A.2.2.2.2.2.1,sv A.2.2.2.2.2.2.1]) D λr1 bl w=>AU (vs:=[.slice none 0 0,.slice none 0 0,.slice none 0 0,.slice none 0 0,.slice none 0 0,.slice none 0 0]) w λr2 bp a=>AA a.at1 rfl<|AA a.at1 rfl<|AA a.at1 rfl<|AA a.at1 rfl<|AA a.at1 rfl<|AA a.at1 rfl<|AA a.at1 rfl ?_;have⟨bs,x,hd⟩:=bS hd;refine AE (GG (A:=(A.1,A.2.1,A.2.2.1,A.2.2.2.1,A.2.2.2.2.1,A.2.2.2.2.2.1,A.2.2.2.2.2.2.1,())) p q s t u a x) ?_;rintro _ bt ⟨bw,C,bx,bz,c0,c1,c2,rfl,rfl,z,a0,G,H,I⟩;refine⟨C,rfl,?_⟩;have⟨c3,J,hd⟩:=bS hd;refine AE (MP (A:=(C.1,C.2.1,C.2.2.1,C.2.2.2.1,C.2.2.2.2.1,())) z a0 G H I J) ?_;rintro _ c4 ⟨K,B,L,M,N,O,P,al,c5,rfl,rfl,ap,Q,b1,R,S,T,U⟩;refine⟨B,rfl,?_⟩;refine AU (vs:=[.slice none 0 0,.slice none 0 0,.slice none 0 0,.slice none 0 0,.slice none 0 0,.slice none 0 0]) U λV c6 W=>AG W rfl rfl λc7 X=>AG X rfl rfl λc8 Y=>AG Y rfl rfl λc9 Z=>AG Z rfl rfl λch ba=>AG ba rfl rfl λcl bb=>AG bb rfl rfl λcm b=>AA b rfl<|AA b rfl<|AA b rfl<|AA b rfl<|AA b rfl<|AA b rfl<|AG b.at1 rfl rfl λcp bd=>AG bd rfl rfl λcs bf=>AG bf rfl rfl λcu bg=>AG bg rfl rfl λcw bi=>AG bi rfl rfl λcx bj=>AG bj rfl rfl λd0 c=>AA c rfl<|AA c rfl<|AA c rfl<|AA c rfl<|AA c rfl<|AA c rfl ?_;exact AB ⟨K,(B.1.1,B.1.2.1,B.1.2.2.1,B.1.2.2.2.1,B.1.2.2.2.2.1,B.1.2.2.2.2.2.1,()),L,M,N,O,P,al,sb,rfl,iS hd,ap,Q,b1,R,S,T,c.tail.tail.tail⟩
end
end Go.Proofs.YtnlkgidlfnefbaaGreatDoor
namespace Go.Eng
open Go
theorem Bu {α:Type}(l:List α) (k:Nat):idx l (k:Int)=l[k]? :=by unfold idx;rw[if_pos (by omega),lR]
theorem JM {α:Type}{l:List α}{i:Int}(a:0≤i) (b:i.toNat<l.length):idx l i=some l[i.toNat]:=by unfold idx;rw[if_pos a,eE b]
theorem GI {α:Type}{l:List α}{k:Nat}(h:k<l.length):idx l (k:Int)=some l[k]:=by rw[Bu,eE h]
theorem Vy {α:Type}{l m:List α}(h:l.length+m.length≤1099512676352):app l m=some (l++m):=by unfold app;rw[if_pos h]
theorem cut_ok {α:Type}{l:List α}{a b:Int}(c:0≤a) (d:a≤b) (e:b≤(l.length:Int)):cut l a b=some ((l.take b.toNat).drop a.toNat):=by unfold cut;rw[if_pos ⟨c,d,e⟩]
theorem IA {α:Type}{l:List α}{i:Int}{x:α}(a:0≤i) (b:i< (l.length:Int)):Ea l i x=some (l.set i.toNat x):=by unfold Ea;rw[if_pos ⟨a,b⟩]
theorem Fl {α:Type}{p:Prop}[Decidable p] (h:p) (k:Option α):need p k=k:=by unfold need;rw[if_pos h]
theorem Qj {σ:Type}{f:Int→σ→Option σ}(I:Int→σ→Prop):∀(n:Nat) (i:Int) (s:σ),I i s→(∀j s,i≤j→j<i+n→I j s→ ∃s',f j s=some s'∧I (j+1) s')→ ∃s',NA f n i s=some s'∧I (i+n) s':=by
 intro n
 induction n with
 |zero=>intro i s a _;exact⟨s,rfl,by simpa using a⟩
 |succ n d=>
  intro i s a c;obtain⟨s',e,g⟩:=c i s (nQ _) (by omega) a;obtain⟨b,h,k⟩:=d (i+1) s' g λj s m l=>c j s (by omega) (by omega);refine⟨b,by simp only[NA];rw[e];exact h,?_⟩;rw[show i+(n+1:Nat)=i+1+n by omega];exact k
theorem CF {σ:Type}{f:Int→σ→Option σ}{n:Nat}(I:Nat→σ→Prop) (l:n≤9223372036854775807) {s:σ}(c:I 0 s) (d:∀k s,k<n→I k s→ ∃s',f (k:Int) s=some s'∧I (k+1) s'):∃s',forS 0 (n:Int) s f=some s'∧I n s':=by
 unfold forS;rw[if_pos ⟨by omega,by omega⟩];obtain⟨s',b,a⟩:=Qj (f:=f) (λi s=>I i.toNat s) ((n:Int) - 0).toNat 0 s (by simpa using c) λj s m g h=>by
  obtain⟨s',b,a⟩:=d j.toNat s (by omega) h;refine⟨s',by rw[←b,show(j.toNat:Int)=j by omega],by rw[show(j+1).toNat=j.toNat+1 by omega];exact a⟩
 refine⟨s',b,?_⟩;have e:((0:Int)+(((n:Int) - 0).toNat:Nat)).toNat=n:=by omega
 rw[e]at a;exact a
theorem YD {σ β:Type}{f:Int→σ→Option (AY σ β)}(I:Int→σ→Prop) (B:β→Prop):∀(n:Nat) (i:Int) (s:σ),I i s→(∀j s,i≤j→j<i+n→I j s→(∃s',f j s=some (.next s')∧I (j+1) s')∨ ∃b,f j s=some (.done b)∧B b)→
 (∃s',Jp f n i s=some (.next s')∧I (i+n) s')∨ ∃b,Jp f n i s=some (.done b)∧B b:=by
 intro n
 induction n with
 |zero=>intro i s c _;exact .inl ⟨s,rfl,by simpa using c⟩
 |succ n l=>
  intro i s c k;rcases k i s (nQ _) (by omega) c with⟨s',a,d⟩|⟨b,a,d⟩
  ·rcases l (i+1) s' d λj s o m=>k j s (by omega) (by omega) with⟨e,g,h⟩|⟨b,g,h⟩
   ·left
    refine⟨e,by simp only[Jp];rw[a];exact g,?_⟩;rw[show i+(n+1:Nat)=i+1+n by omega];exact h
   ·exact .inr ⟨b,by simp only[Jp];rw[a];exact g,h⟩
  ·exact .inr ⟨b,by simp only[Jp];rw[a];rfl,d⟩
theorem K9 {σ β:Type}{f:Int→σ→Option (AY σ β)}{n:Nat}(I:Nat→σ→Prop) (B:β→Prop) (o:n≤9223372036854775807) {s:σ}(d:I 0 s)
 (g:∀k s,k<n→I k s→(∃s',f (k:Int) s=some (.next s')∧I (k+1) s')∨ ∃b,f (k:Int) s=some (.done b)∧B b):
 (∃s',DF 0 (n:Int) s f=some (.next s')∧I n s')∨ ∃b,DF 0 (n:Int) s f=some (.done b)∧B b:=by
 unfold DF;rw[if_pos ⟨by omega,by omega⟩];rcases YD (λi s=>I i.toNat s) B ((n:Int) - 0).toNat 0 s (by simpa using d) (λj s p l m=>by
  have e:(j.toNat:Int)=j:=by omega
  rcases g j.toNat s (by omega) m with⟨s',c,a⟩|⟨b,c,a⟩
  ·exact .inl ⟨s',by rw[←c,e],by rw[show(j+1).toNat=j.toNat+1 by omega];exact a⟩
  ·exact .inr ⟨b,by rw[←c,e],a⟩) with⟨s',c,a⟩|h
 ·left
  refine⟨s',c,?_⟩;have e:((0:Int)+(((n:Int) - 0).toNat:Nat)).toNat=n:=by omega
  rw[e]at a;exact a
 ·exact .inr h
theorem ZI {σ β:Type}{f:Int→σ→Option (AY σ β)}{n:Nat}(I:Nat→σ→Prop) (a:n≤9223372036854775807) {s:σ}(b:I 0 s)
 (c:∀k s,k<n→I k s→ ∃s',f (k:Int) s=some (.next s')∧I (k+1) s'):∃s',DF 0 (n:Int) s f=some (.next s')∧I n s':=by
 rcases K9 I (λ_=>False) a b (λk s d e=>.inl (c k s d e)) with h | ⟨_,_,h⟩
 ·exact h
 ·exact h.elim
theorem ZJ {σ β:Type}{f:σ→Option (AY σ β)}(I:σ→Prop) (μ:σ→Nat) (B:β→Prop) (d:∀s,I s→(∃s',f s=some (.next s')∧I s'∧μ s'<μ s)∨ ∃b,f s=some (.done b)∧B b):∀ {s:σ},I s→ ∃b,loop s f=some b∧B b:=by
 intro s
 generalize h:μ s=m
 induction m using Nat.strongRecOn generalizing s with
 |ind m e=>
  intro g;rw[GO];rcases d s g with⟨s',a,c,i⟩|⟨b,a,c⟩
  ·rw[a];exact e (μ s') (by omega) rfl c
  ·rw[a];exact⟨b,rfl,c⟩
def Ok {α:Type}(o:Option α) (P:α→Prop):Prop:= ∃x,o=some x∧P x
section
variable {α β γ σ:Type}{P:γ→Prop}{k:α→Option γ}
theorem Ok.eq {o:Option α}{x:α}(h:Ok o (· =x)):o=some x:=by obtain⟨y,a,b⟩:=h;rw[a];exact congrArg some b
theorem Ok.of {o:Option α}{x:α}{Q:α→Prop}(h:o=some x) (a:Q x):Ok o Q:=⟨x,h,a⟩
theorem Ok.mono {o:Option α}{Q R:α→Prop}(h:Ok o Q) (a:∀x,Q x→R x):Ok o R:=by obtain⟨x,b,c⟩:=h;exact⟨x,b,a x c⟩
theorem AC {x:γ}(h:P x):Ok (some x) P:=⟨x,rfl,h⟩
theorem AP {o:Option α}{Q:α→Prop}(h:Ok o Q) (a:∀x,Q x→Ok (k x) P):Ok (o.bind k) P:=by obtain⟨x,b,c⟩:=h;rw[b];exact a x c
theorem AJ {o:Option α}{x:α}(h:o=some x) (a:Ok (k x) P):Ok (o.bind k) P:=by rw[h];exact a
theorem Bn {p:Prop}{d:Decidable p}{o:Option γ}(h:p) (a:Ok o P):Ok (@need γ p d o) P:=by
 have: @need γ p d o=o:=by unfold need;exact if_pos h
 rw[this];exact a
theorem Ap {c:Bool}{x y:Option γ}(h:c=true) (a:Ok x P):Ok (cond c x y) P:=by subst h;exact a
theorem AS {c:Bool}{x y:Option γ}(h:c=false) (a:Ok y P):Ok (cond c x y) P:=by subst h;exact a
theorem Af {c:Bool}{x y:Option γ}(a:c=true→Ok x P) (b:c=false→Ok y P):Ok (cond c x y) P:=by
 cases c with
 |true=>exact a rfl
 |false=>exact b rfl
theorem Ep {l:List α}{i:Int}{x:α}(a:0≤i) (h:l[i.toNat]? =some x) (b:Ok (k x) P):Ok ((idx l i).bind k) P:=by unfold idx;rw[if_pos a,h];exact b
theorem AX {l:List α}{i:Nat}{x:α}(h:l[i]? =some x) (a:Ok (k x) P):Ok ((idx l (i:Int)).bind k) P:=by rw[Bu,h];exact a
theorem BL {l m:List α}{k:List α→Option γ}(h:l.length+m.length≤1099512676352) (a:Ok (k (l++m)) P):Ok ((app l m).bind k) P:=by rw[Vy h];exact a
theorem JN {l:List α}{i:Int}{x:α}{k:List α→Option γ}(a:0≤i) (b:i< (l.length:Int)) (c:Ok (k (l.set i.toNat x)) P):Ok ((Ea l i x).bind k) P:=by rw[IA a b];exact c
theorem B0 {f:Int→σ→Option σ}{n:Nat}{s:σ}{k:σ→Option γ}(I:Nat→σ→Prop) (a:n≤9223372036854775807) (b:I 0 s) (c:∀j s,j<n→I j s→Ok (f (j:Int) s) (I (j+1))) (d:∀s',I n s'→Ok (k s') P):
 Ok ((forS 0 (n:Int) s f).bind k) P:=by obtain⟨s',e,g⟩:=CF I a b c;rw[e];exact d s' g
theorem Dp {f:Int→σ→Option (AY σ β)}{n:Nat}{s:σ}{k:AY σ β→Option γ}(I:Nat→σ→Prop) (c:n≤9223372036854775807) (d:I 0 s) (g:∀j s,j<n→I j s→Ok (f (j:Int) s) (λe=>∃s',e= .next s'∧I (j+1) s')) (h:∀s',I n s'→Ok (k (.next s')) P):
 Ok ((DF 0 (n:Int) s f).bind k) P:=by
 obtain⟨s',a,b⟩:=ZI I c d (λj s i l=>by
  obtain⟨e,a,s',rfl,b⟩:=g j s i l;exact⟨s',a,b⟩)
 rw[a];exact h s' b
theorem Il {f:Int→σ→Option (AY σ β)}{n:Nat}{s:σ}{k:AY σ β→Option γ}(I:Nat→σ→Prop) (B:β→Prop) (d:n≤9223372036854775807) (g:I 0 s) (h:∀j s,j<n→I j s→Ok (f (j:Int) s) (λe=>(∃s',e= .next s'∧I (j+1) s')∨ ∃b,e= .done b∧B b))
 (i:∀s',I n s'→Ok (k (.next s')) P) (l:∀b,B b→Ok (k (.done b)) P):
 Ok ((DF 0 (n:Int) s f).bind k) P:=by
 rcases K9 I B d g (λj s m o=>by
  have⟨e,c,a⟩:=h j s m o;rcases a with⟨s',rfl,a⟩|⟨b,rfl,a⟩
  ·exact .inl ⟨s',c,a⟩
  ·exact .inr ⟨b,c,a⟩) with⟨s',c,a⟩|⟨b,c,a⟩
 ·rw[c];exact i s' a
 ·rw[c];exact l b a
theorem E8 {f:σ→Option (AY σ β)}{s:σ}{k:β→Option γ}(I:σ→Prop) (μ:σ→Nat) (B:β→Prop) (d:I s) (g:∀s,I s→Ok (f s) (λe=>(∃s',e= .next s'∧I s'∧μ s'<μ s)∨ ∃b,e= .done b∧B b)) (h:∀b,B b→Ok (k b) P):
 Ok ((loop s f).bind k) P:=by
 obtain⟨b,c,a⟩:=ZJ I μ B (λs i=>by
  have⟨e,c,a⟩:=g s i;rcases a with⟨s',rfl,a⟩|⟨b,rfl,a⟩
  ·exact .inl ⟨s',c,a⟩
  ·exact .inr ⟨b,c,a⟩) d
 rw[c];exact h b a
theorem D9 {s:σ}{Q:σ→Prop}(h:Q s):Ok (some (lW s:AY σ β)) (λe=>∃s',e= .next s'∧Q s'):=⟨_,rfl,s,rfl,h⟩
theorem Ck {s:σ}{Q:σ→Prop}{B:β→Prop}(h:Q s):Ok (some (lW s:AY σ β)) (λe=>(∃s',e= .next s'∧Q s')∨ ∃b,e= .done b∧B b):=⟨_,rfl,.inl ⟨s,rfl,h⟩⟩
theorem B9 {b:β}{Q:σ→Prop}{B:β→Prop}(h:B b):Ok (some (mS b:AY σ β)) (λe=>(∃s',e= .next s'∧Q s')∨ ∃b,e= .done b∧B b):=⟨_,rfl,.inr ⟨b,rfl,h⟩⟩
end
theorem JO {α β γ:Type}{P:γ→Prop}{f:Int→Unit→Option (AY Unit β)}{k:AY Unit β→Option γ}(l:List α) (q:Nat→α→Bool) (d:Nat→α→β) (g:l.length≤9223372036854775807)
 (m:∀(j:Nat) x,l[j]? =some x→f (j:Int) ()=some (if q j x then .done (d j x) else .next ()))
 (n:(∀(j:Nat) x,l[j]? =some x→q j x=false)→Ok (k (.next ())) P) (o:∀(j:Nat) x,l[j]? =some x→q j x=true→(∀(i:Nat) y,i<j→l[i]? =some y→q i y=false)→Ok (k (.done (d j x))) P):
 Ok ((DF (0:Int) (l.length:Int) () f).bind k) P:=by
 refine Il (λi _=>∀(j:Nat) y,j<i→l[j]? =some y→q j y=false) (λb=>∃(j:Nat) (x:α),l[j]? =some x∧q j x=true∧(∀(i:Nat) y,i<j→l[i]? =some y→q i y=false)∧b=d j x) g (λj y h=>by omega) (λi _ p e=> ?_) (λ_ h=>n λj x a=>h j x (lP.1 a).1 a) (λb ⟨j,x,r,s,t,u⟩=>by rw[u];exact o j x r s t);have a:=eE p;rw[m i _ a];cases hq:q i l[i]with
 |true=>exact⟨_,rfl,.inr ⟨_,rfl,i,_,a,hq,e,rfl⟩⟩
 |false=>
  refine⟨_,rfl,.inl ⟨(),rfl,λj y v c=> ?_⟩⟩;rcases kU.1 v with h | rfl
  ·exact e j y h c
  ·rw[a]at c;cases c;exact hq
end Go.Eng
namespace Go.Proofs.YtnlkgidlfnefbaaGreatDoor
open Go Go.Eng
theorem Pm (b:ByteArray):b.toList=b.data.toList:=by
 have e:b.size=b.data.toList.length:=by rw[Array.length_toList];rfl
 have d:∀(n i:Nat) (r:List UInt8),b.size - i=n→ByteArray.toList.loop b i r=r.reverse++b.data.toList.drop i:=by
  intro n
  induction n with
  |zero=>
   intro i r h;rw[ByteArray.toList.loop.eq_1,if_neg (by omega),List.drop_eq_nil_of_le (by omega),List.append_nil]
  |succ n f=>
   intro i r h;have g:i<b.size:=by omega
   rw[ByteArray.toList.loop.eq_1,if_pos g,f (i+1) _ (by omega)];have c:i<b.data.toList.length:=by omega
   rw[List.drop_eq_getElem_cons c,List.reverse_cons,mT]
   have:b.get! i=b.data.toList[i]:=by
    cases b with
    |mk a=>
     show a[i]! =_;rw[getElem!_pos a i (by simpa using c)];rw[Array.getElem_toList]
   rw[this];rfl
 unfold kO;rw[d _ 0 [] rfl];rfl
theorem EQ (a b:ByteArray):(a.toList==b.toList)=decide (a=b):=by
 rw[Pm,Pm];by_cases h:a=b
 ·subst h;simp
 ·rw[decide_eq_false h];refine beq_eq_false_iff_ne.2 λe=>h ?_;cases a;cases b;simp only[ByteArray.mk.injEq];exact Array.toList_inj.1 e
theorem Hc {l:List ByteArray}{s:ByteArray}(b:l.length≤9223372036854775807):Ok (BI l s) λk=>(k= -1∧s∉l)∨ ∃j:Nat,k=j∧l[j]? =some s:=by
 unfold BI;refine JO l (λ_ x=>decide (x=s)) (λk _=>k) b (λk x a=> ?_) (λh=> ?_) λj x a c _=> ?_
 ·rw[Bu,a,nI,EQ];cases decide (x=s) <;>rfl
 ·refine AC (.inl ⟨rfl,λd=> ?_⟩);obtain⟨j,e⟩:=mB d
  have:=h j s e
  simp at this
 ·refine AC (.inr ⟨j,rfl,?_⟩);rw[a,of_decide_eq_true c]
def nm (c i:Nat):ByteArray:=⟨#[lS (c+i)]⟩
theorem NQ {c i d j:Nat}(a:c+i<256) (b:d+j<256) (h:nm c i=nm d j):c+i=d+j:=by
 unfold nm at h;simp only[ByteArray.mk.injEq,Array.mk.injEq,List.cons.injEq,and_true]at h
 have:=congrArg nU h
 simp at this;omega
theorem eu {i:Nat}(h:i<5):kI {data:=#[97,98,99,100,101]} i (i+1)=nm 97 i:=by
 match i,h with
 | 0,_ | 1,_ | 2,_ | 3,_ | 4,_=>decide
theorem fA {i:Nat}(h:i<5):kI {data:=#[112,113,114,115,116]} i (i+1)=nm 112 i:=by
 match i,h with
 | 0,_ | 1,_ | 2,_ | 3,_ | 4,_=>decide
theorem fB {i:Nat}(h:i<4):kI {data:=#[83,84,85,86]} i (i+1)=nm 83 i:=by
 match i,h with
 | 0,_ | 1,_ | 2,_ | 3,_=>decide
inductive Nm:ByteArray→Prop
 |tok {i:Nat} :i<5→Nm (nm 97 i)
 |lev {i:Nat} :i<5→Nm (nm 112 i)
 |var {i:Nat} :i<4→Nm (nm 83 i)
theorem W4 {c i:Nat}(h:(65≤c+i∧c+i≤90)∨(97≤c+i∧c+i≤122)):BV (nm c i)=some true:=by
 generalize e:c+i=n at h
 have:nm c i=⟨#[lS n]⟩:=by unfold nm;rw[e]
 rw[this];have all:∀m:Fin 123,((65≤m.1∧m.1≤90)∨(97≤m.1∧m.1≤122))→(C4 ((nU (lS m.1):Nat):Int))=some true:=by
  have:∀m:Fin 123,((65≤m.1∧m.1≤90)∨(97≤m.1∧m.1≤122))→(match C4 ((nU (lS m.1):Nat):Int) with | some true=>true | _=>false)=true:=by
   decide+kernel
  intro m a
  have:=this m a
  split at this
  ·assumption
  ·cases this
 have b:=all ⟨n,by omega⟩ h;refine Ok.eq ?_;unfold BV Eo;have d:lM {data:=#[lS n]} =1:=rfl;rw[d];refine AP (Q:=λx=>x=true) (Ap rfl (AP (Q:=λx=>x=true) ?_ λ_ h=>AC h)) λ_ h=>AC h;refine Dp (λ_ _=>True) (by omega) trivial (λj s f _=> ?_) λs _=> ?_
 ·obtain rfl:j=0:=by omega
  refine AP (Q:=λx=>x=false) (Bn (by omega) (AJ b (AS rfl (AC rfl)))) λ_ h=> ?_;subst h;exact D9 trivial
 ·rw[EQ,decide_eq_false (λh=>by simp at h)];exact AC rfl
theorem Nm.name {s:ByteArray}(h:Nm s):BV s=some true:=by
 cases h with
 |tok h | lev h | var h=>exact W4 (by omega)
theorem Nm.ne {s:ByteArray}(h:Nm s):s≠⟨#[]⟩:=by
 cases h with
 |tok h | lev h | var h=>intro e;unfold nm at e;simp at e
theorem Nm.size {s:ByteArray}(h:Nm s):s.size=1:=by
 cases h with
 |tok h | lev h | var h=>rfl
theorem Vz:(kO {data:=#[]} ==kO {data:=#[]})=true:=by rw[EQ];rfl
theorem OB:C5 {data:=#[]} =some true:=by rfl
theorem TH {s:ByteArray}(h:Nm s):CE (s,{data:=#[]},false)=some true:=by unfold CE;dsimp only;have e:=h.size;rw[Vz,EQ,decide_eq_false h.ne,e];rfl
theorem W5 {l:List ByteArray}(d:l.length≤9223372036854775807) (h:∀x∈l,Nm x) (e:l.Nodup):By l=some true:=by refine Ok.eq ?_;unfold By;refine Dp (λ_ _=>True) d trivial (λk s b _=> ?_) λ_ _=>AC rfl;have a:=eE b;refine AX a (AJ (h _ (kF b)).name ?_);refine AS rfl<|Dp (λ_ _=>True) (by omega) trivial (λj s f _=> ?_) λ_ _=>D9 trivial;have c:=eE (show j<l.length by omega);refine AX c (AX a ?_);rw[EQ,decide_eq_false (List.pairwise_iff_getElem.1 (List.nodup_iff_pairwise_ne.1 e) j k (by omega) b f)];exact D9 trivial
theorem wr {x:Int}(h: -1000000≤x∧x≤1000000):kH .i64 x=x:=w64 (by omega) (by omega)
theorem tm {x n:Int}(h:0≤x):oA x n=x % n:=Int.tmod_eq_emod_of_nonneg h
theorem ZK {i:Int}(a:0≤i) (b:i<5):kI {data:=#[112,113,114,115,116]} (kZ i) (kZ (i+1))=nm 112 i.toNat:=by rw[show kZ (i+1)=i.toNat+1 by omega,fA (by omega)]
theorem ZL {i:Int}(a:0≤i) (b:i<5):kI {data:=#[97,98,99,100,101]} (kZ i) (kZ (i+1))=nm 97 i.toNat:=by rw[show kZ (i+1)=i.toNat+1 by omega,eu (by omega)]
theorem V0 {i:Int}(a:0≤i) (b:i<4):kI {data:=#[83,84,85,86]} (kZ i) (kZ (i+1))=nm 83 i.toNat:=by rw[show kZ (i+1)=i.toNat+1 by omega,fB (by omega)]
def GJ (L:List Fc):List ByteArray:=L.flatMap (·.2)
structure Lv (nl nk:Nat) (L:List Fc):Prop where
 len:L.length=nl
 each:∀(j:Nat) x,L[j]? =some x→1≤x.1∧x.1≤3∧nm 112 j∈x.2
 names:∀x∈GJ L,(∃i,i<nl∧x=nm 112 i)∨ ∃i,i<nk∧x=nm 97 i
 once:(GJ L).Nodup
 room:(GJ L).length≤nl+nk
def Tk (n:Nat) (l:List HY):Prop:=l.length=n∧ ∀j,j<n→l[j]? =some (nm 97 j,nm 97 j,{data:=#[]},false)
structure Ru1 (nt nv nl:Nat) (r:Dh):Prop where
 left:∃i,i<nv∧r.1=nm 83 i
 few:r.2.1.length≤8
 right:∀x∈r.2.1,(∃i,i<nt∧x=nm 97 i)∨ ∃i,i<nv∧x=nm 83 i
 prec:r.2.2.1= {data:=#[]} ∨ ∃i,i<nl∧r.2.2.1=nm 112 i
 act:r.2.2.2= {data:=#[]}
theorem Lv.snoc {k:Nat}{L:List Fc}{a:Int}(H:Lv k 0 L) (n:1≤a∧a≤3) (o:k<5):Lv (k+1) 0 (L++ [(a,[nm 112 k])]):=by
 have e:GJ (L++ [(a,[nm 112 k])])=GJ L++ [nm 112 k]:=by unfold GJ;rw[List.flatMap_append];rfl
 refine⟨by simp[H.len],λj x b=> ?_,λx f=> ?_,?_,?_⟩
 ·rcases mU j L.length with g | g
  ·rw[lQ g]at b;exact H.each j x b
  ·rw[lN g]at b
   have:j - L.length=0:=by
    rcases Nat.eq_zero_or_pos (j - L.length) with q | q
    ·exact q
    ·rw[lZ (by simp;omega)]at b;cases b
   rw[this]at b;simp at b;subst b
   have:j=k:=by have:=H.len;omega
   subst this;exact⟨n.1,n.2,by simp⟩
 ·rw[e]at f;rcases lG.1 f with h | h
  ·rcases H.names x h with⟨i,l,c⟩|⟨i,l,c⟩
   ·exact .inl ⟨i,by omega,c⟩
   ·omega
  ·exact .inl ⟨k,by omega,by simpa using h⟩
 ·rw[e];refine List.nodup_append.2 ⟨H.once,by simp,λx f y m d=> ?_⟩;have m:y=nm 112 k:=by simpa using m
  subst m;rcases H.names x f with⟨i,l,c⟩|⟨i,l,c⟩
  ·rw[c]at d
   have:=NQ (by omega) (by omega) d
   omega
  ·omega
 ·rw[e,kK]
  have:=H.room
  simp;omega
theorem ZM {L:List Fc}{q:Nat}{a:Int}{ns:List ByteArray}{y:ByteArray}(h:L[q]? =some (a,ns)):(GJ (L.set q (a,ns++ [y]))).Perm (y::GJ L):=by
 induction L generalizing q with
 |nil=>simp at h
 |cons x L b=>
  cases q with
  |zero=>
   simp at h;subst h;show(ns++ [y] ++GJ L).Perm (y::(ns++GJ L));rw[mT];exact nJ
  |succ q=>
   have:=b (q:=q) (by simpa using h)
   show(x.2++GJ (L.set q (a,ns++ [y]))).Perm (y::(x.2++GJ L));exact(this.append_left x.2).trans nJ
theorem Lv.put {f k:Nat}{L:List Fc}{q:Nat}{a:Int}{ns:List ByteArray}(H:Lv f k L) (p:k<5) (r:f≤5) (h:L[q]? =some (a,ns)):Lv f (k+1) (L.set q (a,ns++ [nm 97 k])):=by
 have g:=ZM (y:=nm 97 k) h;refine⟨by simp[H.len],λj x c=> ?_,λx m=> ?_,?_,?_⟩
 ·by_cases l:j=q
  ·subst l;rw[List.getElem?_set_self (lP.1 h).1]at c;cases c;have⟨d,b,n⟩:=H.each j _ h;exact⟨d,b,mC _ n⟩
  ·rw[List.getElem?_set_ne (λe=>l e.symm)]at c;exact H.each j x c
 ·rcases mE.1 (g.mem_iff.1 m) with rfl | h
  ·exact .inr ⟨k,by omega,rfl⟩
  ·rcases H.names x h with h | ⟨i,d,b⟩
   ·exact .inl h
   ·exact .inr ⟨i,by omega,b⟩
 ·rw[g.nodup_iff];refine List.nodup_cons.2 ⟨λo=> ?_,H.once⟩;rcases H.names _ o with⟨i,d,b⟩|⟨i,d,b⟩
  ·have:=NQ (by omega) (by omega) b
   omega
  ·have:=NQ (by omega) (by omega) b
   omega
 ·rw[g.length_eq,nK]
  have:=H.room
  omega
theorem Lv.up {a k:Nat}{L:List Fc}(H:Lv a k L):Lv a (k+1) L:=⟨H.len,H.each,λx b=>by
 rcases H.names x b with h | ⟨i,d,c⟩
 ·exact .inl h
 ·exact .inr ⟨i,by omega,c⟩,H.once,by have:=H.room;omega⟩
theorem Tk.snoc {k:Nat}{l:List HY}(H:Tk k l):Tk (k+1) (l++ [(nm 97 k,nm 97 k,{data:=#[]},false)]):=by
 refine⟨by simp[H.1],λj a=> ?_⟩;rcases mU j k with g | g
 ·rw[lQ (by rw[H.1];exact g)];exact H.2 j g
 ·have:j=k:=by omega
  subst this;rw[lN (by rw[H.1];omega),H.1];simp
structure Sg (nt nv nl:Nat) (g:DV):Prop where
 nt1:1≤nt
 nt5:nt≤5
 nv1:1≤nv
 nv4:nv≤4
 nl5:nl≤5
 toks:Tk nt g.1
 skips:g.2.1= []
 levs:Lv nl nt g.2.2.1
 start:g.2.2.2.1=nm 83 0
 rules:∀r∈g.2.2.2.2,Ru1 nt nv nl r
 all:∀v,v<nv→ ∃r∈g.2.2.2.2,r.1=nm 83 v
 room:g.2.2.2.2.length≤24
structure SmG (s:J1):Prop where
 t0:0≤s.1∧s.1<256
 v0:0≤s.2.1∧s.2.1<256
 lefts:s.2.2.1.length≤9223372036854775807∧ ∀x∈s.2.2.1,0≤x∧x<256
 rights:s.2.2.2.1.length≤9223372036854775807∧ ∀l∈s.2.2.2.1,l.length≤9223372036854775807∧ ∀x∈l,0≤x∧x<256
 precs:s.2.2.2.2.1.length≤9223372036854775807∧ ∀x∈s.2.2.2.2.1,0≤x∧x<256
 assocs:s.2.2.2.2.2.1.length≤9223372036854775807∧ ∀x∈s.2.2.2.2.2.1,0≤x∧x<256
 levels:s.2.2.2.2.2.2.length≤9223372036854775807∧ ∀x∈s.2.2.2.2.2.2,0≤x∧x<256
structure SmF (n m:Nat) (s:J1):Prop where
 lefts:s.2.2.1.length≤n
 assocs:s.2.2.2.2.2.1.length≤5
 rights:∀l∈s.2.2.2.1,l.length≤m
theorem SmF.up {s:J1}(F:SmF 12 5 s):SmF 20 8 s:=⟨by have:=F.lefts;omega,F.assocs,λl a=>by have:=F.rights l a;omega⟩
theorem V1 {s:J1}(G:SmG s) (n m:Nat):Ok (Bd s (n:Int) (m:Int)) λb=>b=true→SmF n m s:=by
 unfold Bd;refine AP (Q:=λc=>c=false→s.2.2.1.length≤n∧s.2.2.2.2.2.1.length≤5) (Af (λh=>AC (by simp)) λh=>AC λa=> ?_) λc e=> ?_
 ·have h:=of_decide_eq_false h;have a:=of_decide_eq_false a;omega
 refine Af (λ_=>AC (by simp)) λh=> ?_;have⟨f,g⟩:=e h;refine JO s.2.2.2.1 (λ_ l=>decide ((l.length:Int) >(m:Int))) (λ_ _=>false) (by have:=G.rights.1;omega) (λj x d=> ?_) (λh=>AC λ_=>⟨f,g,λl i=> ?_⟩) λj x d o _=>AC (by simp)
 ·rw[Bu,d,nI];cases decide ((x.length:Int) >(m:Int)) <;>rfl
 ·obtain⟨j,k⟩:=mB i
  have:=of_decide_eq_false (h j l k)
  omega
theorem V2 {s:J1}(G:SmG s) (F:SmF 20 8 s):Ok (B5 s) (Sg (s.1.toNat % 5+1) (s.2.1.toNat % 4+1) s.2.2.2.2.2.1.length):=by
 obtain⟨O,P,f,g,n,c,d⟩:=s;obtain⟨g1,g2,g3,g4,g5,g6,g7⟩:=G;obtain⟨f1,f2,f3⟩:=F;dsimp only at *;unfold B5;dsimp only;have et:kH .i64 ((kH .i64 (oA O (5:Int)))+(1:Int))=((O.toNat % 5+1:Nat):Int):=by
  rw[tm g1.1,wr (show -1000000≤O % 5∧O % 5≤1000000 by omega),wr (by omega)];omega
 have ev:kH .i64 ((kH .i64 (oA P (4:Int)))+(1:Int))=((P.toNat % 4+1:Nat):Int):=by
  rw[tm g2.1,wr (show -1000000≤P % 4∧P % 4≤1000000 by omega),wr (by omega)];omega
 rw[et,ev]
 generalize a4:O.toNat % 5+1=nt
 generalize a5:P.toNat % 4+1=nv
 have s5:(lM {data:=#[112,113,114,115,116]} :Nat)=5:=rfl;have a0:(lM {data:=#[97,98,99,100,101]} :Nat)=5:=rfl;have s4:(lM {data:=#[83,84,85,86]} :Nat)=4:=rfl;rw[s5,a0,s4];refine Bn (by decide) (Bn (by decide) ?_);refine B0 (λk (z:DV)=>z.1= [] ∧z.2.1= [] ∧Lv k 0 z.2.2.1∧z.2.2.2.1=nm 83 0∧z.2.2.2.2= []) (by omega) ⟨rfl,rfl,⟨rfl,λj x h=>by simp at h,λx h=>by simp[GJ]at h,by simp[GJ],by simp[GJ]⟩,rfl,rfl⟩ (λk z D h=> ?_) λz m=> ?_
 ·obtain⟨z1,z2,t,z4,z5⟩:=z;obtain⟨rfl,rfl,h,rfl,rfl⟩:=h;have o:=eE D;have B:=g6.2 _ (kF D);refine AX o (Bn (by decide) (Bn ?_ ?_))
  ·rw[wr (by omega)];omega
  have hl:=h.len;dsimp only at hl ⊢;refine BL (by simp;omega) (AC ⟨rfl,rfl,?_,rfl,rfl⟩);rw[tm B.1,wr (show -1000000≤c[k] % 3∧c[k] % 3≤1000000 by omega),wr (show -1000000≤c[k] % 3+1∧c[k] % 3+1≤1000000 by omega),wr (show -1000000≤(k:Int)+1∧(k:Int)+1≤1000000 by omega),ZK (by omega) (by omega)];exact h.snoc (by omega) (by omega)
 obtain⟨z1,z2,t,z4,z5⟩:=z;obtain⟨rfl,rfl,m,rfl,rfl⟩:=m;dsimp only at m;refine B0 (λk (z:DV)=>Tk k z.1∧z.2.1= [] ∧Lv c.length k z.2.2.1∧z.2.2.2.1=nm 83 0∧z.2.2.2.2= []) (by omega) ⟨⟨rfl,λj h=>by omega⟩,rfl,m,rfl,rfl⟩ (λk z D h=> ?_) λz m=> ?_
 ·obtain⟨z1,z2,t,z4,z5⟩:=z;obtain⟨S,rfl,y,rfl,rfl⟩:=h;dsimp only at S y ⊢;have hl:=y.len;have a6:=S.1;refine Bn (by rw[wr (by omega)];omega) ?_;rw[wr (show -1000000≤(k:Int)+1∧(k:Int)+1≤1000000 by omega),ZL (by omega) (by omega),lR];refine BL (by simp;omega)<|AP (Q:=λ(z:DV)=>Tk (k+1) z.1∧z.2.1= [] ∧Lv c.length (k+1) z.2.2.1∧z.2.2.2.1=nm 83 0∧z.2.2.2.2= []) (Af (λl=> ?_) λ_=>AC ⟨S.snoc,rfl,y.up,rfl,rfl⟩) λ_ h=>AC h;have l:=of_decide_eq_true l;have o:=eE (show k<d.length by omega);have B:=g7.2 _ (kF (show k<d.length by omega));refine AX o (Bn (by rw[wr (by omega)];omega) ?_);have hm:0≤d[k] % ((t.length:Int)+1)∧d[k] % ((t.length:Int)+1) < (t.length:Int)+1:=⟨lH _ (by omega),kX _ (by omega)⟩;rw[wr (show -1000000≤d[k] ∧d[k] ≤1000000 by omega),wr (show -1000000≤(t.length:Int)+1∧(t.length:Int)+1≤1000000 by omega),tm B.1]
  generalize d[k] % ((t.length:Int)+1)=q at hm
  refine AP (Q:=λ(z:DV)=>Tk (k+1) z.1∧z.2.1= [] ∧Lv c.length (k+1) z.2.2.1∧z.2.2.2.1=nm 83 0∧z.2.2.2.2= []) (Af (λhq=> ?_) λ_=>AC ⟨S.snoc,rfl,y.up,rfl,rfl⟩) λ_ h=>AC h;have hq:=of_decide_eq_true hq;rw[wr (show -1000000≤q - 1∧q - 1≤1000000 by omega)];have T:(q - 1).toNat<t.length:=by omega
  have J:=eE T;have a1:t[(q - 1).toNat].2.length≤(GJ t).length:=(List.sublist_flatten_of_mem (List.mem_map_of_mem (kF T))).length_le;have M:=y.room;refine Ep (by omega) J (BL (by simp only[List.length_nil];omega) (BL (by simp only[List.length_nil,kK,nK];omega) (Ep (by omega) J (JN (by omega) (by omega) (AC ⟨S.snoc,rfl,?_,rfl,rfl⟩)))));exact y.put (by omega) (by omega) J
 obtain⟨z1,z2,t,z4,z5⟩:=z;obtain⟨hT,rfl,y,rfl,rfl⟩:=m;dsimp only at hT y;have hl:=y.len;refine B0 (λk (z:DV)=>z.1=z1∧z.2.1= [] ∧z.2.2.1=t∧z.2.2.2.1=nm 83 0∧z.2.2.2.2.length=k∧ ∀r∈z.2.2.2.2,Ru1 nt nv c.length r) (by omega) ⟨rfl,rfl,rfl,rfl,rfl,by simp⟩ (λk z D h=> ?_) λz m=> ?_
 ·obtain⟨y1,y2,E,y4,y5⟩:=z;obtain⟨rfl,rfl,rfl,rfl,p,M⟩:=h;dsimp only at p M hl ⊢;have o:=eE D;have B:=g3.2 _ (kF D);have hm:0≤f[k] % (nv:Int)∧f[k] % (nv:Int) < (nv:Int):=⟨lH _ (by omega),kX _ (by omega)⟩;refine AX o (Bn (by omega) (AX o (Bn (by omega) ?_)));rw[wr (show -1000000≤f[k] ∧f[k] ≤1000000 by omega),tm B.1]
  generalize f[k] % (nv:Int)=q at hm
  rw[wr (show -1000000≤q+1∧q+1≤1000000 by omega)];refine Bn (by omega) ?_;rw[V0 (by omega) (by omega)];refine AP (Q:=λ(x:Dh)=>x.2.2.1= {data:=#[]} ∧Ru1 nt nv c.length x) (Af (λl=> ?_) λ_=>AC ⟨rfl,⟨q.toNat,by omega,rfl⟩,by simp,by simp,.inl rfl,rfl⟩) λx K=> ?_
  ·have l:=of_decide_eq_true l;have hR:=eE (show k<g.length by omega);have U:=kF (show k<g.length by omega);have a2:=f3 _ U;have V:=(g4.2 _ U).2
   generalize g[k] =R at hR a2 V
   refine E8 (λ(z:Int×Dh)=>0≤z.1∧z.1≤(R.length:Int)∧(z.2.2.1.length:Int)=z.1∧z.2.2.2.1= {data:=#[]} ∧Ru1 nt nv c.length z.2) (λz=>(R.length:Nat) - z.1.toNat) (λx=>x.2.2.1= {data:=#[]} ∧Ru1 nt nv c.length x) ⟨nQ _,by dsimp only;omega,rfl,rfl,⟨q.toNat,by omega,rfl⟩,by simp,by simp,.inl rfl,rfl⟩ (λz m=> ?_) λx o=>AC o;obtain⟨i,z⟩:=z;obtain⟨h0,W,H,A,N⟩:=m;dsimp only at h0 W H A N ⊢;refine AX hR (Af (λl=> ?_) λl=>B9 ⟨A,N⟩);have l:=of_decide_eq_true l;have X:i.toNat<R.length:=by omega
   have J:=eE X;have Y:=V _ (kF X);refine AX hR (Ep h0 J ?_)
   generalize R[i.toNat] =e at Y
   rw[wr (show -1000000≤e∧e≤1000000 by omega),wr (show -1000000≤(nt:Int)+(nv:Int)∧(nt:Int)+(nv:Int) ≤1000000 by omega),tm Y.1];have C:0≤e % ((nt:Int)+(nv:Int))∧e % ((nt:Int)+(nv:Int)) < (nt:Int)+(nv:Int):=⟨lH _ (by omega),kX _ (by omega)⟩
   generalize e % ((nt:Int)+(nv:Int))=w at C
   rw[tm C.1,wr (show -1000000≤w % 5+1∧w % 5+1≤1000000 by omega)];refine Bn (by omega) (Bn (by decide) (Bn (by decide) (Bn (by omega) ?_)));refine AP (Q:=λx=>(∃i,i<nt∧x=nm 97 i)∨ ∃i,i<nv∧x=nm 83 i) (Af (λI=> ?_) λI=>AC ?_) λx o=> ?_
   ·have I:=of_decide_eq_true I;rw[wr (show -1000000≤w - (nt:Int)∧w - (nt:Int) ≤1000000 by omega),wr (show -1000000≤w - (nt:Int)+1∧w - (nt:Int)+1≤1000000 by omega)];refine Bn (by omega) (AC ?_);rw[V0 (by omega) (by omega)];exact .inr ⟨_,by omega,rfl⟩
   ·have I:=of_decide_eq_false I;rw[ZL (by omega) (by omega)];exact .inl ⟨_,by omega,rfl⟩
   ·refine BL (by simp;omega) (Ck ⟨⟨?_,?_,?_,A,⟨N.left,?_,?_,N.prec,N.act⟩⟩,?_⟩)
    ·rw[wr (by omega)];omega
    ·rw[wr (by omega)];omega
    ·rw[wr (by omega),kK];simp;omega
    ·rw[kK];simp;omega
    ·intro x' K;rcases lG.1 K with h | h
     ·exact N.right _ h
     ·have:x'=x:=by simpa using h
      subst this;exact o
    ·rw[wr (by omega)];omega
  ·obtain⟨hp,u⟩:=K;obtain⟨x1,x2,x3,x4⟩:=x;dsimp only at hp ⊢;subst hp;refine AP (Q:=Ru1 nt nv c.length) (Af (λl=> ?_) λ_=>AC u) λx o=> ?_
   ·have l:=of_decide_eq_true l;have hP:=eE (show k<n.length by omega);have Z:=g5.2 _ (kF (show k<n.length by omega));refine AX hP ?_
    generalize n[k] =e at Z
    rw[wr (show -1000000≤e∧e≤1000000 by omega),wr (show -1000000≤(E.length:Int)+1∧(E.length:Int)+1≤1000000 by omega),tm Z.1];have C:0≤e % ((E.length:Int)+1)∧e % ((E.length:Int)+1) < (E.length:Int)+1:=⟨lH _ (by omega),kX _ (by omega)⟩
    generalize e % ((E.length:Int)+1)=w at C
    refine Bn (by omega)<|AP (Q:=Ru1 nt nv c.length) (Af (λI=> ?_) λ_=>AC u) λx o=>AC o;have I:=of_decide_eq_true I;rw[wr (show -1000000≤w - 1∧w - 1≤1000000 by omega)];refine Bn (by omega) (AC ⟨u.left,u.few,u.right,.inr ⟨(w - 1).toNat,by omega,?_⟩,u.act⟩)
    have:=ZK (i:=w - 1) (by omega) (by omega)
    rw[show w - 1+1=w by omega]at this;exact this
   ·refine BL (by simp;omega) (AC ⟨rfl,rfl,rfl,rfl,by simp[p],λr L=> ?_⟩);rcases lG.1 L with h | h
    ·exact M _ h
    ·have:r=x:=by simpa using h
     subst this;exact o
 obtain⟨y1,y2,E,y4,y5⟩:=z;obtain⟨rfl,rfl,rfl,rfl,p,M⟩:=m;dsimp only at p M;refine B0 (λk (z:DV)=>z.1=y1∧z.2.1= [] ∧z.2.2.1=E∧z.2.2.2.1=nm 83 0∧z.2.2.2.2.length≤f.length+k∧(∀r∈z.2.2.2.2,Ru1 nt nv c.length r)∧ ∀v,v<k→ ∃r∈z.2.2.2.2,r.1=nm 83 v) (by omega) ⟨rfl,rfl,rfl,rfl,by dsimp only;omega,M,λv hv=>by omega⟩ (λk z D h=> ?_) λz m=> ?_
 ·obtain⟨x1,x2,x3,x4,x5⟩:=z;obtain⟨rfl,rfl,rfl,rfl,W,H,A⟩:=h;dsimp only at W H A ⊢;refine Bn (by rw[wr (by omega)];omega) ?_;rw[wr (show -1000000≤(k:Int)+1∧(k:Int)+1≤1000000 by omega),V0 (by omega) (by omega),lR];refine E8 (λ(z:Int×Bool)=>0≤z.1∧z.1≤(x5.length:Int)∧(z.2=true→ ∃r∈x5,r.1=nm 83 k)) (λz=>x5.length - z.1.toNat) (λb=>b=true→ ∃r∈x5,r.1=nm 83 k) ⟨by decide,by dsimp only;omega,by simp⟩ (λz m=> ?_) λb B=> ?_
  ·obtain⟨i,b⟩:=z;obtain⟨j1,j2,j3⟩:=m;dsimp only at j1 j2 j3 ⊢;refine Af (λl=> ?_) λl=>B9 j3;have l:=of_decide_eq_true l;have X:i.toNat<x5.length:=by omega
   have J:=eE X;refine AP (Q:=λb=>b=true→ ∃r∈x5,r.1=nm 83 k) (Af (λB=>AC λ_=>j3 B) λ_=>Ep j1 J (AC λhe=> ?_)) λb' a3=> ?_
   ·rw[EQ]at he;exact⟨_,kF X,of_decide_eq_true he⟩
   ·refine Ck ⟨⟨?_,?_,a3⟩,?_⟩
    ·rw[wr (by omega)];omega
    ·rw[wr (by omega)];omega
    ·rw[wr (by omega)];omega
  ·refine AP (Q:=λ(z:DV)=>z.1=x1∧z.2.1= [] ∧z.2.2.1=x3∧z.2.2.2.1=nm 83 0∧z.2.2.2.2.length≤f.length+(k+1)∧(∀r∈z.2.2.2.2,Ru1 nt nv c.length r)∧ ∀v,v<k+1→ ∃r∈z.2.2.2.2,r.1=nm 83 v) (Af (λl=> ?_) λl=>AC ⟨rfl,rfl,rfl,rfl,by dsimp only;omega,H,λv hv=> ?_⟩) λz m=>AC m
   ·refine BL (by simp;omega) (AC ⟨rfl,rfl,rfl,rfl,by dsimp only;rw[kK];simp;omega,λr L=> ?_,λv hv=> ?_⟩)
    ·rcases lG.1 L with h | h
     ·exact H _ h
     ·obtain rfl:=mG.1 h;exact⟨⟨k,D,rfl⟩,by simp,by simp,.inl rfl,rfl⟩
    ·rcases kU.1 hv with h | rfl
     ·have⟨r,a,b⟩:=A v h;exact⟨r,mC _ a,b⟩
     ·exact⟨_,List.mem_append_right _ (mG.2 rfl),rfl⟩
   ·rcases kU.1 hv with h | rfl
    ·exact A v h
    ·exact B (by simpa using l)
 obtain⟨x1,x2,x3,x4,x5⟩:=z;obtain⟨rfl,rfl,rfl,rfl,W,H,A⟩:=m;dsimp only at W H A;exact AC ⟨by omega,by omega,by omega,by omega,by omega,hT,rfl,y,rfl,H,A,by dsimp only;omega⟩
end Go.Proofs.YtnlkgidlfnefbaaGreatDoor
namespace Go.Proofs.YtnlkgidlfnefbaaGreatDoor
open Go Go.Shelf Go.Proofs
def BG:Ren:=⟨λx=>bif bD x 125 then 138 else bif bD x 128 then 167 else bif bD x 129 then 168 else bif bD x 189 then 102 else bif bD x 215 then 169 else bif bD x 216 then 176 else bif bD x 257 then 141 else bif bD x 294 then 170 else bif bD x 295 then 171 else bif bD x 296 then 172 else bif bD x 297 then 173 else bif bD x 298 then 174 else bif bD x 299 then 175 else bif bD x 300 then 177 else bif bD x 301 then 178 else bif bD x 328 then 197 else bif bD x 329 then 193 else bif bD x 330 then 194 else bif bD x 331 then 198 else bif bD x 332 then 199 else bif bD x 343 then 205 else 0,λx=>bif bD x 0 then 0 else bif bD x 3 then 3 else bif bD x 4 then 4 else bif bD x 5 then 5 else bif bD x 9 then 9 else bif bD x 28 then 30 else bif bD x 46 then 221 else bif bD x 51 then 250 else bif bD x 53 then 226 else bif bD x 131 then 115 else bif bD x 182 then 243 else bif bD x 183 then 244 else bif bD x 218 then 267 else bif bD x 222 then 271 else bif bD x 228 then 279 else bif bD x 229 then 280 else 0,λ_=>0⟩
theorem OC:Lays.n189 kG BG where
 mixed:=by kernel_rfl
 f125:=func138.trans (congrArg some (show f138=Body.n125 BG by kernel_rfl))
 f128:=func167.trans (congrArg some (show f167=Body.n128 BG by kernel_rfl))
 f129:=func168.trans (congrArg some (show f168=Body.n129 BG by kernel_rfl))
 f189:=func102.trans (congrArg some (show f102=Body.n189 BG by kernel_rfl))
 f215:=func169.trans (congrArg some (show f169=Body.n215 BG by kernel_rfl))
 f216:=func176.trans (congrArg some (show f176=Body.n216 BG by kernel_rfl))
 f257:=func141.trans (congrArg some (show f141=Body.n257 BG by kernel_rfl))
 f294:=func170.trans (congrArg some (show f170=Body.n294 BG by kernel_rfl))
 f295:=func171.trans (congrArg some (show f171=Body.n295 BG by kernel_rfl))
 f296:=func172.trans (congrArg some (show f172=Body.n296 BG by kernel_rfl))
 f297:=func173.trans (congrArg some (show f173=Body.n297 BG by kernel_rfl))
 f298:=func174.trans (congrArg some (show f174=Body.n298 BG by kernel_rfl))
 f299:=func175.trans (congrArg some (show f175=Body.n299 BG by kernel_rfl))
 f300:=func177.trans (congrArg some (show f177=Body.n300 BG by kernel_rfl))
 f301:=func178.trans (congrArg some (show f178=Body.n301 BG by kernel_rfl))
 f328:=func197.trans (congrArg some (show f197=Body.n328 BG by kernel_rfl))
 f329:=func193.trans (congrArg some (show f193=Body.n329 BG by kernel_rfl))
 f330:=func194.trans (congrArg some (show f194=Body.n330 BG by kernel_rfl))
 f331:=func198.trans (congrArg some (show f198=Body.n331 BG by kernel_rfl))
 f332:=func199.trans (congrArg some (show f199=Body.n332 BG by kernel_rfl))
 f343:=func205.trans (congrArg some (show f205=Body.n343 BG by kernel_rfl))
 t0:=lD
 a0:=mD
 z0:=lY
 v0:=lI
 t3:=kQ
 a3:=lF
 z3:=lA
 v3:=kV
 t4:=kT
 a4:=lT
 z4:=lK
 v4:=kW
 t5:=nN
 a5:=isAgg5
 z5:=sizeOf5
 v5:=zeroValue5
 t9:=nO
 a9:=isAgg9
 z9:=sizeOf9
 v9:=zeroValue9
 t28:=kL
 a28:=mW
 z28:=mF
 v28:=lV
 t46:=mH
 a46:=isAgg221
 z46:=sizeOf221
 v46:=mX
 t51:=mI
 a51:=isAgg250
 z51:=sizeOf250
 v51:=mY
 t53:=mJ
 a53:=isAgg226
 z53:=sizeOf226
 v53:=mZ
 t131:=mK
 a131:=isAgg115
 z131:=sizeOf115
 v131:=nA
 t182:=mL
 a182:=isAgg243
 z182:=sizeOf243
 v182:=nB
 t183:=mM
 a183:=isAgg244
 z183:=sizeOf244
 v183:=nC
 t218:=mN
 a218:=isAgg267
 z218:=sizeOf267
 v218:=nD
 t222:=mO
 a222:=isAgg271
 z222:=sizeOf271
 v222:=nF
 t228:=mP
 a228:=isAgg279
 z228:=sizeOf279
 v228:=nG
 t229:=mQ
 a229:=isAgg280
 z229:=sizeOf280
 v229:=nH
def D2:Ren:=⟨λx=>bif bD x 6 then 99 else bif bD x 14 then 137 else bif bD x 15 then 138 else bif bD x 20 then 159 else bif bD x 21 then 160 else bif bD x 22 then 161 else bif bD x 23 then 162 else bif bD x 24 then 163 else bif bD x 25 then 164 else bif bD x 26 then 165 else bif bD x 27 then 166 else bif bD x 28 then 167 else bif bD x 29 then 168 else bif bD x 46 then 192 else bif bD x 47 then 193 else bif bD x 48 then 194 else bif bD x 49 then 195 else bif bD x 50 then 196 else bif bD x 57 then 204 else 0,λx=>bif bD x 0 then 0 else bif bD x 3 then 3 else bif bD x 4 then 4 else bif bD x 5 then 5 else bif bD x 9 then 9 else bif bD x 22 then 114 else bif bD x 24 then 124 else bif bD x 25 then 183 else bif bD x 39 then 221 else bif bD x 45 then 243 else bif bD x 46 then 244 else bif bD x 50 then 115 else bif bD x 53 then 250 else bif bD x 55 then 226 else bif bD x 66 then 267 else bif bD x 70 then 271 else bif bD x 76 then 279 else bif bD x 77 then 280 else 0,λ_=>0⟩
theorem LA:SlLaysF0.n6 kG D2 where
 mixed:=by kernel_rfl
 f6:=⟨ "slices.SortFunc[[]tronage/api.Item,tronage/api.Item]",by decide,Tryz.func99.trans (congrArg some (by kernel_rfl))⟩
 f14:=⟨ "slices.pdqsortCmpFunc[tronage/api.Item]",by decide,Tryz.func137.trans (congrArg some (by kernel_rfl))⟩
 f15:=Tryz.func138.trans (congrArg some (show Tryz.f138=SlBodyF.n15 D2 by kernel_rfl))
 f20:=⟨ "slices.insertionSortCmpFunc[tronage/api.Item]",by decide,Tryz.func159.trans (congrArg some (by kernel_rfl))⟩
 f21:=⟨ "slices.heapSortCmpFunc[tronage/api.Item]",by decide,Tryz.func160.trans (congrArg some (by kernel_rfl))⟩
 f22:=⟨ "slices.breakPatternsCmpFunc[tronage/api.Item]",by decide,Tryz.func161.trans (congrArg some (by kernel_rfl))⟩
 f23:=⟨ "slices.choosePivotCmpFunc[tronage/api.Item]",by decide,Tryz.func162.trans (congrArg some (by kernel_rfl))⟩
 f24:=⟨ "slices.reverseRangeCmpFunc[tronage/api.Item]",by decide,Tryz.func163.trans (congrArg some (by kernel_rfl))⟩
 f25:=⟨ "slices.partialInsertionSortCmpFunc[tronage/api.Item]",by decide,Tryz.func164.trans (congrArg some (by kernel_rfl))⟩
 f26:=⟨ "slices.partitionEqualCmpFunc[tronage/api.Item]",by decide,Tryz.func165.trans (congrArg some (by kernel_rfl))⟩
 f27:=⟨ "slices.partitionCmpFunc[tronage/api.Item]",by decide,Tryz.func166.trans (congrArg some (by kernel_rfl))⟩
 f28:=Tryz.func167.trans (congrArg some (show Tryz.f167=SlBodyF.n28 D2 by kernel_rfl))
 f29:=Tryz.func168.trans (congrArg some (show Tryz.f168=SlBodyF.n29 D2 by kernel_rfl))
 f46:=⟨ "slices.siftDownCmpFunc[tronage/api.Item]",by decide,Tryz.func192.trans (congrArg some (by kernel_rfl))⟩
 f47:=Tryz.func193.trans (congrArg some (show Tryz.f193=SlBodyF.n47 D2 by kernel_rfl))
 f48:=Tryz.func194.trans (congrArg some (show Tryz.f194=SlBodyF.n48 D2 by kernel_rfl))
 f49:=⟨ "slices.medianAdjacentCmpFunc[tronage/api.Item]",by decide,Tryz.func195.trans (congrArg some (by kernel_rfl))⟩
 f50:=⟨ "slices.medianCmpFunc[tronage/api.Item]",by decide,Tryz.func196.trans (congrArg some (by kernel_rfl))⟩
 f57:=⟨ "slices.order2CmpFunc[tronage/api.Item]",by decide,Tryz.func204.trans (congrArg some (by kernel_rfl))⟩
 t0:=lD
 a0:=mD
 z0:=lY
 v0:=lI
 t3:=kQ
 a3:=lF
 z3:=lA
 v3:=kV
 t4:=kT
 a4:=lT
 z4:=lK
 v4:=kW
 t5:=nN
 a5:=Tryz.isAgg5
 z5:=Tryz.sizeOf5
 v5:=Tryz.zeroValue5
 t9:=nO
 a9:=Tryz.isAgg9
 z9:=Tryz.sizeOf9
 v9:=Tryz.zeroValue9
 t22:=Tryz.underlying114
 a22:=Tryz.isAgg114
 z22:=Tryz.sizeOf114
 v22:=Tryz.zeroValue114
 t25:=Tryz.underlying183
 a25:=Tryz.isAgg183
 z25:=Tryz.sizeOf183
 v25:=Tryz.zeroValue183
 t39:=mH
 a39:=Tryz.isAgg221
 z39:=Tryz.sizeOf221
 v39:=mX
 t45:=mL
 a45:=Tryz.isAgg243
 z45:=Tryz.sizeOf243
 v45:=nB
 t46:=mM
 a46:=Tryz.isAgg244
 z46:=Tryz.sizeOf244
 v46:=nC
 t50:=mK
 a50:=Tryz.isAgg115
 z50:=Tryz.sizeOf115
 v50:=nA
 t53:=mI
 a53:=Tryz.isAgg250
 z53:=Tryz.sizeOf250
 v53:=mY
 t55:=mJ
 a55:=Tryz.isAgg226
 z55:=Tryz.sizeOf226
 v55:=mZ
 t66:=mN
 a66:=Tryz.isAgg267
 z66:=Tryz.sizeOf267
 v66:=nD
 t70:=mO
 a70:=Tryz.isAgg271
 z70:=Tryz.sizeOf271
 v70:=nF
 t76:=mP
 a76:=Tryz.isAgg279
 z76:=Tryz.sizeOf279
 v76:=nG
 t77:=mQ
 a77:=Tryz.isAgg280
 z77:=Tryz.sizeOf280
 v77:=nH
def Pn:Ren:=⟨λx=>bif bD x 20 then 103 else 0,λx=>bif bD x 0 then 0 else bif bD x 3 then 3 else bif bD x 4 then 4 else bif bD x 22 then 30 else 0,λ_=>0⟩
theorem OD:Lays2.n20 kG Pn where
 mixed:=by kernel_rfl
 f20:=func103.trans (congrArg some (show f103=Body2.n20 Pn by kernel_rfl))
 t0:=lD
 a0:=mD
 z0:=lY
 v0:=lI
 t3:=kQ
 a3:=lF
 z3:=lA
 v3:=kV
 t4:=kT
 a4:=lT
 z4:=lK
 v4:=kW
 t22:=kL
 a22:=mW
 z22:=mF
 v22:=lV
 i3:=by kernel_rfl
def LB:Ren:=⟨λx=>bif bD x 122 then 140 else bif bD x 215 then 169 else 0,λx=>bif bD x 3 then 3 else bif bD x 4 then 4 else 0,λ_=>0⟩
theorem OE:Lays.n122 kG LB where
 mixed:=by kernel_rfl
 f122:=func140.trans (congrArg some (show f140=Body.n122 LB by kernel_rfl))
 f215:=func169.trans (congrArg some (show f169=Body.n215 LB by kernel_rfl))
 t3:=kQ
 a3:=lF
 z3:=lA
 v3:=kV
 t4:=kT
 a4:=lT
 z4:=lK
 v4:=kW
end Go.Proofs.YtnlkgidlfnefbaaGreatDoor
namespace Go.Proofs.YtnlkgidlfnefbaaGreatDoor
open Go Go.Eng Go.RowKit Go.Shelf Go.Sort
theorem Fm {k:IntKind}{φ:AD}(l:List Int):(hA k).All φ (l.map (BP.int k).val) l:=by
 induction l with
 |nil=>exact .nil
 |cons x l b=>exact Ro.All.cons (a:=[(BP.int k).val x]) rfl b
def ins {α:Type}(le:α→α→Bool) (x:α):List α→List α
 | [] =>[x]
 |y::l=>if le x y then x::y::l else y::ins le x l
def SE {α:Type}(le:α→α→Bool):List α→List α
 | [] =>[]
 |x::l=>ins le x (SE le l)
theorem UY {α:Type}(le:α→α→Bool) (x:α) (l:List α):(ins le x l).Perm (x::l):=by
 induction l with
 |nil=>exact .refl _
 |cons y l a=>
  unfold ins;split
  ·exact .refl _
  ·exact(a.cons y).trans (.swap x y l)
theorem DU {α:Type}(le:α→α→Bool) (l:List α):(SE le l).Perm l:=by
 induction l with
 |nil=>exact .refl _
 |cons x l a=>exact(UY le x _).trans (a.cons x)
theorem fC {α:Type}{le:α→α→Bool}(f:∀a b c,le a b=true→le b c=true→le a c=true) (i:∀a b,(le a b || le b a)=true) (x:α) {l:List α}(h:l.Pairwise λa b=>le a b=true):(ins le x l).Pairwise λa b=>le a b=true:=by
 induction l with
 |nil=>exact List.pairwise_singleton _ _
 |cons y l j=>
  unfold ins;rw[kY]at h;split
  ·rename_i d
   refine kY.2 ⟨λz e=> ?_,kY.2 h⟩;rcases mE.1 e with rfl | e
   ·exact d
   ·exact f _ _ _ d (h.1 z e)
  ·rename_i d
   refine kY.2 ⟨λz e=> ?_,j h.2⟩;rcases mE.1 ((UY le x l).mem_iff.1 e) with rfl | e
   ·have:=i z y
    rw[Bool.or_eq_true]at this;rcases this with g | g
    ·exact absurd g d
    ·exact g
   ·exact h.1 z e
theorem Qk {α:Type}{le:α→α→Bool}(d:∀a b c,le a b=true→le b c=true→le a c=true) (e:∀a b,(le a b || le b a)=true) (l:List α):(SE le l).Pairwise λa b=>le a b=true:=by
 induction l with
 |nil=>exact .nil
 |cons x l f=>exact fC d e x f
theorem UZ {α:Type}{le:α→α→Bool}(d:∀a b c,le a b=true→le b c=true→le a c=true) (e:∀a b,(le a b || le b a)=true) (f:∀a b,le a b=true→le b a=true→a=b) (l:List α):SE le l=l.mergeSort le:=
 List.Perm.eq_of_pairwise (λa b _ _ g h=>f a b g h) (Qk d e l) (List.pairwise_mergeSort d e l) ((DU le l).trans (List.mergeSort_perm l le).symm)
def LC (l:List Int):List Int:=SE (λx y=>decide (x≤y)) l
theorem ZN (l:List Int):LC l=l.mergeSort λx y=>decide (x≤y):=
 UZ (λa b c d e=>by simp only[decide_eq_true_eq]at *;omega) (λa b=>by simp only[Bool.or_eq_true,decide_eq_true_eq];omega) (λa b d e=>by simp only[decide_eq_true_eq]at *;omega) l
theorem TI {k:IntKind}{a b:List Int}(h:a.map (lL k)=b.map (lL k)):a=b:=
 (List.map_inj_right (f:=lL k) λx y c=>by cases c;rfl).1 h
def W6 (l:List Int):Option (List Int):=if l.length<4611686018427387904 then some (LC l) else none
def OF (l:List Int):Option (List Int):=if l.length<4611686018427387904 then some (Lib.compact l) else none
theorem St.rowCap {α:Type}{φ:AD}{h:AH}{Γ:List Chk}{ty:TypeId}{r:Ro α}{t:Slc}{l:List α}(H:St φ (⟨nZ ty r,[.slice t.1 t.2.1 t.2.2],l⟩::Γ) h):l.length≤t.2.2:=by obtain⟨F,⟨p,n,c,vs,e,a,q,f,g,d,s⟩,u,H⟩:=H;have a:l.length=n:=a;simp only[List.cons.injEq,Value.slice.injEq,and_true]at e;obtain⟨v,w,x⟩:=e;rcases g with⟨i,j,k,m⟩|⟨b,off,arr,i,o,y,z,A,B⟩ <;>omega
theorem St.rowHoldsF {α:Type}{φ:AD}{w:World}{Γ:List Chk}{ty:TypeId}{r:Ro α}{t:Slc}{l:List α}(H:St φ (⟨nZ ty r,[.slice t.1 t.2.1 t.2.2],l⟩::Γ) w.heap):
 (l= [] ∧t.2.1=0)∨ ∃(b off:Nat) (vs:List Value),t.1=some ⟨b,off,none⟩∧r.All φ vs l∧t.2.1=l.length∧b<w.heap.size∧(∀d,w.heap[b]? =some (.cells d ty (0,0))→off+vs.length≤d.size)∧Sort.Holds id w b off vs.toArray:=by
 obtain⟨F,⟨p,n,c,vs,e,h,i,s,u,f,C⟩,D,H⟩:=H;have h:l.length=n:=h;simp only[List.cons.injEq,Value.slice.injEq,and_true]at e;obtain⟨v,E,G⟩:=e;rcases u with⟨k,x,y,z⟩|⟨b,off,d,k,a,I,A,J,B⟩
 ·exact .inl ⟨List.eq_nil_of_length_eq_zero (by omega),by omega⟩
 ·right
  refine⟨b,off,vs,by rw[v,k],f,by omega,BC a,λm o=> ?_,λj q=> ?_⟩
  ·rw[a]at o;cases o
   have:=Nat.mul_le_mul_right r.sz A
   omega
  have g:j<vs.length:=by simpa using q
  have i:=B j vs[j] (eE g);refine⟨?_,?_⟩
  ·unfold World.cell?;dsimp only;rw[a];dsimp only;rw[getElem!_pos _ j q];simpa using i
  ·unfold World.frozen?;dsimp only;rw[a];simp
theorem St.rowSortedF {α:Type}{φ:AD}{w:World}{Γ:List Chk}{ty:TypeId}{r:Ro α}{t:Slc}{l m:List α}(H:St φ (⟨nZ ty r,[.slice t.1 t.2.1 t.2.2],l⟩::Γ) w.heap)
 {b off:Nat} (s:t.1=some ⟨b,off,none⟩) (ms:List Value) (f:r.All φ ms m) (y:m.length=l.length) (h:∀a,w.heap[b]? =some (.cells a ty (0,0))→off+ms.length≤a.size) (k:Nat) (os:Array Obj):
 St φ (⟨nZ ty r,[.slice t.1 t.2.1 t.2.2],m⟩::Γ) (grow (putRow id (Sort.ahead w k) b off ms.toArray) os).heap:=by
 have d:(grow (putRow id (Sort.ahead w k) b off ms.toArray) os).heap=w.heap.modify b (onCells (putCells id off ms.toArray)) ++os:=rfl;rw[d];refine H.rowPut f y (λB u x a c=> ?_) λj z o=> ?_
 ·rw[s]at x;cases x;have p:=BC c;refine⟨putCells id off ms.toArray a,?_,by simp[putCells],λi v n=> ?_⟩
  ·rw[lO (by simpa using p),mA,if_pos rfl,c];rfl
  ·have q:i<ms.length:=by
    rcases mU i ms.length with g | g
    ·exact g
    ·rw[lZ g]at n;cases n
   have C:=h a c;unfold putCells;rw[Array.getElem?_mapIdx,Array.getElem?_eq_getElem (by omega)];have A:off≤off+i∧off+i<off+ms.toArray.size:=by simp;exact q
   simp only[Option.map_some];rw[if_pos A,Nat.add_sub_cancel_left,getElem!_pos _ i (by simpa using q)];rw[eE q]at n;cases n;simp
 ·rw[lO (by simpa using z),mA,if_neg λe=>o b off s e.symm]
section
variable {φ:AD}{h:AH}{F:List Chk}
theorem YE {t:Slc}{l r:List Int}(c:St φ (cR 3 (hA .i64) t l::F) h) (hd:W6 l=some r):
 CallsH kG 102 [.slice t.1 t.2.1 t.2.2] h (Ae λv g=>∃ψ:AD,∃y:Unit,∃l1:List Int,Sub φ ψ∧v=((.tuple []):Sh).val y∧l1=r∧St ψ (cR 3 (hA .i64) t l1::F) g):=by
 unfold W6 at hd;split at hd
 ·rename_i i
  cases hd;intro w j;subst j;rcases c.rowHolds rfl (lL .i64) (λvs m=>⟨l,DH m⟩) with⟨n,d⟩|⟨b,off,bs,ht,hall,d,hlen,hlt,hfit,hH⟩
  ·subst n;rw[d];have a:=Any.slices_Sort_int_none OC t.1 t.2.2 w;refine(show Calls kG 102 #[.slice t.1 0 t.2.2] w _ from a).mono ?_;rintro e o ⟨rfl,rfl⟩;exact⟨B4.refl _,_,rfl,φ,(),_,nX _,rfl,rfl,by rw[show LC [] = [] from rfl];exact c⟩
  ·have f:bs=l:=TI (DH hall);subst f;rw[ht,d];have a:=Any.slices_Sort_int OC b off t.2.2 bs w hH hlt i;rw[←ZN]at a;refine(show Calls kG 102 #[.slice (some ⟨b,off,none⟩) bs.length t.2.2] w _ from a).mono ?_;rintro e o ⟨rfl,k,os,rfl⟩;refine⟨⟨rfl,rfl,rfl,by rw[Go.Sort.size_grow,Go.Sort.size_putRow];exact Nat.le_add_right _ _⟩,_,rfl,φ,(),_,nX _,rfl,rfl,?_⟩;exact c.rowSorted ht (lL .i64) (LC bs) (Fm _) (DU _ _).length_eq (DU _ _).length_eq hfit k os
 ·cases hd
theorem Ql (l:List Int):(Lib.compact l).length≤l.length:=by unfold Lib.compact Lib.compactUpTo;rw[List.length_map];refine Nat.le_trans (List.length_filter_le _ _) ?_;simp
theorem Ua {t:Slc}{l r:List Int}(c:St φ (cR 3 (hA .i64) t l::F) h) (hd:OF l=some r):
 CallsH kG 103 [.slice t.1 t.2.1 t.2.2] h (Ae λv n=>∃ψ:AD,∃y:Slc,∃l1:List Int,Sub φ ψ∧v=((.one aS):Sh).val y∧l1=r∧St ψ (cR 3 (hA .i64) y l1::F) n):=by
 unfold OF at hd;split at hd
 ·rename_i u
  cases hd;intro w o;subst o;have d:=St.rowCap c;rcases c.rowHolds rfl (lL .i64) (λvs p=>⟨l,DH p⟩) with⟨q,f⟩|⟨b,off,bs,ht,hall,f,hlen,hlt,hfit,hH⟩
  ·subst q;rw[f];have g:=Any.slices_Compact_int_empty OD t.1 t.2.2 w;refine(show Calls kG 103 #[.slice t.1 0 t.2.2] w _ from g).mono ?_;rintro e s ⟨rfl,rfl⟩;rw[show t=(t.1,t.2.1,t.2.2) from rfl,f]at c;exact⟨B4.refl _,_,rfl,φ,(t.1,0,t.2.2),_,nX _,rfl,rfl,c⟩
  ·have i:bs=l:=TI (DH hall);subst i;rw[ht,f];have g:=Any.slices_Compact_int OD b off t.2.2 bs w hH (by omega) d;refine(show Calls kG 103 #[.slice (some ⟨b,off,none⟩) bs.length t.2.2] w _ from g).mono ?_;rintro e s ⟨rfl,k,rfl⟩;have j:=Ql bs;have a:(Lib.compact bs++List.replicate (bs.length - (Lib.compact bs).length) 0).length=bs.length:=by simp;omega
   have s1:=c.rowSorted ht (lL .i64) (Lib.compact bs++List.replicate (bs.length - (Lib.compact bs).length) 0) (Fm _) a a hfit k #[];have m:=St.rowTake s1 (k:=(Lib.compact bs).length) (by rw[a];exact j);rw[List.take_left,grow_empty]at m;refine⟨⟨rfl,rfl,rfl,by rw[Go.Sort.size_putRow];exact Nat.le_refl _⟩,_,rfl,φ,(t.1,(Lib.compact bs).length,t.2.2),_,nX _,by rw[ht];rfl,rfl,m⟩
 ·cases hd
end
end Go.Proofs.YtnlkgidlfnefbaaGreatDoor
namespace Go.Proofs.YtnlkgidlfnefbaaGreatDoor
open Go Go.Shelf Go.Proofs
def Rm:Ren:=⟨λx=>bif bD x 6 then 86 else bif bD x 10 then 182 else 0,λx=>bif bD x 0 then 0 else bif bD x 3 then 3 else bif bD x 4 then 4 else bif bD x 22 then 30 else bif bD x 23 then 3 else bif bD x 25 then 94 else 0,λ_=>0⟩
theorem Qm:SlLaysH.n10 kG Rm where
 mixed:=by kernel_rfl
 f6:=⟨ "slices.IndexFunc[[]int,int]",by decide,Tryz.func86.trans (congrArg some (by kernel_rfl))⟩
 f10:=⟨ "slices.DeleteFunc[[]int,int]",by decide,Tryz.func182.trans (congrArg some (by kernel_rfl))⟩
 t0:=lD
 a0:=mD
 z0:=lY
 v0:=lI
 t3:=kQ
 a3:=lF
 z3:=lA
 v3:=kV
 t4:=kT
 a4:=lT
 z4:=lK
 v4:=kW
 t22:=kL
 a22:=mW
 z22:=mF
 v22:=lV
 a23:=lF
 z23:=lA
 t25:=Tryz.underlying94
 a25:=Tryz.isAgg94
 z25:=Tryz.sizeOf94
 v25:=Tryz.zeroValue94
end Go.Proofs.YtnlkgidlfnefbaaGreatDoor
