/- The parts M1 to Ref10G, put together. Conditions: each tells its own. -/
import Derived.Test.YtfnppeejaimnbaaGreatDoorKt4
import Derived.Test.YtfnppeejaimnbaaGreatDoorKt2
import Derived.Test.YtfnppeejaimnbaaGreatDoorKt3
import Derived.KernelRfl
import Derived.Test.YtfnppeejaimnbaaGreatDoorKt1
import Derived.Test.YtfnppeejaimnbaaGreatDoorProg
set_option linter.unusedVariables false
set_option maxRecDepth 100000
set_option maxRecDepth 1000000
set_option maxHeartbeats 4000000
open List renaming getElem?_eq_getElem → bD,getElem?_eq_some_iff → nY,mem_of_getElem? → oB,length → oL,getElem?_of_mem → pD,take_of_length_le → pE,getElem?_eq_none → pF,mem_append → pH,length_set → pI,getElem?_set → pJ,getElem?_set_ne → pM,perm_middle → pP,length_append → pQ,append_assoc → pS,perm_append_comm_assoc → pT,mem_cons_of_mem → pU,getElem_mem → pW,mem_or_eq_of_mem_set → pX,mem_cons_self → qB,mem_singleton → qC,getElem?_cons_succ → qD,take_add_one → qG,getElem?_set_self → qJ,length_filter_le → qL,mem_cons → qO,getElem?_cons_zero → qR,take_append_drop → qT,replicate → qU,pairwise_append → qX,filter_append → rC,ext_getElem? → rN
open Go.IntKind renaming wrap → bO
open Int renaming toNat → eE,toNat_natCast → oF,toNat_of_nonneg → oV,not_lt → qM
open Go.Builtin renaming append_ → hC
open Go.Proofs.Tryz renaming prog → hM,underlying154 → rD,underlying143 → rE,underlying54 → rG,underlying57 → rH,underlying78 → rI,underlying81 → rJ,underlying41 → rL,underlying42 → rM
open Go.Eng.Ro renaming SliceIs → mE,int → oE,list → oH,bool → oI,str → pO,slc → qN,prod → rT
open Go.Eng.T renaming out → nZ,block → oO,call → oS,ret → oT,loop → oX,sem → oY,join → pA,brk → pC,store → qS,still → rO,both → rQ
open Go.Eng.St renaming freezeRow → oA,unpair → oC,cell → oG,cells → oQ,unro → oZ,lit → pR,openR → qV,shut → rR,shutR → rS
open List.Perm renaming cons → oD,append_right → oJ,swap → oR,append_left → pG
open Option renaming bind_some → oK,map → pB,isNone → pY
open Go.Eng.AX renaming done → oM,next → oP
open Go.Eng.Sub renaming trans → oN,refl → pK
open Nat renaming lt_succ_iff_lt_or_eq → oU,le_refl → oW,zero_le → qQ,eq_zero_or_pos → rA
open Go.Addr renaming add → pL
open Go.Eng.Rep renaming ro → pN,prod → pZ,raw → qY,row → rP
open Bool renaming or_eq_false_iff → pV,or_eq_true → qP,false_or → qZ
open Go.Eng.Ro.SliceIs renaming nil → qH
open Go.Eng.Ok renaming eq → rF
open Go.Eng.Np renaming none → rK
open Go.Proofs.YtfnppeejaimnbaaGreatDoor.St renaming blk → rU
open Go.Proofs.Tryz
namespace Go.Proofs.YtfnppeejaimnbaaGreatDoor
open Go Go.Eng Dg
section
variable {p:dtP}
theorem Rq(S:Sy p):Bh p=some ((p.1.length+p.2.1.length+1:Nat):Int):=by have a:=S.t1;have b:=S.v1;unfold Bh;congr 1;rw[w64 (n:=(p.1.length:Int)+(p.2.1.length:Int)) nJ nJ,w64 nJ nJ];omega
def CW(l:List Bool):Nat:=l.countP λb=> !b
theorem Rr{l:List Bool}{i:Nat}(h:l[i]? =some false):CW (l.set i true)+1=CW l:=Hd h
theorem Xe{l:List Bool}{i j:Nat}(h:(l.set i true)[j]? =some true):j=i∨l[j]? =some true:=by
 rw[pJ]at h;split at h
 ·rename_i e;exact .inl e.symm
 ·exact .inr h
theorem bF(S:Sy p):Ok (Da p) λl=>l.length=p.1.length+p.2.1.length+1∧ ∀s:Nat,l[s]? =some true→Pro (nT p) p.2.2.1 (s:Int):=by
 have X:=S.t1;have Y:=S.v1;have Z:=S.few;have M:nT p=(p.1.length:Int):=rfl;unfold Da;refine AO (x:=((p.1.length+p.2.1.length+1:Nat):Int)) (Rq S) (AO (x:=qU (p.1.length+p.2.1.length+1) false) (by unfold EC;rw[mZ ⟨nJ,nJ⟩,oF]) ?_);refine BK (λk (l:List Bool)=>l.length=p.1.length+p.2.1.length+1∧ ∀s:Nat,l[s]? =some true→s<k) nJ ⟨nP,λs h=>?_⟩ (λk l C i=>?_) λl i=>?_
 ·rw[List.getElem?_replicate]at h;split at h<;>simp at h
 ·refine Ex nJ nJ (AB ⟨by simp[i.1],λs h=>?_⟩);rw[oF]at h;rcases Xe h with h | h
  ·omega
  ·have:=i.2 s h;omega
 ·obtain⟨N,O⟩:=i;refine Bz (λ(z:Bool×List Bool)=>z.2.length=p.1.length+p.2.1.length+1∧ ∀s:Nat,z.2[s]? =some true→Pro (nT p) p.2.2.1 (s:Int)) (λz=>CW z.2 *2+(if z.1 then 1 else 0)) (λl=>l.length=p.1.length+p.2.1.length+1∧ ∀s:Nat,l[s]? =some true→Pro (nT p) p.2.2.1 (s:Int)) ⟨N,λs h=>.term nJ (by have:=O s h;omega)⟩ (λz d=>?_) λl i=>AB i;obtain⟨c,m⟩:=z;obtain⟨D,E⟩:=d;dsimp only at D E ⊢;refine AR (λe=>?_) λe=>BB ⟨D,E⟩;subst e;refine BK (λk (z:Bool×List Bool)=>z.2.length=p.1.length+p.2.1.length+1∧(∀s:Nat,z.2[s]? =some true→Pro (nT p) p.2.2.1 (s:Int))∧CW z.2≤CW m∧(z.1=true→CW z.2<CW m)) nJ ⟨D,E,oW _,nP⟩ (λk z C d=>?_) λz d=>Bd ⟨⟨d.1,d.2.1⟩,?_⟩
  ·obtain⟨g,w⟩:=z;obtain⟨F,t,u,n⟩:=d;dsimp only at F t u n ⊢;have o:=bD C;have a:=pW C;obtain⟨r,G⟩:∃r,p.2.2.1[k] =r:=⟨_,rfl⟩;rw[G]at o a;have hL:=S.left r a;have P:=S.right r a;have hS:=S.short r a;refine Bz (λ(z:Int×Bool)=>∃j:Nat,z.1=(j:Int)∧j≤r.2.1.length∧(z.2=true→ ∀s∈r.2.1.take j,Pro (nT p) p.2.2.1 s)) (λz=>r.2.1.length - z.1.toNat) (λb=>b=true→ ∀s∈r.2.1,Pro (nT p) p.2.2.1 s) ⟨0,rfl,qQ _,nP⟩ (λz d=>?_) λb v=>?_
   ·obtain⟨j',b⟩:=z;obtain⟨j,J,h2,y⟩:=d;dsimp only at J y ⊢;subst J;refine AS o (AR (λe=>?_) λe=>BB ?_)
    ·have f:j<r.2.1.length:=by have:=mX e;omega
     have K:=bD f;have A:=P _ (pW f);refine AM (Q:=λL=>L=true→ ∀s∈r.2.1.take (j+1),Pro (nT p) p.2.2.1 s) (AR (λv=>?_) λv=>AB nP) λL H=>?_
     ·have B:(r.2.1[j]).toNat<w.length:=nJ
      refine AS o (AS K (Cx A.1 (bD B) (AB λR s I=>?_)));rcases(Bf K).1 I with h | rfl
      ·exact y v s h
      ·have:=t _ (by rw[bD B,R])
       rwa [oV A.1]at this
     ·refine Bd ⟨⟨j+1,by rw[w64 nJ nJ];omega,f,H⟩,?_⟩;rw[w64 nJ nJ];omega
    ·have:j=r.2.1.length:=by have:=mY e;omega
     subst this;rw[pE (oW _)]at y;exact y
   ·have B:r.1.toNat<w.length:=nJ
    have q:=bD B;refine AM (Q:=λc=>c=true→b=true∧w[r.1.toNat]? =some false) (AR (λh=>AS o (Cx nJ q (AB λT=>⟨h,by rw[q];simpa using T⟩))) λh=>AB nP) λc e=>AM (Q:=λ(z:Bool×List Bool)=>z.2.length=p.1.length+p.2.1.length+1∧(∀s:Nat,z.2[s]? =some true→Pro (nT p) p.2.2.1 (s:Int))∧CW z.2≤CW m∧(z.1=true→CW z.2<CW m)) (AR (λh=>?_) λh=>AB ⟨F,t,u,n⟩) λz d=>AB d;have⟨U,V⟩:=e h;have W:=Rr V;refine AS o (Ex nJ nJ (AB ⟨by simp[F],λs A=>?_,nO,λ_=>nO⟩));rcases Xe A with rfl | h
    ·rw[oV nJ];exact .rule a (v U)
    ·exact t s h
  ·obtain⟨_,_,u,n⟩:=d;obtain⟨g,w⟩:=z;dsimp only at u n ⊢;cases g with
   |true=>have:=n rfl;simp;omega
   |false=>simp;omega
theorem di(S:Sy p):Ok (Dl p) λl=>l.length=p.1.length+p.2.1.length+1:=by
 have M:=S.t1;have N:=S.v1;have O:=S.few;have D:nT p=(p.1.length:Int):=rfl;unfold Dl;refine AO (x:=((p.1.length+p.2.1.length+1:Nat):Int)) (Rq S) (AO (x:=qU (p.1.length+p.2.1.length+1) false) (by unfold EC;rw[mZ ⟨nJ,nJ⟩,oF]) (AO (x:=((p.1.length+p.2.1.length+1:Nat):Int)) (Rq S) ?_));have E:bO .i64 (((p.1.length+p.2.1.length+1:Nat):Int) - 1)=((p.1.length+p.2.1.length:Nat):Int):=by rw[w64 nJ nJ];omega
 rw[E];refine Ex nJ nN<|Bz (λ(z:Bool×List Bool)=>z.2.length=p.1.length+p.2.1.length+1) (λz=>CW z.2 *2+(if z.1 then 1 else 0)) (λl=>l.length=p.1.length+p.2.1.length+1) nP (λz d=>?_) λl F=>AB F;obtain⟨c,m⟩:=z;dsimp only at d ⊢;refine AR (λe=>?_) λe=>BB d;subst e;refine BK (λk (z:Bool×List Bool)=>z.2.length=p.1.length+p.2.1.length+1∧CW z.2≤CW m∧(z.1=true→CW z.2<CW m)) nJ ⟨d,oW _,nP⟩ (λk z v d=>?_) λz d=>Bd ⟨d.1,?_⟩
 ·obtain⟨g,w⟩:=z;have i:=bD v;have a:=pW v;obtain⟨r,q⟩:∃r,p.2.2.1[k] =r:=⟨_,rfl⟩;rw[q]at i a;have P:=S.left r a;have G:=S.right r a;have R:=S.short r a;refine Bz (λ(z:Int×Bool×List Bool)=>∃j:Nat,z.1=(j:Int)∧j≤r.2.1.length∧z.2.2.length=p.1.length+p.2.1.length+1∧CW z.2.2≤CW m∧(z.2.1=true→CW z.2.2<CW m)) (λz=>r.2.1.length - z.1.toNat) (λ(z:Bool×List Bool)=>z.2.length=p.1.length+p.2.1.length+1∧CW z.2≤CW m∧(z.1=true→CW z.2<CW m)) ⟨0,rfl,qQ _,d⟩ (λz d=>?_) λb H=>AB H;obtain⟨T,b,w⟩:=z;obtain⟨j,y,U,o,s,t⟩:=d;dsimp only at y o s t ⊢;subst y;refine AS i (AR (λe=>?_) λe=>BB ⟨o,s,t⟩);have f:j<r.2.1.length:=by have:=mX e;omega
  have A:=bD f;have B:=G _ (pW f);have I:r.1.toNat<w.length:=nJ
  have u:(r.2.1[j]).toNat<w.length:=nJ
  have n:=bD u;refine AM (Q:=λc=>c=true→w[(r.2.1[j]).toNat]? =some false) (AS i (Cx nJ (bD I) (AR (λh=>AS i (AS A (Cx B.1 n (AB λJ=>by rw[n];simpa using J)))) λh=>AB nP))) λc e=>?_;refine AM (Q:=λ(z:Bool×List Bool)=>z.2.length=p.1.length+p.2.1.length+1∧CW z.2≤CW m∧(z.1=true→CW z.2<CW m)) (AR (λh=>?_) λh=>AB ⟨o,s,t⟩) λz d=>?_
  ·have K:=Rr (e h);exact AS i (AS A (Ex B.1 nJ (AB ⟨by simp[o],nO,λ_=>nO⟩)))
  ·refine Bd ⟨⟨j+1,by rw[w64 nJ nJ];omega,f,d⟩,?_⟩;rw[w64 nJ nJ];omega
 ·obtain⟨_,L,C⟩:=d;obtain⟨g,w⟩:=z;dsimp only at L C ⊢;cases g with
  |true=>have:=C rfl;simp;omega
  |false=>simp;omega
theorem bG(S:Sy p):Ok (Db p) λr=>r.2=0→ ∀v:Nat,v<p.2.1.length→Pro (nT p) p.2.2.1 ((p.1.length+v:Nat):Int):=by
 have w:=S.t1;have y:=S.v1;unfold Db;refine AM (bF S) λl s=>AM (di S) λl' e=>?_;obtain⟨n,t⟩:=s;have n:l.length=p.1.length+p.2.1.length+1:=n;have e:l'.length=p.1.length+p.2.1.length+1:=e;have o:bO .i64 (((p.1.length+p.2.1.length+1:Nat):Int) - 1)=((p.1.length+p.2.1.length:Nat):Int):=by rw[w64 nJ nJ];omega
 refine Bz (λz=>∃k:Nat,z=((p.1.length+k:Nat):Int)∧k≤p.2.1.length∧ ∀v,v<k→l[p.1.length+v]? =some true) (λz=>p.1.length+p.2.1.length - z.toNat)
  (λb=>(∃z,b= .done (z,18))∨(b= .next ()∧ ∀v,v<p.2.1.length→l[p.1.length+v]? =some true)) ⟨0,rfl,qQ _,λv a=>nJ⟩ (λz g=>?_) λb j=>?_
 ·obtain⟨k,rfl,u,q⟩:=g;refine AO (x:=((p.1.length+p.2.1.length+1:Nat):Int)) (Rq S) ?_;rw[o];refine AR (λd=>?_) λd=>BB (.inr ⟨rfl,λv a=>q v (by have:=mY d;omega)⟩);have c:k<p.2.1.length:=by have:=mX d;omega
  have f:=bD (l:=l) (i:=p.1.length+k) nJ;refine AS f (AR (λh=>BB (.inl ⟨_,rfl⟩)) λh=>Bd ⟨⟨k+1,by rw[w64 nJ nJ];omega,c,λv a=>?_⟩,?_⟩)
  ·rcases oU.1 a with a | rfl
   ·exact q v a
   ·rw[f]
    have:l[p.1.length+v] =true:=by simpa using h
    rw[this]
  ·rw[w64 nJ nJ];omega
 ·rcases j with⟨z,rfl⟩|⟨rfl,j⟩
  ·exact AB λh=>by simp at h
  ·refine Bz (λz=>∃k:Nat,z=((p.1.length+k:Nat):Int)∧k≤p.2.1.length) (λz=>p.1.length+p.2.1.length - z.toNat)
    (λb=>(∃z,b= .done (z,17))∨b= .next ()) ⟨0,rfl,qQ _⟩ (λz g=>?_) λb m=>?_
   ·obtain⟨k,rfl,u⟩:=g;refine AO (x:=((p.1.length+p.2.1.length+1:Nat):Int)) (Rq S) ?_;rw[o];refine AR (λd=>?_) λd=>BB (.inr rfl);have c:k<p.2.1.length:=by have:=mX d;omega
    have f:=bD (l:=l') (i:=p.1.length+k) nJ;refine AS f (AR (λh=>BB (.inl ⟨_,rfl⟩)) λh=>Bd ⟨⟨k+1,by rw[w64 nJ nJ];omega,c⟩,?_⟩);rw[w64 nJ nJ];omega
   ·rcases m with⟨z,rfl⟩|rfl
    ·exact AB λh=>by simp at h
    ·exact AB λ_ v a=>t _ (j v a)
end
structure MkI (p:dtP) (B:List dtK) (E:List (List Edge)) (d:LkD) (tt:Int):Prop where
 all:EZ p B E d.fa
 dp:d.p=p
 dA:d.A=BG p B E tt
 lk:gS p B E d.L
theorem fA{nt e:Nat}{p:dtP}(H:Pl nt e p):Sy p:=by
 have i:=H.terms.len;have j:=H.nt5;have l:=H.vars;have m:=H.room;have f:nT p=(p.1.length:Int):=rfl;obtain⟨st,n,o,g⟩:=H.first;have a:∀r∈p.2.2.1,(nT p≤r.1∧r.1≤nT p+(p.2.1.length:Int))∧(∀s∈r.2.1,0≤s∧s<nT p+(p.2.1.length:Int))∧r.2.1.length≤1000:=λr b=>by
  obtain⟨k,c⟩:=pD b;rcases rA k with rfl | h
  ·rw[g]at c;cases c;refine⟨⟨nO,nO⟩,λs d=>?_,nP⟩
   have:s=st:=by simpa using d
   omega
  ·have:=H.rules k r h c
   have q:=this.left;refine⟨⟨nJ,nJ⟩,λs d=>?_,by have:=this.few;omega⟩
   have:=this.right s d
   omega
 exact⟨nJ,nJ,nJ,λr b=>(a r b).1,λr b=>(a r b).2.1,λr b=>(a r b).2.2⟩
theorem bH{nt b:Nat}{p:dtP}(H:Pl nt b p)(c:∀v:Nat,v<p.2.1.length→Pro (nT p) p.2.2.1 ((p.1.length+v:Nat):Int)){B:List dtK}{E:List (List Edge)}(d:Fin p B E)(e:B.length≤300){fa:dtF}(a:aY p fa):EZ p B E fa:=by have h:=H.terms.len;have i:=H.vars;have f:nT p=(p.1.length:Int):=rfl;obtain⟨st,j,k,g⟩:=H.first;refine⟨H.vp,fA H,d,iU H c,e,nJ,a,st,?_⟩;rw[g];congr 2;omega
def Cq(R:Rl)(l:List Item):nH:=(l.filter λx=>match R[x.1.toNat]? with
 |some r=>x.2==(r.2.1.length:Int)
 |none=>false).map (·.1)
section
variable {p:dtP}{B:List dtK}{E:List (List Edge)}{d:LkD}{tt:Int}
theorem Pz(R:Rl)(l:List Item):(Cq R l).length≤l.length:=by unfold Cq;rw[List.length_map];exact qL _ _
theorem N7{R:Rl}{l:List Item}{x:Item}{r:Ap}(h:R[x.1.toNat]? =some r):Cq R (l++ [x])=if x.2=(r.2.1.length:Int) then Cq R l++ [x.1] else Cq R l:=by
 unfold Cq;rw[rC,List.map_append];by_cases e:x.2=(r.2.1.length:Int)
 ·rw[mZ e];simp[h,e]
 ·rw[nA e];simp[h,e]
theorem YY(M:MkI p B E d tt){n:Nat}{b:dtK}(h:B[n]? =some b):Qm (some d) (n:Int)=some (Cq p.2.2.1 b.2.1):=by
 obtain⟨a,u,fa,steps,L⟩:=d;obtain⟨H,i,j,m⟩:=M;dsimp only at H i j m;subst i;subst j;have⟨v,o,w,y,A⟩:=H.fin.good H.vp h;refine rF ?_;unfold Qm EY;rw[oK];refine AO (VE H.vp H.fin h)<|BK (λk (z:nH)=>z=Cq a.2.2.1 (b.2.1.take k)) nJ (by simp[Cq]) (λk z q c=>?_) λz c=>AB ?_
 ·subst c;have e:=bD q;obtain⟨x,f⟩:∃x,b.2.1[k] =x:=⟨_,rfl⟩;rw[f]at e;have⟨x0,x1,r,l,s⟩:=o.ok x (oB e);have hd:(Cq a.2.2.1 (b.2.1.take k)).length≤10100:=by
   have:=Pz a.2.2.1 (b.2.1.take k)
   rw[List.length_take]at this;omega
  refine AS e (Cx x0 l ?_);have t:b.2.1.take (k+1)=b.2.1.take k++ [x]:=by rw[qG,e];rfl
  rw[t,N7 l];refine AM (Q:=λz=>z=if x.2=(r.2.1.length:Int) then Cq a.2.2.1 (b.2.1.take k) ++ [x.1] else Cq a.2.2.1 (b.2.1.take k)) (AR (λg=>?_) λg=>AB ?_) λz c=>AB c
  ·rw[mZ (eq_of_beq g)];exact Az nN (AB rfl)
  ·rw[nA (by simpa using g)]
 ·subst c;rw[pE (oW _)]
theorem bI(M:MkI p B E d tt){n:Nat}{b:dtK}(f:B[n]? =some b){k:Int}:k∈Cq p.2.2.1 b.2.1↔∃(a:Nat) (r:Ap),k=(a:Int)∧p.2.2.1[a]? =some r∧It p.2.2.1 (KB B) n a r.2.1.length:=by
 have H:=M.all;have⟨o,i,q,s,t⟩:=H.fin.good H.vp f;unfold Cq;rw[List.mem_map];constructor
 ·rintro⟨x,j,rfl⟩;have⟨g,h⟩:=List.mem_filter.1 j;have⟨x0,x1,r,c,l⟩:=i.ok x g;rw[c]at h;refine⟨x.1.toNat,r,nJ,c,?_⟩;have e:x=((x.1.toNat:Int),(r.2.1.length:Int)):=Prod.ext (by simp only;omega) (eq_of_beq h);unfold It;rw[←e];exact(Gb H.vp H.fin f x).1 g
 ·rintro⟨a,r,rfl,c,m⟩;refine⟨((a:Int),(r.2.1.length:Int)),List.mem_filter.2 ⟨(Gb H.vp H.fin f _).2 m,?_⟩,rfl⟩;dsimp only;rw[oF,c];simp
theorem Xf(M:MkI p B E d tt){s k:Nat}(g:k<p.2.2.1.length):Ok (NY (some d) (s:Int) (k:Int)) λt=>(∀j,j∈t↔Lk (nT p) p.2.2.1 (KB B) (TrB p B E) s k j)∧t.length≤64000:=by
 obtain⟨m,n,fa,steps,L⟩:=d;obtain⟨H,a,b,f⟩:=M;dsimp only at H a b f;subst a;subst b;unfold NY;rw[oK];dsimp only;cases hg:BZ ((s:Int),(k:Int)) L with
 |none=>exact AB ⟨λj=>⟨(λh=>by cases h),λh=>nC h (f.none_ s k j hg g)⟩,nP⟩
 |some x=>
  obtain⟨c,o,s',i,e,_,_,l⟩:=f.some_ _ _ hg;have a:s=s':=by have:=(Prod.mk.inj e).1;omega
  have b:k=i:=by have:=(Prod.mk.inj e).2;omega
  subst a b;dsimp only;rw[JO c];refine AB ⟨λj=>by rw[Fk c,l],?_⟩;have q:=Pn x;have r:=c.len;have u:=c.hi;omega
end
end Go.Proofs.YtfnppeejaimnbaaGreatDoor

namespace Go.Proofs.YtfnppeejaimnbaaGreatDoor
open Go Go.Eng Dg
theorem UD{β γ:Type}{P:γ→Prop}{f:Int→Unit→Option (AX Unit β)}{k:AX Unit β→Option γ}(n:Nat)(g:n≤1000000000)(a:∀i:Nat,i<n→f (i:Int) ()=some (.next ()))(c:Ok (k (.next ())) P):Ok ((C6 (0:Int) (n:Int) () f).bind k) P:=by refine Gs (λ_ _=>True) (λ_=>False) nJ trivial (λj _ d _=>⟨_,a j d,.inl ⟨(),rfl,trivial⟩⟩) (λ_ _=>c) λb e=>e.elim
section
variable {p:dtP}{B:List dtK}{E:List (List Edge)}{d:LkD}{tt:Int}
theorem P0{l:nH}{b:dtK}(M:MkI p B E d tt){n:Nat}(a:B[n]? =some b):(Cq p.2.2.1 b.2.1).length≤10100:=by
 have:=Pz p.2.2.1 b.2.1
 have:=(M.all.fin.good M.all.vp a).2.2.2.2
 omega
theorem YZ(M:MkI p B E d tt){n:Nat}{b:dtK}(a:B[n]? =some b){i:Nat}{k:Int}(h:(Cq p.2.2.1 b.2.1)[i]? =some k):∃(k':Nat) (r:Ap),k=(k':Int)∧p.2.2.1[k']? =some r∧It p.2.2.1 (KB B) n k' r.2.1.length:=(bI M a).1 (oB h)
end
end Go.Proofs.YtfnppeejaimnbaaGreatDoor
namespace Go.Proofs.YtfnppeejaimnbaaGreatDoor
open Go Go.Eng
noncomputable def bJ(l:nH):Option Int:=(idx l 0).bind λa=>forS (σ:=Int) 1 (l.length:Int) a λi z=>(idx l i).bind λx=>some (if x<z then x else z)
theorem dj{φ:AD}{h:AH}{F:List Chk}{b:Slc}{l:nH}(k:mE (oE .i64) φ b l)(d:St φ F h){r:Int}(hd:bJ l=some r):
 nX hM 142 [.slice b.1 b.2.1 b.2.2] h (An (mN φ r F)):=by
 refine A9 mixed func142 ?_;rw[KG];unfold G0;unfold bJ at hd;have⟨a,f,hd⟩:=bS hd;have n:=k.length;have⟨_,m,_⟩:=B9 f;refine AY (λ(_:Unit) w (_:Unit)=>w=h) (g:=()) ?_ ?_
 ·refine AW (mV nJ)<|lG rfl rfl
 ·rintro _ w rfl;refine NR k f d.sub<|Af (λ(y:Int×Int×Unit) w (g:Int)=>y.2.1=g∧St φ F w) (g:=r) ?_ ?_
  ·refine By hd (λi (y:Int×Int×Unit) w (g:Int)=>y.1=i∧y.2.1=g∧St φ F w) rfl ⟨rfl,rfl,d⟩ ?_ ?_
   ·rintro i z w g e ⟨rfl,rfl,st⟩ c o hlt hw;refine Ad (by rw[n];exact mW hlt) ?_;have⟨x,j,c⟩:=bS c;refine NR k j st.sub ?_;obtain rfl:=iS c;exact lH rfl rfl ⟨hw,rfl,st⟩
   ·rintro i z w ⟨rfl,H⟩ hge;refine AW (by rw[n];exact mV (qM.2 hge))<|AJ (lI rfl H)
  ·rintro y w ⟨rfl,st⟩;exact AC ⟨φ,y.2.1,pK _,rfl,rfl,st⟩
section
variable {p_0:Pl6}{d_p_0:As}{term_1 r:Int}{g_0:nG}
section
variable {φ:AD}{h:AH}{F:List Chk}
theorem N8:Fy hM 54 54 62 7:=⟨rG,.inl rG,⟨t62,nU,rfl,⟨_,rfl,rfl⟩,nQ,nQ⟩,nQ⟩
theorem H8:Fy hM 57 57 30 1:=⟨rH,.inl rH,⟨t30,nU,rfl,⟨_,rfl,rfl⟩,nQ,nQ⟩,nQ⟩
theorem N9:Fy hM 78 78 81 1:=⟨rI,.inl rI,⟨t81,nU,rfl,⟨_,rfl,rfl⟩,nQ,nQ⟩,nQ⟩
theorem Wd:Fy hM 81 81 50 2:=⟨rJ,.inl rJ,⟨t50,nU,rfl,⟨_,rfl,rfl⟩,nQ,nQ⟩,nQ⟩
noncomputable def FR(p_0:As)(term_1:Int):Option Int:=(cond (decide (term_1< 0)) (some true) (some (decide (term_1≥ (p_0.2.2.2.1.length:Int))))).bind λb=>cond b (some 0) ((idx p_0.2.2.2.1 term_1).bind λa=>some a)
theorem O6(d:G8 φ p_0 d_p_0)(n:St φ F h)(hd:FR d_p_0 term_1=some r):
 nX hM 170 [aG p_0,lN term_1] h (An (mN φ r F)):=by
 refine AT mixed func170 (O5 ..) ?_;have f:p_0.2.2.2.1.2.1=oL d_p_0.2.2.2.1:=d.k3.length;refine D5 (t:=p_0) n λr1 k c=>?_;have⟨i,a,hd⟩:=bS hd;refine AY (λy o g=>∃ψ:AD,Sub φ ψ∧y.1=g∧St ψ (Wq2 r1 p_0::F) o) (g:=i) ?_ ?_
 ·refine mP a rfl (λa=>?_) (λa=>?_)
  ·exact lG rfl ⟨φ,sb,iS a,c⟩
  refine AA c rfl ?_;obtain rfl:=iS a;exact lG rfl ⟨φ,sb,(by rw[f]),c⟩
 rintro p l ⟨e,m,rfl,b⟩;refine mP hd rfl (λhd=>?_) (λhd=>?_)
 ·exact AC ⟨e,(0:Int),sb,rfl,iS hd,b.tail⟩
 refine AA b rfl<|gx d.k3 hd b λj hd=>?_;exact AC ⟨e,j,sb,rfl,iS hd,b.tail⟩
noncomputable def E6(p_0:As)(a:Int):Option Int:=(cond (decide (a< 0)) (some true) (some (decide (a≥ (p_0.2.2.1.length:Int))))).bind λc=>cond c (some 0) ((idx p_0.2.2.1 a).bind λb=>some b.2.2)
theorem OA{n:Int}(d:G8 φ p_0 d_p_0)(o:St φ F h)(hd:E6 d_p_0 n=some r):
 nX hM 171 [aG p_0,lN n] h (An (mN φ r F)):=by
 refine AT mixed func171 (N6 ..) ?_;have f:p_0.2.2.1.2.1=oL d_p_0.2.2.1:=d.k2.length;refine D5 (t:=p_0) o λr1 k c=>?_;have⟨i,a,hd⟩:=bS hd;refine AY (λy p g=>∃ψ:AD,Sub φ ψ∧y.1=g∧St ψ (Wq2 r1 p_0::F) p) (g:=i) ?_ ?_
 ·refine mP a rfl (λa=>?_) (λa=>?_)
  ·exact lG rfl ⟨φ,sb,iS a,c⟩
  refine AA c rfl ?_;obtain rfl:=iS a;exact lG rfl ⟨φ,sb,(by rw[f]),c⟩
 rintro q l ⟨e,m,rfl,b⟩;refine mP hd rfl (λhd=>?_) (λhd=>?_)
 ·exact AC ⟨e,(0:Int),sb,rfl,iS hd,b.tail⟩
 refine AA b rfl<|ixS W4 d.k2 hd b λj hd=>?_;exact AC ⟨e,j.2.2,sb,rfl,iS hd,b.tail⟩
noncomputable def DD(a:Int):Option (Int×Int):=cond (a==0) (some (3,0)) (some (2,a))
theorem Fg{l:Int}(m:St φ F h){r:(Int×Int)}(hd:DD l=some r):
 nX hM 140 [lN l] h (An λv n=>∃ψ:AD,∃y:Int×Int×Unit,Sub φ ψ∧v=mJ.val y∧(y.1,y.2.1)=r∧St ψ F n):=by
 refine AT mixed func140 (N5 ..)<|AU (vs:=[.int .i64 (0:Int),.int .i64 (0:Int)]) m λr1 f c=>mP hd rfl (λhd=>?_) (λhd=>?_)
 ·refine AQ c rfl rfl λg d=>AQ d rfl rfl λi a=>AA a rfl<|AA a rfl ?_;exact AC ⟨φ,((3:Int),(0:Int),()),sb,rfl,iS hd,a.tail⟩
 refine AQ c rfl rfl λj e=>AQ e rfl rfl λk b=>AA b rfl<|AA b rfl ?_;exact AC ⟨φ,((2:Int),l,()),sb,rfl,iS hd,b.tail⟩
noncomputable def HR(p_0:As)(term_1:Int)(shift_2:EO)(rule_3:EO):Option (Int×Int×Bool):=
 (FR p_0 term_1).bind λa=>
 (E6 p_0 rule_3.2).bind λb=>
 (cond (decide (a≤0))
 (some true)
 (some (decide (b≤0)))).bind λk=>
 cond k
 (some (shift_2.1,shift_2.2,true))
 ((((((((((cond (b==a)
  ((idx p_0.2.2.2.2.1 a).bind λl=>
   some (l==3))
  (some false)).bind λm=>
  cond m
  (some (oP ()))
  ((cond (b==a)
   ((idx p_0.2.2.2.2.1 a).bind λn=>
    some (n==1))
   (some false)).bind λo=>
   cond o
   (some (oM (.inl (0,0))))
   (cond (decide (b>a))
    (some (oM (.inr (.inl (0,0)))))
    (some (oM (.inr (.inr (0,0)))))))):Option (AX Unit (Sum EO (Sum EO EO)))).bind λc=>match c with
  |.next r=>
   some (oM (.inr (.inr (0,0,false))))
  |.done g=>(match g with | .inl p=>some (oP p)|.inr (.inl p)=>some (oM (.inl p))|.inr (.inr p)=>some (oM (.inr (.inl p))))):Option (AX EO (Sum EO (Sum EO (Int×Int×Bool))))).bind λd=>match d with
  |.next q=>
   some (oP q)
  |.done h=>(match h with | .inl p=>some (oP p)|.inr (.inl p)=>some (oM (.inl p))|.inr (.inr p)=>some (oM (.inr p)))):Option (AX EO (Sum EO (Int×Int×Bool)))).bind λe=>match e with
  |.next s=>
   some (oM (rule_3.1,rule_3.2,false))
  |.done i=>(match i with | .inl p=>some (oP p)|.inr p=>some (oM p))):Option (AX EO (Int×Int×Bool))).bind λf=>match f with
  |.next t=>
   some (shift_2.1,shift_2.2,false)
  |.done j=>some j)
theorem Rs{A:Int×Int×Unit}{B:Int×Int×Unit}(o:G8 φ p_0 d_p_0)(S:St φ F h){r:(Int×Int×Bool)}(hd:HR d_p_0 term_1 (A.1,A.2.1) (B.1,B.2.1)=some r):
 nX hM 141 [aG p_0,lN term_1,.agg #[lN A.1,lN A.2.1],.agg #[lN B.1,lN B.2.1]] h (An λv T=>∃ψ:AD,∃y:(Int×Int×Unit)×Bool×Unit,Sub φ ψ∧v=mK.val y∧(y.1.1,y.1.2.1,y.2.1)=r∧St ψ F T):=by
 refine AT mixed func141 (Rm ..)<|D5 (t:=p_0) S λr1 ch al=>AU (vs:=[.int .i64 A.1,.int .i64 A.2.1]) al λE cl ap=>AU (vs:=[.int .i64 B.1,.int .i64 B.2.1]) ap λr3 cm U=>AU (vs:=[.int .i64 (0:Int),.int .i64 (0:Int)]) U λD cp p=>BS (t:=p_0) p.at3<|BS (t:=p_0) p.at3<|AA p.at1 rfl ?_;have⟨cs,V,hd⟩:=bS hd;refine AK (O6 o p V) ?_;rintro _ cw ⟨cx,G,d0,rfl,rfl,c⟩;refine⟨G,rfl,AP (oG (b:=r3) (j:=1) c.at1 rfl)<|AP (oG (b:=r1) (j:=0) c.at3 rfl)<|AP (oG (b:=r1) (j:=1) c.at3 rfl)<|AP (oG (b:=r1) (j:=2) c.at3 rfl)<|AP (oG (b:=r1) (j:=3) c.at3 rfl)<|AP (oG (b:=r1) (j:=4) c.at3 rfl)<|AP (oG (b:=r1) (j:=5) c.at3 rfl) ?_⟩;have⟨d1,W,hd⟩:=bS hd;refine AK (OA o.up c W) ?_;rintro _ d2 ⟨w,H,d3,rfl,rfl,O⟩;refine⟨H,rfl,?_⟩;have⟨X,l,hd⟩:=bS hd;refine AY (λy C g=>∃ψ:AD,Sub w ψ∧y.1=g∧St ψ (Wq8 D::Wq9 r3 B::Wq9 E A::Wq2 r1 p_0::F) C) (g:=X) ?_ ?_
 ·refine mP l rfl (λl=>?_) (λl=>?_)
  ·have Y:=O.at3;exact lG rfl ⟨w,sb,iS l,Y.at3.at3.at3⟩
  exact lG rfl ⟨w,sb,iS l,O.at3.at3.at3.at3⟩
 rintro Z d4 ⟨d,d5,rfl,q⟩;refine mP hd rfl (λhd=>?_) (λhd=>?_)
 ·refine AA q.at2 rfl<|AA q.at2 rfl<|AQ q rfl rfl λd6 b4=>AQ b4 rfl rfl λd7 z=>AA z rfl<|AA z rfl ?_;exact AC ⟨d,((A.1,A.2.1,()),true,()),sb,rfl,iS hd,z.tail.tail.tail.tail⟩
 have s:=rS (r:=FI) (x:=((0:Int),(0:Int))) q ⟨[_],_,rfl,rfl,rfl⟩;have⟨b5,m,hd⟩:=bS hd;refine Af (λy C g=>∃ψ:AD,∃P:EO,Sub d ψ∧oP P=g∧St ψ (cO 50 (pN FI) (lF D) P::Wq9 r3 B::Wq9 E A::Wq2 r1 p_0::F) C) (g:=b5) ?_ ?_
 ·have⟨b6,i,m⟩:=bS m;refine Af (λy C g=>∃ψ:AD,∃Q:EO,Sub d ψ∧oP Q=g∧St ψ (cO 50 (pN FI) (lF D) Q::Wq9 r3 B::Wq9 E A::Wq2 r1 p_0::F) C) (g:=b6) ?_ ?_
  ·have⟨b7,k,i⟩:=bS i;refine Af (λy C g=>∃ψ:AD,∃R:EO,Sub d ψ∧oP R=g∧St ψ (cO 50 (pN FI) (lF D) R::Wq9 r3 B::Wq9 E A::Wq2 r1 p_0::F) C) (g:=b7) ?_ ?_
   ·have⟨b8,a,k⟩:=bS k;refine Af (λy C g=>∃ψ:AD,Sub d ψ∧oP ()=g∧St ψ (cO 50 (pN FI) (lF D) ((0:Int),(0:Int))::Wq9 r3 B::Wq9 E A::Wq2 r1 p_0::F) C) (g:=b8) ?_ ?_
    ·have⟨b9,e,a⟩:=bS a;refine AY (λy C g=>∃ψ:AD,Sub d ψ∧y.1=g∧St ψ (cO 50 (pN FI) (lF D) ((0:Int),(0:Int))::Wq9 r3 B::Wq9 E A::Wq2 r1 p_0::F) C) (g:=b9) ?_ ?_
     ·refine mP e rfl (λe=>?_) (λe=>?_)
      ·refine AA s.at3 rfl<|gx o.k4 e s λba e=>?_;exact lG rfl ⟨d,sb,iS e,s.at3.at3.at3.at3⟩
      exact lG rfl ⟨d,sb,iS e,s.at3.at3.at3.at3⟩
     rintro f0 d8 ⟨u,d9,rfl,n⟩;refine mP a rfl (λa=>?_) (λa=>?_)
     ·have bb:=n.at3;exact lI rfl ⟨u,sb,iS a,bb.at3.at3.at3⟩
     have⟨bd,f,a⟩:=bS a;refine AY (λy C g=>∃ψ:AD,Sub u ψ∧y.1=g∧St ψ (cO 50 (pN FI) (lF D) ((0:Int),(0:Int))::Wq9 r3 B::Wq9 E A::Wq2 r1 p_0::F) C) (g:=bd) ?_ ?_
     ·refine mP f rfl (λf=>?_) (λf=>?_)
      ·refine AA n.at3 rfl<|gx o.k4 f n λbf f=>?_;exact lG rfl ⟨u,sb,iS f,n.at3.at3.at3.at3⟩
      exact lG rfl ⟨u,sb,iS f,n.at3.at3.at3.at3⟩
     rintro f1 dd ⟨a0,dk,rfl,I⟩;refine mP a rfl (λa=>?_) (λa=>?_)
     ·have bg:=I.at3;obtain rfl:=iS a;obtain rfl:=iS k;exact Fi rfl (lI rfl ⟨a0,((0:Int),(0:Int)),sb,rfl,bg.at3.at3.at3⟩)
     refine mP a rfl (λa=>?_) (λa=>?_)
     ·have bi:=I.at3;obtain rfl:=iS a;obtain rfl:=iS k;obtain rfl:=iS i;exact Fi rfl (Fi rfl (lI rfl ⟨a0,((0:Int),(0:Int)),sb,rfl,bi.at3.at3.at3⟩))
     obtain rfl:=iS a;obtain rfl:=iS k;obtain rfl:=iS i;obtain rfl:=iS m;exact Fi rfl (Fi rfl (Fi rfl (lI rfl ⟨a0,((0:Int),(0:Int)),sb,rfl,I.at3.at3.at3.at3⟩)))
    rintro f2 dl ⟨bj,dm,rfl,bl⟩;obtain⟨bn,dn,bp,⟨_,_,rfl,rfl,rfl⟩,bq⟩:=qV bl;obtain rfl:D=bn:=by simpa using bp
    refine AQ bq rfl rfl λdp bs=>AQ bs rfl rfl λds J=>AA J rfl<|AA J rfl ?_;obtain rfl:=iS k;obtain rfl:=iS i;obtain rfl:=iS m;obtain rfl:=iS hd;exact Ah (Ah (Ah (AC ⟨bj,(((0:Int),(0:Int),()),false,()),sb,rfl,rfl,J.tail.tail.tail.tail⟩)))
   rintro f3 dx ⟨bt,bx,dy,rfl,bz⟩;exact lJ rfl ⟨bt,bx,sb,iS i,bz.at3.at3.at3.at3⟩
  rintro f4 e0 ⟨c0,e1,e2,rfl,K⟩;refine AA K.at1 rfl<|AA K.at1 rfl ?_;obtain⟨c1,e3,c2,⟨_,_,rfl,rfl,rfl⟩,c3⟩:=qV K;obtain rfl:D=c1:=by simpa using c2
  refine AQ c3 rfl rfl λe4 c4=>AQ c4 rfl rfl λe5 L=>AA L rfl<|AA L rfl ?_;obtain rfl:=iS m;obtain rfl:=iS hd;exact Ah (AC ⟨c0,((B.1,B.2.1,()),false,()),sb,rfl,rfl,L.tail.tail.tail.tail⟩)
 rintro f5 e6 ⟨c5,e7,e8,rfl,M⟩;refine AA M.at2 rfl<|AA M.at2 rfl ?_;obtain⟨c6,e9,c7,⟨_,_,rfl,rfl,rfl⟩,c8⟩:=qV M;obtain rfl:D=c6:=by simpa using c7
 refine AQ c8 rfl rfl λea c9=>AQ c9 rfl rfl λed N=>AA N rfl<|AA N rfl ?_;exact AC ⟨c5,((A.1,A.2.1,()),false,()),sb,rfl,iS hd,N.tail.tail.tail.tail⟩
noncomputable def Du(p_0:As)(term_1:Int)(shift_2:Int)(a:nH):Option (Int×Int×Bool):=(cond ((a.length:Int)==0) (some (decide (shift_2< 0))) (some false)).bind λj=>cond j (some (0,0,false)) (cond ((a.length:Int)==0) (some (1,shift_2,false)) ((cond ((a.length:Int)==1) (some (decide (shift_2< 0))) (some false)).bind λf=>cond f ((idx a 0).bind λg=>(DD g).bind λc=>some (c.1,c.2,false)) (cond ((a.length:Int)==1) ((idx a 0).bind λh=>(DD h).bind λd=>(HR p_0 term_1 (1,shift_2) (d.1,d.2)).bind λb=>some (b.1,b.2.1,b.2.2)) (cond (decide (shift_2≥ 0)) (some (1,shift_2,true)) ((bJ a).bind λi=>(DD i).bind λe=>some (e.1,e.2,true))))))
theorem P1{x:Int}{A:Slc}{m:nH}(z:G8 φ p_0 d_p_0)(k:mE (oE .i64) φ A m)(J:St φ F h){r:(Int×Int×Bool)}(hd:Du d_p_0 term_1 x m=some r):
 nX hM 110 [aG p_0,lN term_1,lN x,sv A] h (An λv K=>∃ψ:AD,∃y:(Int×Int×Unit)×Bool×Unit,Sub φ ψ∧v=mK.val y∧(y.1.1,y.1.2.1,y.2.1)=r∧St ψ F K):=by
 refine AT mixed func110 (Ps ..) ?_;have l:A.2.1=oL m:=k.length;refine D5 (t:=p_0) J λr1 bf a0=>AU (vs:=[.int .i64 (0:Int),.int .i64 (0:Int)]) a0 λI bg L=>AU (vs:=[.int .i64 (0:Int),.int .i64 (0:Int)]) L λr3 bi M=>AQ M rfl rfl λbj N=>AQ N rfl rfl λbl w=>?_;have⟨O,e,hd⟩:=bS hd;refine AY (λy G g=>∃ψ:AD,Sub φ ψ∧y.1=g∧St ψ (cW 50 r3 [.int .i64 (1:Int),.int .i64 x]::Wq8 I::Wq2 r1 p_0::F) G) (g:=O) ?_ ?_
 ·refine mP e (by rw[l] <;>rfl) (λe=>?_) (λe=>?_)
  ·have P:=w.at2;exact lG rfl ⟨φ,sb,iS e,P.at2.at2⟩
  exact lG rfl ⟨φ,sb,iS e,w.at2.at2.at2⟩
 rintro z4 bn ⟨f,bp,rfl,d⟩;refine mP hd rfl (λhd=>?_) (λhd=>?_)
 ·refine AQ d.at1 rfl rfl λbq Q=>AQ Q rfl rfl λbs n=>AA n rfl<|AA n rfl ?_;exact AC ⟨f,(((0:Int),(0:Int),()),false,()),sb,rfl,iS hd,n.tail.tail.tail⟩
 refine mP hd (by rw[l] <;>rfl) (λhd=>?_) (λhd=>?_)
 ·refine AA d rfl<|AA d rfl<|AQ d.at1 rfl rfl λbt R=>AQ R rfl rfl λbx o=>AA o rfl<|AA o rfl ?_;exact AC ⟨f,(((1:Int),x,()),false,()),sb,rfl,iS hd,o.tail.tail.tail⟩
 have⟨S,i,hd⟩:=bS hd;refine AY (λy G g=>∃ψ:AD,Sub f ψ∧y.1=g∧St ψ (cW 50 r3 [.int .i64 (1:Int),.int .i64 x]::Wq8 I::Wq2 r1 p_0::F) G) (g:=S) ?_ ?_
 ·refine mP i (by rw[l] <;>rfl) (λi=>?_) (λi=>?_)
  ·have T:=d.at2;exact lG rfl ⟨f,sb,iS i,T.at2.at2⟩
  exact lG rfl ⟨f,sb,iS i,d.at2.at2.at2⟩
 rintro U bz ⟨V,c0,rfl,a⟩;refine mP hd rfl (λhd=>?_) (λhd=>?_)
 ·refine gx k hd a λc1 hd=>?_;have⟨c2,al,hd⟩:=bS hd;refine AK (Fg a al) ?_;rintro _ c3 ⟨ap,C,c4,rfl,rfl,W⟩;refine⟨C,rfl,AQ W.at1 rfl rfl λc5 X=>AQ X rfl rfl λc6 p=>AA p rfl<|AA p rfl ?_⟩;exact AC ⟨ap,((C.1,C.2.1,()),false,()),sb,rfl,iS hd,p.tail.tail.tail⟩
 refine mP hd (by rw[l] <;>rfl) (λhd=>?_) (λhd=>?_)
 ·refine BS (t:=p_0) a.at2<|AA a rfl<|AA a rfl<|gx k hd a λc7 hd=>?_;have⟨c8,Y,hd⟩:=bS hd;refine AK (Fg a Y) ?_;rintro _ c9 ⟨ch,D,cl,rfl,rfl,c⟩;refine⟨D,rfl,AP (oG (b:=r3) (j:=0) c rfl)<|AP (oG (b:=r3) (j:=1) c rfl)<|AP (oG (b:=r1) (j:=0) c.at2 rfl)<|AP (oG (b:=r1) (j:=1) c.at2 rfl)<|AP (oG (b:=r1) (j:=2) c.at2 rfl)<|AP (oG (b:=r1) (j:=3) c.at2 rfl)<|AP (oG (b:=r1) (j:=4) c.at2 rfl)<|AP (oG (b:=r1) (j:=5) c.at2 rfl) ?_⟩;have⟨cm,Z,hd⟩:=bS hd;refine AK (Rs (A:=((1:Int),x,())) (B:=(D.1,D.2.1,())) z.up c Z) ?_;rintro _ cp ⟨b3,B,cs,rfl,rfl,b4⟩;refine⟨B,rfl,AQ b4.at1 rfl rfl λcw b5=>AQ b5 rfl rfl λcx q=>AA q rfl<|AA q rfl ?_⟩;exact AC ⟨b3,((B.1.1,B.1.2.1,()),B.2.1,()),sb,rfl,iS hd,q.tail.tail.tail⟩
 refine mP hd rfl (λhd=>?_) (λhd=>?_)
 ·refine AA a rfl<|AA a rfl<|AQ a.at1 rfl rfl λd0 b6=>AQ b6 rfl rfl λd1 s=>AA s rfl<|AA s rfl ?_;exact AC ⟨V,(((1:Int),x,()),true,()),sb,rfl,iS hd,s.tail.tail.tail⟩
 have⟨d2,b7,hd⟩:=bS hd;refine AK (dj k.up a b7) ?_;rintro _ d3 ⟨d4,H,d5,rfl,rfl,b8⟩;refine⟨H,rfl,?_⟩;have⟨d6,b9,hd⟩:=bS hd;refine AK (Fg b8 b9) ?_;rintro _ d7 ⟨ba,E,d8,rfl,rfl,bb⟩;refine⟨E,rfl,AQ bb.at1 rfl rfl λd9 bd=>AQ bd rfl rfl λdd u=>AA u rfl<|AA u rfl ?_⟩;exact AC ⟨ba,((E.1,E.2.1,()),true,()),sb,rfl,iS hd,u.tail.tail.tail⟩
noncomputable def resolve_Grid_cell_D(g_0:DU)(a_1:GQ)(d:(Option LkD))(a:Int)(b:Int):Option (Int×Int×DU):=(BF a_1 a b).bind λt2=>(Qm d a).bind λt3=>(forS (σ:=nH) 0 (t3.length:Int) ([]:nH) λe m=>(idx t3 e).bind λf=>(NY d a f).bind λt8=>(CY t8 b).bind λn=>(cond n ((app m ([f]:nH)).bind λh=>some h) (some m)).bind λi=>some i).bind λg=>(Du (g_0.1,g_0.2.1,g_0.2.2.1,g_0.2.2.2.1,g_0.2.2.2.2.1,g_0.2.2.2.2.2.1) b t2 g).bind λc=>(cond (decide ((g.length:Int) >1)) (some true) (cond ((g.length:Int)==1) (some (decide (t2≥ 0))) (some false))).bind λj=>(cond j ((app (g_0.1,g_0.2.1,g_0.2.2.1,g_0.2.2.2.1,g_0.2.2.2.2.1,g_0.2.2.2.2.2.1,g_0.2.2.2.2.2.2.1,g_0.2.2.2.2.2.2.2.1,g_0.2.2.2.2.2.2.2.2).2.2.2.2.2.2.2.2 ([(a,b,t2,g,c.1,c.2.1,c.2.2)]:List Cn)).bind λk=>some ((g_0.1,g_0.2.1,g_0.2.2.1,g_0.2.2.2.1,g_0.2.2.2.2.1,g_0.2.2.2.2.2.1,g_0.2.2.2.2.2.2.1,g_0.2.2.2.2.2.2.2.1,g_0.2.2.2.2.2.2.2.2).1,(g_0.1,g_0.2.1,g_0.2.2.1,g_0.2.2.2.1,g_0.2.2.2.2.1,g_0.2.2.2.2.2.1,g_0.2.2.2.2.2.2.1,g_0.2.2.2.2.2.2.2.1,g_0.2.2.2.2.2.2.2.2).2.1,(g_0.1,g_0.2.1,g_0.2.2.1,g_0.2.2.2.1,g_0.2.2.2.2.1,g_0.2.2.2.2.2.1,g_0.2.2.2.2.2.2.1,g_0.2.2.2.2.2.2.2.1,g_0.2.2.2.2.2.2.2.2).2.2.1,(g_0.1,g_0.2.1,g_0.2.2.1,g_0.2.2.2.1,g_0.2.2.2.2.1,g_0.2.2.2.2.2.1,g_0.2.2.2.2.2.2.1,g_0.2.2.2.2.2.2.2.1,g_0.2.2.2.2.2.2.2.2).2.2.2.1,(g_0.1,g_0.2.1,g_0.2.2.1,g_0.2.2.2.1,g_0.2.2.2.2.1,g_0.2.2.2.2.2.1,g_0.2.2.2.2.2.2.1,g_0.2.2.2.2.2.2.2.1,g_0.2.2.2.2.2.2.2.2).2.2.2.2.1,(g_0.1,g_0.2.1,g_0.2.2.1,g_0.2.2.2.1,g_0.2.2.2.2.1,g_0.2.2.2.2.2.1,g_0.2.2.2.2.2.2.1,g_0.2.2.2.2.2.2.2.1,g_0.2.2.2.2.2.2.2.2).2.2.2.2.2.1,(g_0.1,g_0.2.1,g_0.2.2.1,g_0.2.2.2.1,g_0.2.2.2.2.1,g_0.2.2.2.2.2.1,g_0.2.2.2.2.2.2.1,g_0.2.2.2.2.2.2.2.1,g_0.2.2.2.2.2.2.2.2).2.2.2.2.2.2.1,(g_0.1,g_0.2.1,g_0.2.2.1,g_0.2.2.2.1,g_0.2.2.2.2.1,g_0.2.2.2.2.2.1,g_0.2.2.2.2.2.2.1,g_0.2.2.2.2.2.2.2.1,g_0.2.2.2.2.2.2.2.2).2.2.2.2.2.2.2.1,k)) (some (g_0.1,g_0.2.1,g_0.2.2.1,g_0.2.2.2.1,g_0.2.2.2.2.1,g_0.2.2.2.2.2.1,g_0.2.2.2.2.2.2.1,g_0.2.2.2.2.2.2.2.1,g_0.2.2.2.2.2.2.2.2))).bind λl=>some (c.1,c.2.1,l)
theorem LB{c:DU}{a_1:nG}{z:GQ}{D:nG}{f:(Option LkD)}{A:Int}{C:Int}(gk:Dg.Glob φ)(bl:Pt Jl φ a_1 z)(s0:St φ (cO 80 SG g_0 c::⟨DB,[.pointer D],f⟩::F) h){r:(Int×Int×DU)}(hd:resolve_Grid_cell_D c z f A C=some r):
 nX hM 61 [lP g_0,lP a_1,lP D,lN A,lN C] h (An λv h'=>∃ψ:AD,∃y:Int×Int×Unit,∃a0:DU,Sub φ ψ∧v=mJ.val y∧(y.1,y.2.1,a0)=r∧St ψ (⟨DB,[.pointer D],f⟩::cO 80 SG g_0 a0::F) h'):=by
 refine AT mixed func61 (K5 ..)<|AU (vs:=[.int .i64 (0:Int),.int .i64 (0:Int)]) s0 λr1 e9 bn=>?_;have⟨ea,bp,hd⟩:=bS hd;refine AK (D9 bl bn bp) ?_;rintro _ ed ⟨ee,t2,ef,rfl,rfl,bq⟩;refine⟨t2,rfl,?_⟩;have⟨eg,bs,hd⟩:=bS hd;refine AK (Wb bq.at2 bs) ?_;rintro _ el ⟨H,t3,em,en,rfl,rfl,I,bt⟩;refine⟨t3,rfl,?_⟩;have J:=I.length;have⟨eo,bx,hd⟩:=bS hd;refine BD bx (λbz y E g=>∃ψ:AD,∃K:nH,Sub H ψ∧y.1=bz∧K=g∧St ψ (cR 3 (oE .i64) y.2.1 K::⟨DB,[.pointer D],f⟩::Wq8 r1::cO 80 SG g_0 c::F) E) rfl ⟨H,[],sb,rfl,rfl,(((((bt.nil 3 (oE .i64)).at3).at3).at3).at3)⟩ ?_ ?_ ?_
 ·rintro _ z5 er _ _ ⟨es,c0,ev,rfl,rfl,L⟩ d ew c1 c2;refine Ad (dT J c1)<|gx I d L λM d=>?_;have⟨ex,c3,d⟩:=bS d;refine AK (an (gk.mono sb) L.at1 c3) ?_;rintro _ ez ⟨f0,t8,f1,f2,rfl,rfl,c4,c5⟩;refine⟨t8,rfl,?_⟩;have⟨f3,c6,d⟩:=bS d;refine AK (HN c4 c5 c6) ?_;rintro _ f4 ⟨p,t9,f5,rfl,rfl,N⟩;refine⟨t9,rfl,?_⟩;have⟨c7,i,d⟩:=bS d;refine AY (λy E g=>∃ψ:AD,∃O:nH,Sub p ψ∧O=g∧St ψ (cR 3 (oE .i64) y.1 O::⟨DB,[.pointer D],f⟩::Wq8 r1::cO 80 SG g_0 c::F) E) (g:=c7) ?_ ?_
  ·refine mP i rfl (λi=>?_) (λi=>?_)
   ·refine AU (vs:=[.int .i64 M]) N λd2 f6 P=>?_;have⟨c8,c9,i⟩:=bS i;refine AV (ms:=([M]:nH)) BR P.tail.at1 rfl (oQ P) (.cons (a:=[_]) rfl .nil) rfl c9 ?_;intro h0 f7 ch;exact lG rfl ⟨p,c8,sb,iS i,ch.at3.at3.at3.at3⟩
   exact lG rfl ⟨p,c0,sb,iS i,N.at1.at3.at3.at3.at3⟩
  rintro h1 f8 ⟨cl,cm,f9,rfl,cp⟩;obtain rfl:=iS d;exact lH rfl rfl ⟨cl,cm,sb,c2,rfl,cp.at3.at3.at3.at3⟩
 ·rintro _ z5 fa ⟨cs,cw,fd,rfl,rfl,cx⟩ d0;refine AW (dF J d0)<|AJ (lI rfl ⟨_,cs,cw,sb,rfl,rfl,cx.at3.at3.at3.at3⟩)
 rintro Q fl ⟨_,fn,d1,fo,_,rfl,R⟩;have al:=R.rowLen;obtain⟨m,ap,S,T,U,V,W,X,Y,Z,rfl,b7,b8,b9,ba,bb,bd,k⟩:=V3 R.at3;refine AI _ rfl<|AA k.at3 rfl<|AA k.at3 rfl<|AA k.at3 rfl<|AA k.at3 rfl<|AA k.at3 rfl<|AA k.at3 rfl ?_;have⟨fr,fs,bf,d3⟩:=oA (t:=Q.2.1) k.at4;have⟨fv,d4,hd⟩:=bS hd;refine AK (P1 (p_0:=(ap,S,T,U,V,W,())) (d_p_0:=(c.1,c.2.1,c.2.2.1,c.2.2.2.1,c.2.2.2.2.1,c.2.2.2.2.2.1)) ⟨b7.up,b8.up,b9.up,ba.up,bb.up,bd.up⟩ bf d3 d4) ?_;rintro _ fz ⟨n,B,g0,rfl,rfl,d5⟩;refine⟨B,rfl,AU (vs:=[.int .i64 (0:Int),.int .i64 (0:Int)]) d5 λG g1 d6=>AQ d6 rfl rfl λg2 d7=>AQ d7 rfl rfl λg3 q=>?_⟩;have⟨d8,e,hd⟩:=bS hd;refine AY (λy E g=>∃ψ:AD,Sub n ψ∧y.1=g∧St ψ (cW 50 G [.int .i64 B.1.1,.int .i64 B.1.2.1]::cR 62 Fp Z c.2.2.2.2.2.2.2.2::cR 30 (oH (oE .i64)) Y c.2.2.2.2.2.2.2.1::cR 81 (oH FI) X c.2.2.2.2.2.2.1::cW 80 m [sv ap,sv S,sv T,sv U,sv V,sv W,sv X,sv Y,sv Z]::⟨DB,[.pointer D],f⟩::Wq8 r1::F) E) (g:=d8) ?_ ?_
 ·refine mP e (by rw[al] <;>rfl) (λe=>?_) (λe=>?_)
  ·have d9:=q.at6;exact lG rfl ⟨n,sb,iS e,d9.at6.at6.at6.at6.at6.at6⟩
  refine mP e (by rw[al] <;>rfl) (λe=>?_) (λe=>?_)
  ·have dd:=q.at6;exact lG rfl ⟨n,sb,iS e,dd.at6.at6.at6.at6.at6.at6⟩
  exact lG rfl ⟨n,sb,iS e,q.at6.at6.at6.at6.at6.at6.at6⟩
 rintro h2 g4 ⟨s,g5,rfl,dk⟩;have bg:=PR (x0:=c.1) (x1:=c.2.1) (x2:=c.2.2.1) (x3:=c.2.2.2.1) (x4:=c.2.2.2.2.1) (x5:=c.2.2.2.2.2.1) dk.at3.at3.at3.at4.at3.at3.at3 b7.up b8.up b9.up ba.up bb.up bd.up;have⟨dl,l,hd⟩:=bS hd;refine AY (λy E g=>∃ψ:AD,∃bi:DU,Sub s ψ∧bi=g∧St ψ (cO 80 SG (lF m) bi::cW 50 G [.int .i64 B.1.1,.int .i64 B.1.2.1]::⟨DB,[.pointer D],f⟩::Wq8 r1::F) E) (g:=dl) ?_ ?_
 ·refine mP l rfl (λl=>?_) (λl=>?_)
  ·have⟨g6,g7,g8,g9,gc,gd,gf,gg,gi,dn,dp,ds,dx,dy,e0,o⟩:=mU bg;refine AI _ rfl<|AA o.at3 rfl<|AA o.at4 rfl<|AA o.at4 rfl<|GP o λh3 gj gl u=>AP (oG (b:=m) (j:=8) u.at4 rfl) ?_;have⟨e1,e2,l⟩:=bS l;refine AV (r:=Fp) (ms:=([(A,C,t2,d1,B.1.1,B.1.2.1,B.2.1)]:List Cn)) N8 u.tail rfl (oQ u) (.cons (a:=[_,_,_,_,_,_,_]) ⟨[_],_,rfl,rfl,⟨[_],_,rfl,rfl,⟨[_],_,rfl,rfl,⟨[_],_,rfl,⟨Q.2.1,rfl,bf.up⟩,⟨[_],_,rfl,rfl,⟨[_],_,rfl,rfl,rfl⟩⟩⟩⟩⟩⟩ .nil) rfl e2 ?_;intro h4 gn e3;refine AI _ rfl<|AQ e3.at3 rfl rfl λgo e4=>?_;have e5:=PR (x0:=c.1) (x1:=c.2.1) (x2:=c.2.2.1) (x3:=c.2.2.2.1) (x4:=c.2.2.2.2.1) (x5:=c.2.2.2.2.2.1) e4.at3.at3.at3.at3.at3.at3.at3 dn dp ds dx dy e0;exact lG rfl ⟨s,(c.1,c.2.1,c.2.2.1,c.2.2.2.1,c.2.2.2.2.1,c.2.2.2.2.2.1,c.2.2.2.2.2.2.1,c.2.2.2.2.2.2.2.1,e1),sb,iS l,e5.at3.at3.at3.at3⟩
  exact lG rfl ⟨s,(c.1,c.2.1,c.2.2.1,c.2.2.2.1,c.2.2.2.2.1,c.2.2.2.2.2.1,c.2.2.2.2.2.2.1,c.2.2.2.2.2.2.2.1,c.2.2.2.2.2.2.2.2),sb,iS l,bg.at3.at3.at3.at3⟩
 rintro h5 gp ⟨e6,e7,gr,rfl,w⟩;refine AA w.at1 rfl<|AA w.at1 rfl<|AQ w.at3 rfl rfl λgs e8=>AQ e8 rfl rfl λgv x=>AA x rfl<|AA x rfl ?_;exact AC ⟨e6,(B.1.1,B.1.2.1,()),e7,sb,rfl,iS hd,x.tail.at1.tail.at1⟩
noncomputable def Ct(g_0:DU)(a:Int):Option Bool:=(cond (decide (a≥ 0)) (some (decide (a< (g_0.2.2.2.2.2.2.1.length:Int)))) (some false)).bind λb=>some b
theorem HF{b:DU}{n:Int}(c:Pt OO φ g_0 b)(o:St φ F h){r:Bool}(hd:Ct b n=some r):
 nX hM 29 [lP g_0,lN n] h (An (mM φ r F)):=by
 refine AT mixed func29 (M9 ..) ?_;have⟨d,a,hd⟩:=bS hd;refine AY (λy p g=>∃ψ:AD,Sub φ ψ∧y.1=g∧St ψ F p) (g:=d) ?_ ?_
 ·refine mP a rfl (λa=>?_) (λa=>?_)
  ·refine pfR V1 c o λe f=>?_;have i:=f.length;obtain rfl:=iS a;exact lG rfl ⟨φ,sb,(by rw[i]),o⟩
  exact lG rfl ⟨φ,sb,iS a,o⟩
 rintro q l ⟨j,m,rfl,k⟩;exact AC ⟨j,q.1,sb,rfl,iS hd,k⟩
noncomputable def B7(g_0:DU)(a:Int)(b:Int):Option (Int×Int):=((Ct g_0 a).bind λt3=>cond (!t3) (some true) ((Bp (g_0.1,g_0.2.1,g_0.2.2.1,g_0.2.2.2.1,g_0.2.2.2.2.1,g_0.2.2.2.2.2.1) b).bind λd=>some (!d))).bind λf=>cond f (some (0,0)) ((idx g_0.2.2.2.2.2.2.1 a).bind λe=>(idx e b).bind λc=>some (c.1,c.2))
theorem FC{b:DU}{x:Int}{A:Int}(f:Pt OO φ g_0 b)(C:St φ F h){r:(Int×Int)}(hd:B7 b x A=some r):
 nX hM 9 [lP g_0,lN x,lN A] h (An λv D=>∃ψ:AD,∃y:Int×Int×Unit,Sub φ ψ∧v=mJ.val y∧(y.1,y.2.1)=r∧St ψ F D):=by
 refine AT mixed func9 (M5 ..)<|AU (vs:=[.int .i64 (0:Int),.int .i64 (0:Int)]) C λr1 R t=>?_;have⟨u,a,hd⟩:=bS hd;refine AY (λy E g=>∃ψ:AD,Sub φ ψ∧y.1=g∧St ψ (Wq8 r1::F) E) (g:=u) ?_ ?_
 ·have⟨S,w,a⟩:=bS a;refine AK (HF f t w) ?_;rintro _ T ⟨z,t3,U,rfl,rfl,c⟩;refine⟨t3,rfl,mP a rfl (λa=>?_) (λa=>?_)⟩
  ·exact lG rfl ⟨z,sb,iS a,c⟩
  obtain⟨V,W,a0,⟨_,_,rfl,⟨k,rfl,G⟩,_,_,rfl,⟨l,rfl,H⟩,_,_,rfl,⟨m,rfl,I⟩,_,_,rfl,⟨n,rfl,J⟩,_,_,rfl,⟨o,rfl,K⟩,_,_,rfl,⟨p,rfl,L⟩,_,_,rfl,⟨X,rfl,Y⟩,_,_,rfl,⟨Z,rfl,b9⟩,⟨ba,rfl,bb⟩⟩,d⟩:=id f;refine AI _ a0<|AF (AG (oN sb c.sub) (d.at 0 rfl)) rfl<|AF (AG (oN sb c.sub) (d.at 1 rfl)) rfl<|AF (AG (oN sb c.sub) (d.at 2 rfl)) rfl<|AF (AG (oN sb c.sub) (d.at 3 rfl)) rfl<|AF (AG (oN sb c.sub) (d.at 4 rfl)) rfl<|AF (AG (oN sb c.sub) (d.at 5 rfl)) rfl ?_;have⟨bd,M,a⟩:=bS a;refine AK (Eg (p_0:=(k,l,m,n,o,p,())) (d_p_0:=(b.1,b.2.1,b.2.2.1,b.2.2.2.1,b.2.2.2.2.1,b.2.2.2.2.2.1)) ⟨G.up,H.up,I.up,J.up,K.up,L.up⟩ c M) ?_;rintro _ bf ⟨N,B,bg,rfl,rfl,O⟩;exact⟨B,rfl,lG rfl ⟨N,sb,iS a,O⟩⟩
 rintro z2 bi ⟨q,bj,rfl,e⟩;refine mP hd rfl (λhd=>?_) (λhd=>?_)
 ·refine AQ e rfl rfl λbl P=>AQ P rfl rfl λbn i=>AA i rfl<|AA i rfl ?_;exact AC ⟨q,((0:Int),(0:Int),()),sb,rfl,iS hd,i.tail⟩
 refine pfR V1 f e λbp al=>gxS al hd e λbq bs ap hd=>QQ ap hd e λs hd=>AQ e rfl rfl λbt Q=>AQ Q rfl rfl λbx j=>AA j rfl<|AA j rfl ?_;exact AC ⟨q,(s.1,s.2,()),sb,rfl,iS hd,j.tail⟩
noncomputable def Ea(g_0:DU)(a:Int)(b:Int):Option Int:=((Ct g_0 a).bind λt4=>cond (!t4) (some true) (cond (decide ((bO .i64 (b - (g_0.1.length:Int))) < 0)) (some true) (some (decide ((bO .i64 (b - (g_0.1.length:Int))) ≥ (g_0.2.1.length:Int)))))).bind λe=>cond e (some (-1:Int)) ((idx g_0.2.2.2.2.2.2.2.1 a).bind λc=>(idx c (bO .i64 (b - (g_0.1.length:Int)))).bind λd=>some d)
theorem NF{i:DU}{v:Int}{A:Int}(c:Pt OO φ g_0 i)(B:St φ F h)(hd:Ea i v A=some r):
 nX hM 11 [lP g_0,lN v,lN A] h (An (mN φ r F)):=by
 refine AT mixed func11 (M7 ..)<|Ta fX c B λl m=>?_;have e:=m.length;have⟨n,a,hd⟩:=bS hd;refine AY (λy C g=>∃ψ:AD,Sub φ ψ∧y.1=g∧St ψ F C) (g:=n) ?_ ?_
 ·have⟨x,o,a⟩:=bS a;refine AK (HF c B o) ?_;rintro _ z ⟨f,t4,a0,rfl,rfl,d⟩;refine⟨t4,rfl,mP a rfl (λa=>?_) (λa=>?_)⟩
  ·exact lG rfl ⟨f,sb,iS a,d⟩
  refine mP a (by rw[e] <;>rfl) (λa=>?_) (λa=>?_)
  ·exact lG rfl ⟨f,sb,iS a,d⟩
  refine pfR fY c d λp q=>?_;have s:=q.length;obtain rfl:=iS a;exact lG rfl ⟨f,sb,(by rw[e,s]),d⟩
 rintro D E ⟨j,G,rfl,b⟩;refine mP hd rfl (λhd=>?_) (λhd=>?_)
 ·exact AC ⟨j,(-1:Int),sb,rfl,iS hd,b⟩
 refine pfR ZM c b λH t=>gxS t hd b λI J u hd=>?_;have⟨w,k,hd⟩:=bS hd;rw[←e]at k;refine NR u k (oN sb b.sub) ?_;exact AC ⟨j,w,sb,rfl,iS hd,b⟩
noncomputable def B4(g_0:DU):Option (List Cn):=(forS (σ:=List Cn) 0 (g_0.2.2.2.2.2.2.2.2.length:Int) ([]:List Cn) λb e=>(idx g_0.2.2.2.2.2.2.2.2 b).bind λa=>(Dg.cloneD a.2.2.2.1).bind λc=>(app e ([(a.1,a.2.1,a.2.2.1,c,a.2.2.2.2.1,a.2.2.2.2.2.1,a.2.2.2.2.2.2)]:List Cn)).bind λd=>some d).bind λf=>some f
theorem Dj{i:DU}(p:Pt OO φ g_0 i)(v:St φ F h){r:(List Cn)}(hd:B4 i=some r):
 nX hM 14 [lP g_0] h (An (mO φ Fp r F)):=by
 refine AT mixed func14 (Ix ..)<|pfR ZN p v λc4 k=>?_;have l:=k.length;have⟨c5,q,hd⟩:=bS hd;refine BD q (λs y A g=>∃ψ:AD,∃m:List Cn,Sub φ ψ∧y.1=s∧m=g∧St ψ (cR 62 Fp y.2.1 m::F) A) rfl ⟨φ,[],sb,rfl,rfl,(v.nil 62 Fp)⟩ ?_ ?_ ?_
 ·rintro _ B c6 _ _ ⟨u,c7,c8,rfl,rfl,c⟩ e c9 w z;refine Ad (dT l w) ?_;have⟨b,a0,e⟩:=bS e;obtain⟨ch,cl,C,D,E,f⟩:=(k.up (ψ:=u)).get a0;refine AI _ C (Ai D ?_);obtain⟨_,_,rfl,rfl,⟨_,_,rfl,rfl,⟨_,_,rfl,rfl,⟨_,_,rfl,⟨ap,rfl,G⟩,⟨_,_,rfl,rfl,⟨_,_,rfl,rfl,rfl⟩⟩⟩⟩⟩⟩:=E;refine AF (AG (oN sb c.sub) (f 0 _ rfl)) rfl<|AF (by rw[Aj];exact(AG (oN sb c.sub) (f 1 _ rfl))) rfl<|AF (by rw[Aj];exact(AG (oN sb c.sub) (f 2 _ rfl))) rfl<|AF (by rw[Aj];exact(AG (oN sb c.sub) (f 3 _ rfl))) rfl<|AF (by rw[Aj];exact(AG (oN sb c.sub) (f 4 _ rfl))) rfl<|AF (by rw[Aj];exact(AG (oN sb c.sub) (f 5 _ rfl))) rfl<|AF (by rw[Aj];exact(AG (oN sb c.sub) (f 6 _ rfl))) rfl<|AU (vs:=[.int .i64 (0:Int),.int .i64 (0:Int),.int .i64 (0:Int),.slice none 0 0,.int .i64 (0:Int),.int .i64 (0:Int),.bool false]) c λH cm I=>AQ I rfl rfl λcp J=>AQ J rfl rfl λcs K=>AQ K rfl rfl λcw L=>AQ L rfl rfl λcx M=>AQ M rfl rfl λd0 N=>AQ N rfl rfl λd1 O=>AQ O rfl rfl λd2 n=>AA n rfl ?_;have⟨d3,P,e⟩:=bS e;refine AK (Dg.clone46_ro G n P) ?_;rintro _ d4 ⟨d5,j,Q,d6,rfl,rfl,R⟩;refine⟨j,rfl,AQ R.at1 rfl rfl λd7 d=>AA d rfl<|AA d rfl<|AA d rfl<|AA d rfl<|AA d rfl<|AA d rfl<|AA d rfl<|AU (vs:=[.int .i64 b.1,.int .i64 b.2.1,.int .i64 b.2.2.1,sv j,.int .i64 b.2.2.2.2.1,.int .i64 b.2.2.2.2.2.1,.bool b.2.2.2.2.2.2]) d λS d8 bg=>?_⟩;have⟨T,d9,U,o⟩:=oA (t:=j) bg.at2;have⟨bl,bn,e⟩:=bS e;refine AV (ms:=([(b.1,b.2.1,b.2.2.1,Q,b.2.2.2.2.1,b.2.2.2.2.2.1,b.2.2.2.2.2.2)]:List Cn)) N8 o.tail.at1 rfl (oQ o) (.cons (a:=[_,_,_,_,_,_,_]) ⟨[_],_,rfl,rfl,⟨[_],_,rfl,rfl,⟨[_],_,rfl,rfl,⟨[_],_,rfl,⟨j,rfl,U⟩,⟨[_],_,rfl,rfl,⟨[_],_,rfl,rfl,rfl⟩⟩⟩⟩⟩⟩ .nil) rfl bn ?_;intro V dd bp;obtain rfl:=iS e;exact lH rfl rfl ⟨T,bl,sb,z,rfl,bp.at1.tail⟩
 ·rintro _ B dk ⟨W,X,dl,rfl,rfl,Y⟩ bx;refine AW (dF l bx)<|AJ (lI rfl ⟨_,W,X,sb,rfl,rfl,Y⟩)
 rintro x dm ⟨_,dn,bz,dp,_,rfl,Z⟩;have⟨c1,ds,c2,c3⟩:=oA (t:=x.2.1) Z;exact AC ⟨c1,x.2.1,bz,sb,rfl,iS hd,c2,c3⟩
noncomputable def GC(c_0:Cn):Option Bool:=some c_0.2.2.2.2.2.2
theorem Iz{e:Int×Int×Int×Slc×Int×Int×Bool×Unit}{a:nH}(c:mE (oE .i64) φ e.2.2.2.1 a)(f:St φ F h){r:Bool}(hd:GC (e.1,e.2.1,e.2.2.1,a,e.2.2.2.2.1,e.2.2.2.2.2.1,e.2.2.2.2.2.2.1)=some r):
 nX hM 37 [.agg #[lN e.1,lN e.2.1,lN e.2.2.1,sv e.2.2.2.1,lN e.2.2.2.2.1,lN e.2.2.2.2.2.1,.bool e.2.2.2.2.2.2.1]] h (An (mM φ r F)):=by refine AT mixed func37 (Iy ..)<|AU (vs:=[.int .i64 e.1,.int .i64 e.2.1,.int .i64 e.2.2.1,sv e.2.2.2.1,.int .i64 e.2.2.2.2.1,.int .i64 e.2.2.2.2.2.1,.bool e.2.2.2.2.2.2.1]) f λr1 d b=>AA b rfl ?_;exact AC ⟨φ,e.2.2.2.2.2.2.1,sb,rfl,iS hd,b.tail⟩
noncomputable def Bj(s_0:List Cn):Option Int:=
 (C6 (σ:=Unit) (β:=Int) 0 (s_0.length:Int) () λb f=>
  (idx s_0 b).bind λa=>
  (GC (a.1,a.2.1,a.2.2.1,a.2.2.2.1,a.2.2.2.2.1,a.2.2.2.2.2.1,a.2.2.2.2.2.2)).bind λd=>
  cond d
  (some (oM b))
  (some (oP ()))).bind λc=>match c with
 |.next g=>
  some (-1:Int)
 |.done e=>some e
theorem Dx{s_0:Slc}{e:List Cn}(f:mE Fp φ s_0 e)(A:St φ F h)(hd:Bj e=some r):
 nX hM 73 [sv s_0,.func (.func 37) #[] #[]] h (An (mN φ r F)):=by
 refine AT mixed func73 (Dw ..) ?_;have i:s_0.2.1=oL e:=f.length;have⟨L,m,hd⟩:=bS hd;refine BQ m (λn y B g=>∃ψ:AD,Sub φ ψ∧y.1=n∧()=g∧St ψ F B) rfl ⟨φ,sb,rfl,rfl,A⟩ ?_ ?_ ?_
 ·rintro _ x M _ _ ⟨o,N,rfl,rfl,c⟩ b O p q s;refine Ad (dT i p) ?_;have⟨a,t,b⟩:=bS b;obtain⟨P,Q,u,w,z,d⟩:=(f.up (ψ:=o)).get t;refine AI _ u (Ai w ?_);obtain⟨_,_,rfl,rfl,⟨_,_,rfl,rfl,⟨_,_,rfl,rfl,⟨_,_,rfl,⟨j,rfl,C⟩,⟨_,_,rfl,rfl,⟨_,_,rfl,rfl,rfl⟩⟩⟩⟩⟩⟩:=z;refine AF (AG (oN sb c.sub) (d 0 _ rfl)) rfl<|AF (by rw[Aj];exact(AG (oN sb c.sub) (d 1 _ rfl))) rfl<|AF (by rw[Aj];exact(AG (oN sb c.sub) (d 2 _ rfl))) rfl<|AF (by rw[Aj];exact(AG (oN sb c.sub) (d 3 _ rfl))) rfl<|AF (by rw[Aj];exact(AG (oN sb c.sub) (d 4 _ rfl))) rfl<|AF (by rw[Aj];exact(AG (oN sb c.sub) (d 5 _ rfl))) rfl<|AF (by rw[Aj];exact(AG (oN sb c.sub) (d 6 _ rfl))) rfl ?_;have⟨R,D,b⟩:=bS b;refine AK (Iz (e:=(a.1,a.2.1,a.2.2.1,j,a.2.2.2.2.1,a.2.2.2.2.2.1,a.2.2.2.2.2.2,())) C c D) ?_;rintro _ S ⟨k,v,bg,rfl,rfl,l⟩;refine⟨v,rfl,mP b rfl (λb=>?_) (λb=>?_)⟩
  ·obtain rfl:=iS b;obtain rfl:=s _ rfl;obtain rfl:=iS hd;exact Ak (Ah (AC ⟨k,x.1,sb,rfl,rfl,l⟩))
  obtain rfl:=iS b;exact lH rfl rfl ⟨k,sb,q,rfl,l⟩
 ·rintro _ x T _ ⟨E,U,rfl,rfl,G⟩ H I;subst I;refine AW (dF i H)<|AJ (lI rfl ⟨_,rfl,_,E,sb,rfl,rfl,G⟩)
 rintro V bl ⟨_,rfl,_,J,bn,_,rfl,K⟩;exact AC ⟨J,(-1:Int),sb,rfl,iS hd,K⟩
noncomputable def Be(s_0:List Cn):Option Bool:=(Bj s_0).bind λt1=>some (decide (t1≥ 0))
theorem Dk{s_0:Slc}{a:List Cn}(b:mE Fp φ s_0 a)(j:St φ F h){r:Bool}(hd:Be a=some r):
 nX hM 36 [sv s_0,.func (.func 37) #[] #[]] h (An (mM φ r F)):=by refine AT mixed func36 (Di ..) ?_;have⟨f,c,hd⟩:=bS hd;refine AK (Dx b j c) ?_;rintro _ g ⟨d,t1,i,rfl,rfl,e⟩;exact⟨t1,rfl,AC ⟨d,(decide (t1≥ (0:Int))),sb,rfl,iS hd,e⟩⟩
noncomputable def CI(g_0:DU):Option Bool:=(Be g_0.2.2.2.2.2.2.2.2).bind λt3=>some (!t3)
theorem EA{a:DU}(b:Pt OO φ g_0 a)(l:St φ F h){r:Bool}(hd:CI a=some r):
 nX hM 16 [lP g_0] h (An (mM φ r F)):=by refine AT mixed func16 (KF ..)<|pfR ZN b l λg c=>?_;have⟨i,d,hd⟩:=bS hd;refine AK (Dk c l d) ?_;rintro _ j ⟨e,t3,k,rfl,rfl,f⟩;exact⟨t3,rfl,AC ⟨e,(!t3),sb,rfl,iS hd,f⟩⟩
noncomputable def GD(x_0:EO):Option Int:=cond (x_0.1==3) (some 1) ((cond (decide (x_0.2< 0)) (some true) (some (decide (x_0.2>1099511627776)))).bind λa=>cond a (some 0) (cond (x_0.1==1) (some (bO .i64 ((bO .i64 (2 *x_0.2))+2))) (cond (x_0.1==2) (some (bO .i64 ((bO .i64 (2 *x_0.2))+3))) (some 0))))
theorem P2{k:Int×Int×Unit}(l:St φ F h)(hd:GD (k.1,k.2.1)=some r):
 nX hM 38 [.agg #[lN k.1,lN k.2.1]] h (An (mN φ r F)):=by
 refine AT mixed func38 (Pu ..)<|AU (vs:=[.int .i64 k.1,.int .i64 k.2.1]) l λr1 f b=>AA b rfl<|mP hd rfl (λhd=>?_) (λhd=>?_)
 ·exact AC ⟨φ,(1:Int),sb,rfl,iS hd,b.tail⟩
 have⟨e,c,hd⟩:=bS hd;refine AY (λy m g=>∃ψ:AD,Sub φ ψ∧y.1=g∧St ψ (cW 50 r1 [.int .i64 k.1,.int .i64 k.2.1]::F) m) (g:=e) ?_ ?_
 ·refine AA b rfl<|mP c rfl (λc=>?_) (λc=>?_)
  ·exact lG rfl ⟨φ,sb,iS c,b⟩
  refine AA b rfl ?_;exact lG rfl ⟨φ,sb,iS c,b⟩
 rintro n i ⟨d,j,rfl,a⟩;refine mP hd rfl (λhd=>?_) (λhd=>?_)
 ·exact AC ⟨d,(0:Int),sb,rfl,iS hd,a.tail⟩
 refine AA a rfl<|mP hd rfl (λhd=>?_) (λhd=>?_)
 ·refine AA a rfl ?_;exact AC ⟨d,(bO .i64 ((bO .i64 ((2:Int) *k.2.1))+(2:Int))),sb,rfl,iS hd,a.tail⟩
 refine AA a rfl<|mP hd rfl (λhd=>?_) (λhd=>?_)
 ·refine AA a rfl ?_;exact AC ⟨d,(bO .i64 ((bO .i64 ((2:Int) *k.2.1))+(3:Int))),sb,rfl,iS hd,a.tail⟩
 exact AC ⟨d,(0:Int),sb,rfl,iS hd,a.tail⟩
noncomputable def Dp(g_0:DU):Option (List nH):=(forS (σ:=List nH) 0 (g_0.2.2.2.2.2.2.1.length:Int) ([]:List nH) λa n=>(idx g_0.2.2.2.2.2.2.1 a).bind λd=>(forS (σ:=nH) 0 (d.length:Int) ([]:nH) λe o=>(idx d e).bind λf=>(GD (f.1,f.2)).bind λh=>(app o ([h]:nH)).bind λi=>some i).bind λp=>(idx g_0.2.2.2.2.2.2.2.1 a).bind λb=>(forS (σ:=nH) 0 (b.length:Int) p λc j=>(idx b c).bind λg=>(app j ([(bO .i64 (g+1))]:nH)).bind λk=>some k).bind λl=>(app n ([l]:List nH)).bind λm=>some m).bind λq=>some q
theorem LC{i:DU}(j:Pt OO φ g_0 i)(D:St φ F h){r:(List nH)}(hd:Dp i=some r):
 nX hM 19 [lP g_0] h (An (mO φ (oH (oE .i64)) r F)):=by
 refine AT mixed func19 (K0 ..)<|pfR V1 j D λd4 l=>?_;have m:=l.length;have⟨d5,O,hd⟩:=bS hd;refine BD O (λP y A g=>∃ψ:AD,∃n:List nH,Sub φ ψ∧y.1=P∧n=g∧St ψ (cR 30 (oH (oE .i64)) y.2.1 n::F) A) rfl ⟨φ,([]:List nH),sb,rfl,rfl,(D.nil 30 (oH (oE .i64)))⟩ ?_ ?_ ?_
 ·rintro _ B d6 _ _ ⟨o,p,d7,rfl,rfl,q⟩ b d8 al ap;refine Ad (dT m al)<|gxS l b q λd9 dd s b=>?_;have u:=s.length;have⟨dk,Q,b⟩:=bS b;refine BD Q (λR y A g=>∃ψ:AD,∃w:nH,Sub o ψ∧y.1=R∧w=g∧St ψ (cR 3 (oE .i64) y.2.1 w::cR 30 (oH (oE .i64)) B.2.1 p::F) A) rfl ⟨o,[],sb,rfl,rfl,(((q.nil 3 (oE .i64)).at1).at1)⟩ ?_ ?_ ?_
  ·rintro _ S dl _ _ ⟨dm,dn,dp,rfl,rfl,x⟩ c ds T U;refine Ad (dT u T)<|QQ s c x λz c=>AU (vs:=[.int .i64 (0:Int),.int .i64 (0:Int)]) x λV dx W=>AQ W rfl rfl λdy X=>AQ X rfl rfl λe0 e=>AA e rfl<|AA e rfl ?_;have⟨e1,Y,c⟩:=bS c;refine AK (P2 (k:=(z.1,z.2,())) e Y) ?_;rintro _ e2 ⟨Z,k,e3,rfl,rfl,b7⟩;refine⟨k,rfl,AU (vs:=[.int .i64 k]) b7 λf9 e4 a0=>?_⟩;have⟨b8,b9,c⟩:=bS c;refine AV (ms:=([k]:nH)) BR a0.tail.at1 rfl (oQ a0) (.cons (a:=[_]) rfl .nil) rfl b9 ?_;intro g0 e5 ba;obtain rfl:=iS c;exact lH rfl rfl ⟨Z,b8,sb,U,rfl,ba.at1.tail.at1.at1⟩
  ·rintro _ S e6 ⟨bb,bd,e7,rfl,rfl,bf⟩ bg;refine AW (dF u bg)<|AJ (lI rfl ⟨_,bb,bd,sb,rfl,rfl,bf.at1.at1⟩)
  rintro z7 e8 ⟨_,E,bi,e9,_,rfl,f⟩;refine pfR ZM j f λea bj=>gxS bj b f λed ee G b=>?_;have H:=G.length;have⟨ef,bl,b⟩:=bS b;refine BD bl (λbn y A g=>∃ψ:AD,∃I:nH,Sub E ψ∧y.1=bn∧I=g∧St ψ (cR 3 (oE .i64) y.2.1 I::cR 30 (oH (oE .i64)) B.2.1 p::F) A) rfl ⟨E,bi,sb,rfl,rfl,f.at1.at1⟩ ?_ ?_ ?_
  ·rintro _ C eg _ _ ⟨bp,el,em,rfl,rfl,J⟩ d en bq bs;refine Ad (dT H bq)<|gx G d J λK d=>AU (vs:=[.int .i64 (wN K)]) J λg1 eo L=>?_;have⟨bt,bx,d⟩:=bS d;refine AV (ms:=([(wN K)]:nH)) BR L.tail rfl (oQ L) (.cons (a:=[_]) rfl .nil) rfl bx ?_;intro g2 er bz;obtain rfl:=iS d;exact lH rfl rfl ⟨bp,bt,sb,bs,rfl,bz.at1.at1⟩
  ·rintro _ C es ⟨c0,c1,ev,rfl,rfl,c2⟩ c3;refine AW (dF H c3)<|AJ (lI rfl ⟨_,c0,c1,sb,rfl,rfl,c2.at1.at1⟩)
  rintro v ew ⟨_,ex,c4,ez,_,rfl,c5⟩;refine AU (vs:=[sv v.2.1]) c5 λg3 f0 c6=>?_;have⟨c7,f1,c8,M⟩:=oA (t:=v.2.1) c6.at1;have⟨c9,ch,b⟩:=bS b;refine AV (ms:=([c4]:List nH)) H8 M.tail rfl (oQ M) (.cons (a:=[_]) ⟨v.2.1,rfl,c8⟩ .nil) rfl ch ?_;intro g4 f2 cl;obtain rfl:=iS b;exact lH rfl rfl ⟨c7,c9,sb,ap,rfl,cl⟩
 ·rintro _ B f3 ⟨cm,cp,f4,rfl,rfl,cs⟩ cw;refine AW (dF m cw)<|AJ (lI rfl ⟨_,cm,cp,sb,rfl,rfl,cs⟩)
 rintro N f5 ⟨_,f6,cx,f7,_,rfl,d0⟩;have⟨d1,f8,d2,d3⟩:=oA (t:=N.2.1) d0;exact AC ⟨d1,N.2.1,cx,sb,rfl,iS hd,d2,d3⟩
noncomputable def HS(p_0:As)(a_1:GQ)(g:(Option LkD)):Option (Option DU):=(B6 a_1).bind λq=>(forS (σ:=DU) 0 q (p_0.1,p_0.2.1,p_0.2.2.1,p_0.2.2.2.1,p_0.2.2.2.2.1,p_0.2.2.2.2.2,([]:List (List EO)),([]:List nH),([]:List Cn)) λb h=>(forS (σ:=(List EO×DU)) 0 (p_0.1.length:Int) (([]:List EO),h) λc f=>(resolve_Grid_cell_D f.2 a_1 g b c).bind λd=>(app f.1 ([(d.1,d.2.1)]:List EO)).bind λi=>some (i,d.2.2)).bind λa=>(forS (σ:=nH) 0 (p_0.2.1.length:Int) ([]:nH) λe j=>(BF a_1 b (bO .i64 ((p_0.1.length:Int)+e))).bind λk=>(app j ([k]:nH)).bind λl=>some l).bind λm=>(app a.2.2.2.2.2.2.2.1 ([a.1]:List (List EO))).bind λn=>(app a.2.2.2.2.2.2.2.2.1 ([m]:List nH)).bind λo=>some (a.2.1,a.2.2.1,a.2.2.2.1,a.2.2.2.2.1,a.2.2.2.2.2.1,a.2.2.2.2.2.2.1,n,o,a.2.2.2.2.2.2.2.2.2)).bind λp=>some (some p)
theorem Rt{a_1:nG}{P:GQ}{D:nG}{f:(Option LkD)}(gk:Dg.Glob φ)(e:G8 φ p_0 d_p_0)(o:Pt Jl φ a_1 P)(s0:St φ (⟨DB,[.pointer D],f⟩::F) h){r:(Option DU)}(hd:HS d_p_0 P f=some r):
 nX hM 26 [aG p_0,lP a_1,lP D] h (An λv h'=>∃ψ:AD,∃y:nG,∃Q:Option DU,Sub φ ψ∧v=lR.val y∧Q=r∧Np OO ψ y Q∧St ψ (⟨DB,[.pointer D],f⟩::F) h'):=by
 refine AT mixed func26 (Rn ..) ?_;have p:p_0.1.2.1=oL d_p_0.1:=e.k0.length;have R:p_0.2.1.2.1=oL d_p_0.2.1:=e.k1.length;refine D5 (t:=p_0) s0 λr1 fs S=>BS (t:=p_0) S<|AU (vs:=[sv p_0.1,sv p_0.2.1,sv p_0.2.2.1,sv p_0.2.2.2.1,sv p_0.2.2.2.2.1,sv p_0.2.2.2.2.2.1,.slice none 0 0,.slice none 0 0,.slice none 0 0]) S λC fv bq=>?_;have⟨fz,bs,hd⟩:=bS hd;refine AK (Cz o bq bs) ?_;rintro _ g0 ⟨T,t9,g1,rfl,rfl,bt⟩;refine⟨t9,rfl,?_⟩;have bx:=PR (t6:=mQ) (t7:=mQ) (t8:=mQ) (x0:=d_p_0.1) (x1:=d_p_0.2.1) (x2:=d_p_0.2.2.1) (x3:=d_p_0.2.2.2.1) (x4:=d_p_0.2.2.2.2.1) (x5:=d_p_0.2.2.2.2.2) (((bt.nil 81 (oH FI)).nil 30 (oH (oE .i64))).nil 62 Fp).at3.at3.at3.at3 e.k0.up e.k1.up e.k2.up e.k3.up e.k4.up e.k5.up;have⟨g2,bz,hd⟩:=bS hd;refine BD bz (λc0 y H g=>∃ψ:AD,∃U:DU,Sub T ψ∧y.1=c0∧U=g∧St ψ (cO 80 SG (lF C) U::Wq2 r1 p_0::⟨DB,[.pointer D],f⟩::F) H) rfl ⟨T,(d_p_0.1,d_p_0.2.1,d_p_0.2.2.1,d_p_0.2.2.2.1,d_p_0.2.2.2.2.1,d_p_0.2.2.2.2.2,([]:List (List EO)),([]:List nH),([]:List Cn)),sb,rfl,rfl,bx.at2.at2.at2⟩ ?_ ?_ ?_
 ·rintro _ I g3 _ _ ⟨al,c1,g4,rfl,rfl,ap⟩ d g5 V q;refine Ad (by exact mW V)<|AA ap.at1 rfl ?_;have⟨g6,c2,d⟩:=bS d;refine BD c2 (λc3 y H g=>∃ψ:AD,∃W:List EO,∃X:DU,Sub al ψ∧y.1=c3∧(W,X)=g∧St ψ (cR 50 FI y.2.1 W::cO 80 SG (lF C) X::Wq2 r1 p_0::⟨DB,[.pointer D],f⟩::F) H) rfl ⟨al,[],c1,sb,rfl,rfl,(((((ap.nil 50 FI).at3).at3).at3).at3)⟩ ?_ ?_ ?_
  ·rintro _ J g7 _ _ ⟨g8,g9,gc,gd,rfl,rfl,c4⟩ i gf c5 c6;refine Ad (dT p c5) ?_;have⟨gg,c7,i⟩:=bS i;refine AK (LB (gk.mono sb) o.up c4.at3.at2 c7) ?_;rintro _ gi ⟨c8,E,c9,gj,rfl,rfl,ch⟩;refine⟨E,rfl,AU (vs:=[.int .i64 E.1,.int .i64 E.2.1]) ch λb9 gl Y=>?_⟩;have⟨cl,cm,i⟩:=bS i;refine AV (ms:=([(E.1,E.2.1)]:List EO)) Wd Y.tail.at2 rfl (oQ Y) (.cons (a:=[_,_]) ⟨[_],_,rfl,rfl,rfl⟩ .nil) rfl cm ?_;intro j5 gn cp;obtain rfl:=iS i;exact lH rfl rfl ⟨c8,cl,c9,sb,c6,rfl,cp.at1.at3.at3.at3⟩
  ·rintro _ J go ⟨cs,cw,cx,gp,rfl,rfl,d0⟩ d1;refine AW (dF p d1)<|AJ (lI rfl ⟨_,cs,cw,cx,sb,rfl,rfl,d0.at3.at3.at3.at3⟩)
  rintro A gr ⟨_,Z,l,c,gs,_,rfl,b4⟩;refine AA b4.at2 rfl ?_;have⟨gv,d2,d⟩:=bS d;refine BD d2 (λd3 y H g=>∃ψ:AD,∃b5:nH,Sub Z ψ∧y.1=d3∧b5=g∧St ψ (cR 3 (oE .i64) y.2.1 b5::cR 50 FI A.2.1 l::cO 80 SG (lF C) c::Wq2 r1 p_0::⟨DB,[.pointer D],f⟩::F) H) rfl ⟨Z,[],sb,rfl,rfl,((((((b4.nil 3 (oE .i64)).at4).at4).at4).at4).at4)⟩ ?_ ?_ ?_
  ·rintro _ K gw _ _ ⟨gx,h0,h1,rfl,rfl,b6⟩ k h2 d4 d5;refine Ad (dT R d4)<|AA b6.at3 rfl ?_;have⟨h3,b7,k⟩:=bS k;rw[←p]at b7;refine AK (D9 o.up b6 b7) ?_;rintro _ h4 ⟨d6,G,h5,rfl,rfl,d7⟩;refine⟨G,rfl,AU (vs:=[.int .i64 G]) d7 λj6 h6 b8=>?_⟩;have⟨d8,d9,k⟩:=bS k;refine AV (ms:=([G]:nH)) BR b8.tail rfl (oQ b8) (.cons (a:=[_]) rfl .nil) rfl d9 ?_;intro j7 h7 dd;obtain rfl:=iS k;exact lH rfl rfl ⟨d6,d8,sb,d5,rfl,dd.at4.at4.at4.at4.at4⟩
  ·rintro _ K h8 ⟨dk,dl,h9,rfl,rfl,dm⟩ dn;refine AW (dF R dn)<|AJ (lI rfl ⟨_,dk,dl,sb,rfl,rfl,dm.at4.at4.at4.at4.at4⟩)
  rintro B hb ⟨_,hc,s,he,_,rfl,dp⟩;have⟨hf,hg,hh,hi,hj,hk,hl,hm,hn,u,w,x,z,a0,L,m⟩:=mU dp.at2;refine AA m.at3 rfl<|AA m.at3 rfl<|DP ?_ ?_
  ·refine AU (vs:=[sv A.2.1]) m λj8 ho n=>AP (oG (b:=C) (j:=7) n.at4 rfl)<|AP (oG (b:=C) (j:=6) n.at4 rfl)<|DP ?_ ?_
   ·have dx:=n.at6;have⟨hp,hq,dy,ba⟩:=oA (t:=A.2.1) dx;have⟨e0,e1,d⟩:=bS d;refine AV (ms:=([l]:List (List EO))) N9 ba.tail.at2 rfl (oQ ba) (.cons (a:=[_]) ⟨A.2.1,rfl,dy⟩ .nil) rfl e1 ?_;intro j9 hr bb;refine AP (oG (b:=C) (j:=7) bb.at3 rfl)<|AU (vs:=[sv B.2.1]) bb λk6 hs bd=>AP (oG (b:=C) (j:=7) bd.at4 rfl) ?_;have⟨e2,ht,e3,bf⟩:=oA (t:=B.2.1) bd.at5;have⟨e4,e5,d⟩:=bS d;refine AV (ms:=([s]:List nH)) H8 bf.tail.at2 rfl (oQ bf) (.cons (a:=[_]) ⟨B.2.1,rfl,e3⟩ .nil) rfl e5 ?_;intro k7 hu e6;refine AQ e6.at3 rfl rfl λhv e7=>AQ e7 rfl rfl λV e8=>?_;have e9:=PR (x0:=c.1) (x1:=c.2.1) (x2:=c.2.2.1) (x3:=c.2.2.2.1) (x4:=c.2.2.2.2.1) (x5:=c.2.2.2.2.2.1) e8.at2.at2.at3.at3.at3.at3.at3 u.up w.up x.up z.up a0.up L.up;obtain rfl:=iS d;exact lH rfl rfl ⟨e2,(c.1,c.2.1,c.2.2.1,c.2.2.2.1,c.2.2.2.2.1,c.2.2.2.2.2.1,e0,e4,c.2.2.2.2.2.2.2.2),sb,q,rfl,e9.at2.at2.at2⟩
   ·refine AU (vs:=[sv B.2.1]) n λk8 hw M=>AP (oG (b:=C) (j:=7) M.at5 rfl)<|AP (oG (b:=C) (j:=6) M.at5 rfl) ?_;have⟨hx,hy,ea,bg⟩:=oA (t:=A.2.1) M.at7;have⟨ed,ee,d⟩:=bS d;refine AV (ms:=([l]:List (List EO))) N9 bg.at1.tail.at3 rfl (oQ bg.at1) (.cons (a:=[_]) ⟨A.2.1,rfl,ea⟩ .nil) rfl ee ?_;intro k9 hz bi;refine AP (oG (b:=C) (j:=7) bi.at4 rfl) ?_;have⟨ef,i0,eg,bj⟩:=oA (t:=B.2.1) bi.at5;have⟨el,em,d⟩:=bS d;refine AV (ms:=([s]:List nH)) H8 bj.at1.tail.at2 rfl (oQ bj.at1) (.cons (a:=[_]) ⟨B.2.1,rfl,eg⟩ .nil) rfl em ?_;intro l0 i1 en;refine AQ en.at3 rfl rfl λi2 eo=>AQ eo rfl rfl λi3 er=>?_;have es:=PR (x0:=c.1) (x1:=c.2.1) (x2:=c.2.2.1) (x3:=c.2.2.2.1) (x4:=c.2.2.2.2.1) (x5:=c.2.2.2.2.2.1) er.at2.at2.at3.at3.at3.at3.at3 u.up w.up x.up z.up a0.up L.up;obtain rfl:=iS d;exact lH rfl rfl ⟨ef,(c.1,c.2.1,c.2.2.1,c.2.2.2.1,c.2.2.2.2.1,c.2.2.2.2.2.1,ed,el,c.2.2.2.2.2.2.2.2),sb,q,rfl,es.at2.at2.at2⟩
  ·refine AU (vs:=[sv B.2.1]) m λl1 i4 N=>AP (oG (b:=C) (j:=7) N.at4 rfl)<|AP (oG (b:=C) (j:=6) N.at4 rfl)<|AU (vs:=[sv A.2.1]) N λl2 i5 O=>AP (oG (b:=C) (j:=7) O.at5 rfl)<|AP (oG (b:=C) (j:=6) O.at5 rfl) ?_;have⟨i6,i7,ev,bl⟩:=oA (t:=A.2.1) O.at7;have⟨ew,ex,d⟩:=bS d;refine AV (ms:=([l]:List (List EO))) N9 bl.tail.at3 rfl (oQ bl) (.cons (a:=[_]) ⟨A.2.1,rfl,ev⟩ .nil) rfl ex ?_;intro l3 i8 bn;refine AP (oG (b:=C) (j:=7) bn.at4 rfl) ?_;have⟨ez,i9,f0,bp⟩:=oA (t:=B.2.1) bn.at5;have⟨f1,f2,d⟩:=bS d;refine AV (ms:=([s]:List nH)) H8 bp.at1.tail.at2 rfl (oQ bp.at1) (.cons (a:=[_]) ⟨B.2.1,rfl,f0⟩ .nil) rfl f2 ?_;intro l4 ih f3;refine AQ f3.at3 rfl rfl λir f4=>AQ f4 rfl rfl λit f5=>?_;have f6:=PR (x0:=c.1) (x1:=c.2.1) (x2:=c.2.2.1) (x3:=c.2.2.2.1) (x4:=c.2.2.2.2.1) (x5:=c.2.2.2.2.2.1) f5.at2.at2.at3.at3.at3.at3.at3 u.up w.up x.up z.up a0.up L.up;obtain rfl:=iS d;exact lH rfl rfl ⟨ez,(c.1,c.2.1,c.2.2.1,c.2.2.2.1,c.2.2.2.2.1,c.2.2.2.2.2.1,ew,f1,c.2.2.2.2.2.2.2.2),sb,q,rfl,f6.at2.at2.at2⟩
 ·rintro _ I ix ⟨f7,f8,j0,rfl,rfl,f9⟩ fa;refine AW (by exact mV (qM.2 fa))<|AJ (lI rfl ⟨_,f7,f8,sb,rfl,rfl,f9.at2.at2.at2⟩)
 rintro l5 j1 ⟨_,j2,fd,j3,_,rfl,fl⟩;have⟨fn,j4,fo,fr⟩:=St.freezeR (r:=OO) (Gj (Jj _) (Gj (Jj _) (Gj (Jj _) (Gj (Jj _) (Gj (Jj _) (Gj (Jj _) (Gj (Qe _ _) (Gj (Qe _ _) (Qe _ _))))))))) fl;exact AC ⟨fn,(lF C),(some fd),sb,rfl,iS hd,fo,fr.tail⟩
noncomputable def CU(small_0:PO):Option (List nI×List nI×List Ap×nH×nH×List nI×Option GQ×(Option LkD)×Option DU×Bool):=(CX (small_0.1,small_0.2.1,small_0.2.2.1,small_0.2.2.2.1,small_0.2.2.2.2.1,small_0.2.2.2.2.2.1,small_0.2.2.2.2.2.2)).bind λa=>(Db (a.1,a.2.1,a.2.2.1,a.2.2.2.1,a.2.2.2.2.1,a.2.2.2.2.2)).bind λg=>cond (g.2 !=0) (some (a.1,a.2.1,a.2.2.1,a.2.2.2.1,a.2.2.2.2.1,a.2.2.2.2.2,none,none,none,false)) ((RN (a.1,a.2.1,a.2.2.1,a.2.2.2.1,a.2.2.2.2.1,a.2.2.2.2.2) 300 9000).bind λc=>(cond (pY c.1) (some true) (c.1.bind λe=>(B6 e).bind λh=>some (h==0))).bind λi=>cond i (some (a.1,a.2.1,a.2.2.1,a.2.2.2.1,a.2.2.2.2.1,a.2.2.2.2.2,none,none,none,false)) (c.1.bind λb=>(Xa (a.1,a.2.1,a.2.2.1,a.2.2.2.1,a.2.2.2.2.1,a.2.2.2.2.2) b).bind λd=>cond (pY d) (some (a.1,a.2.1,a.2.2.1,a.2.2.2.1,a.2.2.2.2.1,a.2.2.2.2.2,none,none,none,false)) ((HS (a.1,a.2.1,a.2.2.1,a.2.2.2.1,a.2.2.2.2.1,a.2.2.2.2.2) b d).bind λf=>some (a.1,a.2.1,a.2.2.1,a.2.2.2.1,a.2.2.2.2.1,a.2.2.2.2.2,(some b),d,f,(!(pY f))))))
theorem EQ{A:Int×Int×Slc×Slc×Slc×Slc×Slc×Unit}{K:nH}{L:List nH}{M:nH}{N:nH}{O:nH}(G:QK φ)(bb:mE (oE .u8) φ A.2.2.1 K)(bd:mE (oH (oE .u8)) φ A.2.2.2.1 L)(bf:mE (oE .u8) φ A.2.2.2.2.1 M)(bg:mE (oE .u8) φ A.2.2.2.2.2.1 N)(bi:mE (oE .u8) φ A.2.2.2.2.2.2.1 O)(s0:St φ F h){r:(List nI×List nI×List Ap×nH×nH×List nI×Option GQ×(Option LkD)×Option DU×Bool)}(hd:CU (A.1,A.2.1,K,L,M,N,O)=some r):
 nX hM 6 [.agg #[.int .u8 A.1,.int .u8 A.2.1,sv A.2.2.1,sv A.2.2.2.1,sv A.2.2.2.2.1,sv A.2.2.2.2.2.1,sv A.2.2.2.2.2.2.1]] h (An λv h'=>∃ψ:AD,∃y:(Pl6)×nG×nG×nG×Bool×Unit,∃P:List nI,∃Q:List nI,∃R:List Ap,∃S:nH,∃T:nH,∃al:List nI,∃ap:Option GQ,∃U:(Option LkD),∃V:Option DU,Sub φ ψ∧v=mI.val y∧(P,Q,R,S,T,al,ap,U,V,y.2.2.2.2.1)=r∧mE pO ψ y.1.1 P∧mE pO ψ y.1.2.1 Q∧mE BL ψ y.1.2.2.1 R∧mE (oE .i64) ψ y.1.2.2.2.1 S∧mE (oE .i64) ψ y.1.2.2.2.2.1 T∧mE pO ψ y.1.2.2.2.2.2.1 al∧Np Jl ψ y.2.1 ap∧Np OO ψ y.2.2.2.1 V∧St ψ (⟨DB,[.pointer y.2.2.1],U⟩::F) h'):=by
 refine AT mixed func6 (Kx ..)<|AU (vs:=[.int .u8 A.1,.int .u8 A.2.1,sv A.2.2.1,sv A.2.2.2.1,sv A.2.2.2.2.1,sv A.2.2.2.2.2.1,sv A.2.2.2.2.2.2.1]) s0 λr1 e5 bj=>AU (vs:=[.slice none 0 0,.slice none 0 0,.slice none 0 0,.slice none 0 0,.slice none 0 0,.slice none 0 0]) bj λr2 e6 d=>AA d.at1 rfl<|AA d.at1 rfl<|AA d.at1 rfl<|AA d.at1 rfl<|AA d.at1 rfl<|AA d.at1 rfl<|AA d.at1 rfl ?_;have⟨e7,bl,hd⟩:=bS hd;refine AK (HM (s_0:=(A.1,A.2.1,A.2.2.1,A.2.2.2.1,A.2.2.2.2.1,A.2.2.2.2.2.1,A.2.2.2.2.2.2.1,())) bb bd bf bg bi d bl) ?_;rintro _ e8 ⟨e9,B,m,n,o,p,q,s,ea,rfl,rfl,e,f,i,j,k,l,bn⟩;refine⟨B,rfl,AU (vs:=[.slice none 0 0,.slice none 0 0,.slice none 0 0,.slice none 0 0,.slice none 0 0,.slice none 0 0]) bn λH ed bp=>AQ bp rfl rfl λee bq=>AQ bq rfl rfl λef bs=>AQ bs rfl rfl λeg bt=>AQ bt rfl rfl λel bx=>AQ bx rfl rfl λem bz=>AQ bz rfl rfl λen W=>BS (t:=B) W ?_⟩;have⟨eo,c0,hd⟩:=bS hd;refine AK (KO (p_0:=(B.1,B.2.1,B.2.2.1,B.2.2.2.1,B.2.2.2.2.1,B.2.2.2.2.2.1,())) (d_p_0:=(m,n,o,p,q,s)) ⟨e,f,i,j,k,l⟩ W c0) ?_;rintro _ er ⟨c1,I,es,rfl,rfl,w⟩;refine⟨I,rfl,mP hd rfl (λhd=>?_) (λhd=>?_)⟩
 ·refine BS (t:=B) w<|AQ w.at1 rfl rfl λev c2=>AQ c2 rfl rfl λew c3=>AQ c3 rfl rfl λex c4=>AQ c4 rfl rfl λez c5=>AQ c5 rfl rfl λf0 c6=>AQ c6 rfl rfl λf1 X=>BS (t:=B) X ?_;exact AC ⟨c1,((B.1,B.2.1,B.2.2.1,B.2.2.2.1,B.2.2.2.2.1,B.2.2.2.2.2.1,()),none,none,none,false,()),m,n,o,p,q,s,none,none,none,sb,rfl,iS hd,e.up,f.up,i.up,j.up,k.up,l.up,(rK _ _),(rK _ _),((((T9 X).at1.tail).at1.tail).at1.tail)⟩
 refine BS (t:=B) w ?_;have⟨f2,c7,hd⟩:=bS hd;refine AK (YX (p_0:=(B.1,B.2.1,B.2.2.1,B.2.2.2.1,B.2.2.2.2.1,B.2.2.2.2.2.1,())) (G.a.mono sb) e.up f.up i.up j.up k.up l.up w c7) ?_;rintro _ f3 ⟨Y,D,f4,f5,rfl,rfl,z,Z⟩;refine⟨D,rfl,?_⟩;have c8:=z.nil;have⟨c9,c,hd⟩:=bS hd;refine AY (λy w_ g=>∃ψ:AD,Sub Y ψ∧y.1=g∧St ψ (cW 32 H [sv B.1,sv B.2.1,sv B.2.2.1,sv B.2.2.2.1,sv B.2.2.2.2.1,sv B.2.2.2.2.2.1]::Wq5 r2::Wq0 r1 A::F) w_) (g:=c9) ?_ ?_
 ·refine mP c (by rw[c8] <;>rfl) (λc=>?_) (λc=>?_)
  ·have ch:=Z.at2;exact lG rfl ⟨Y,sb,iS c,ch.at2.at2⟩
  have⟨f6,cl,c⟩:=bS c;have⟨f7,cm,c⟩:=bS c;refine AK (Cz ((z).get cl) Z cm) ?_;rintro _ f8 ⟨cp,J,f9,rfl,rfl,cs⟩;exact⟨J,rfl,lG rfl ⟨cp,sb,iS c,cs.at2.at2.at2⟩⟩
 rintro h0 fa ⟨b5,fd,rfl,x⟩;refine mP hd rfl (λhd=>?_) (λhd=>?_)
 ·refine BS (t:=B) x<|AQ x.at1 rfl rfl λfl cw=>AQ cw rfl rfl λfn cx=>AQ cx rfl rfl λfo d0=>AQ d0 rfl rfl λfr d1=>AQ d1 rfl rfl λfs d2=>AQ d2 rfl rfl λfv b6=>BS (t:=B) b6 ?_;exact AC ⟨b5,((B.1,B.2.1,B.2.2.1,B.2.2.2.1,B.2.2.2.2.1,B.2.2.2.2.2.1,()),none,none,none,false,()),m,n,o,p,q,s,none,none,none,sb,rfl,iS hd,e.up,f.up,i.up,j.up,k.up,l.up,(rK _ _),(rK _ _),((((T9 b6).at1.tail).at1.tail).at1.tail)⟩
 refine BS (t:=B) x ?_;have⟨d3,d4,hd⟩:=bS hd;have a0:=((z.up (ψ:=b5))).get d4;have⟨fz,d5,hd⟩:=bS hd;refine AK (aq (p_0:=(B.1,B.2.1,B.2.2.1,B.2.2.2.1,B.2.2.2.2.1,B.2.2.2.2.2.1,())) (G.b.mono sb) e.up f.up i.up j.up k.up l.up a0 x d5) ?_;rintro _ g0 ⟨d6,E,d7,g1,rfl,rfl,u⟩;refine⟨E,rfl,?_⟩;have d8:=gO u;refine mP hd (by rw[d8] <;>rfl) (λhd=>?_) (λhd=>?_)
 ·refine BS (t:=B) u.at1<|AQ u.at2 rfl rfl λg2 d9=>AQ d9 rfl rfl λg3 dd=>AQ dd rfl rfl λg4 dk=>AQ dk rfl rfl λg5 dl=>AQ dl rfl rfl λg6 dm=>AQ dm rfl rfl λg7 b7=>BS (t:=B) b7 ?_;exact AC ⟨d6,((B.1,B.2.1,B.2.2.1,B.2.2.2.1,B.2.2.2.2.1,B.2.2.2.2.2.1,()),none,none,none,false,()),m,n,o,p,q,s,none,none,none,sb,rfl,iS hd,e.up,f.up,i.up,j.up,k.up,l.up,(rK _ _),(rK _ _),(((((T9 b7).at1.tail).at1.tail).at1.tail).at1.tail)⟩
 refine BS (t:=B) u.at1 ?_;have⟨g8,dn,hd⟩:=bS hd;refine AK (Rt (p_0:=(B.1,B.2.1,B.2.2.1,B.2.2.2.1,B.2.2.2.2.1,B.2.2.2.2.2.1,())) (d_p_0:=(m,n,o,p,q,s)) (G.b.mono sb) ⟨e.up,f.up,i.up,j.up,k.up,l.up⟩ a0.up u dn) ?_;rintro _ g9 ⟨dp,C,ds,gc,rfl,rfl,b8,b9⟩;refine⟨C,rfl,?_⟩;have dx:=b8.nil;refine BS (t:=B) b9.at1<|AQ b9.at2 rfl rfl λgd dy=>AQ dy rfl rfl λgf e0=>AQ e0 rfl rfl λgg e1=>AQ e1 rfl rfl λgi e2=>AQ e2 rfl rfl λgj e3=>AQ e3 rfl rfl λgl ba=>BS (t:=B) ba ?_;obtain rfl:=iS hd;have e4:=ba.tail.at1.tail.at1.tail;exact AC ⟨dp,((B.1,B.2.1,B.2.2.1,B.2.2.2.1,B.2.2.2.2.1,B.2.2.2.2.2.1,()),D.1,E,C,(!(pY C)),()),m,n,o,p,q,s,(some d3),d7,ds,sb,rfl,(by rw[dx]),e.up,f.up,i.up,j.up,k.up,l.up,a0.up,b8,e4⟩
noncomputable def Eu:Option Bool:=(CU (1,0,([(0:Int),0]:nH),([([(2:Int),0,2]:nH),([(1:Int)]:nH)]:List nH),([]:nH),([(0:Int)]:nH),([(1:Int)]:nH))).bind λc=>(CU (1,0,([(0:Int),0]:nH),([([(2:Int),0,2]:nH),([(1:Int)]:nH)]:List nH),([]:nH),([(0:Int)]:nH),([]:nH))).bind λe=>(cond (!c.2.2.2.2.2.2.2.2.2) (some true) (some (!e.2.2.2.2.2.2.2.2.2))).bind λl=>cond l (some false) (c.2.2.2.2.2.2.1.bind λf=>(Cf f 0 ([(3:Int),1,3]:nH)).bind λd=>c.2.2.2.2.2.2.2.2.1.bind λa=>(B4 a).bind λg=>e.2.2.2.2.2.2.2.2.1.bind λb=>(B4 b).bind λh=>(cond (decide (d>0)) (cond ((g.length:Int)==1) (cond ((h.length:Int)==1) ((B7 a d 1).bind λi=>cond ((i.1==2) && ((i.2==1) && true)) ((B7 b d 1).bind λm=>cond (m.1==1) ((idx g 0).bind λj=>cond (!j.2.2.2.2.2.2) ((idx h 0).bind λk=>cond k.2.2.2.2.2.2 ((CI a).bind λn=>cond n ((CI b).bind λo=>some (!o)) (some false)) (some false)) (some false)) (some false)) (some false)) (some false)) (some false)) (some false)).bind λp=>some p)
theorem KQ(S:QK φ)(s0:St φ F h){r:Bool}(hd:Eu=some r):
 nX hM 4 [] h (An (mM φ r F)):=by
 refine AT mixed func4 (KD ..)<|AU (vs:=[.int .u8 (0:Int),.int .u8 (0:Int)]) s0 λr1 ed a8=>AU (vs:=[.int .u8 (2:Int),.int .u8 (0:Int),.int .u8 (2:Int)]) a8 λG ee a9=>AU (vs:=[.int .u8 (1:Int)]) a9 λr3 ef ad=>AU (vs:=[.slice (lF G) 3 3,.slice (lF r3) 1 1]) ad λB eg al=>AU (vs:=[.int .u8 (0:Int)]) al λC el ap=>AU (vs:=[.int .u8 (1:Int)]) ap λH em ax=>AU (vs:=[.int .u8 (0:Int),.int .u8 (0:Int),.slice none 0 0,.slice none 0 0,.slice none 0 0,.slice none 0 0,.slice none 0 0]) ax λT en b0=>AQ b0 rfl rfl λeo b1=>AQ b1 rfl rfl λer b2=>AQ b2 rfl rfl λes b3=>AQ b3 rfl rfl λev b4=>AQ b4 rfl rfl λew b5=>AQ b5 rfl rfl λex b6=>AQ b6 rfl rfl λez c=>AA (x:=(1:Int)) c rfl<|AA (x:=(0:Int)) c rfl<|AA (x:=((some ⟨r1,0,none⟩,2,2):Slc)) c rfl<|AA (x:=((some ⟨B,0,none⟩,2,2):Slc)) c rfl<|AA (x:=mQ) c rfl<|AA (x:=((some ⟨C,0,none⟩,1,1):Slc)) c rfl<|AA (x:=((some ⟨H,0,none⟩,1,1):Slc)) c rfl ?_;have b7:=pR (r:=(oE .u8)) (l:=([(0:Int),(0:Int)]:nH)) (n:=2) c.at6 (.cons (a:=[_]) rfl (.cons (a:=[_]) rfl .nil)) rfl nQ;have⟨f0,f1,q,b8⟩:=oA (t:=((some ⟨r1,0,none⟩,2,2):Slc)) b7;have b9:=pR (r:=(oE .u8)) (l:=([(2:Int),(0:Int),(2:Int)]:nH)) (n:=3) b8.at5 (.cons (a:=[_]) rfl (.cons (a:=[_]) rfl (.cons (a:=[_]) rfl .nil))) rfl nQ;have⟨f2,f3,ba,bb⟩:=oA (t:=((some ⟨G,0,none⟩,3,3):Slc)) b9;have bd:=pR (r:=(oE .u8)) (l:=([(1:Int)]:nH)) (n:=1) bb.at4 (.cons (a:=[_]) rfl .nil) rfl nQ;have⟨f4,f5,bf,bg⟩:=oA (t:=((some ⟨r3,0,none⟩,1,1):Slc)) bd;have bi:=pR (r:=(oH (oE .u8))) (l:=([([(2:Int),(0:Int),(2:Int)]:nH),([(1:Int)]:nH)]:List nH)) (n:=2) bg.at3 (.cons (a:=[_]) ⟨((some ⟨G,0,none⟩,3,3):Slc),rfl,ba.up⟩ (.cons (a:=[_]) ⟨((some ⟨r3,0,none⟩,1,1):Slc),rfl,bf⟩ .nil)) rfl nQ;have⟨bj,f6,s,bl⟩:=oA (t:=((some ⟨B,0,none⟩,2,2):Slc)) bi;have bn:=pR (r:=(oE .u8)) (l:=([(0:Int)]:nH)) (n:=1) bl.at2 (.cons (a:=[_]) rfl .nil) rfl nQ;have⟨f7,f8,u,bp⟩:=oA (t:=((some ⟨C,0,none⟩,1,1):Slc)) bn;have bq:=pR (r:=(oE .u8)) (l:=([(1:Int)]:nH)) (n:=1) bp.at1 (.cons (a:=[_]) rfl .nil) rfl nQ;have⟨f9,fa,bs,bt⟩:=oA (t:=((some ⟨H,0,none⟩,1,1):Slc)) bq;have⟨fd,bx,hd⟩:=bS hd;refine AK (EQ (A:=((1:Int),(0:Int),((some ⟨r1,0,none⟩,2,2):Slc),((some ⟨B,0,none⟩,2,2):Slc),mQ,((some ⟨C,0,none⟩,1,1):Slc),((some ⟨H,0,none⟩,1,1):Slc),())) (S.mono sb) q.up s.up (qH (oE .u8) bj).up u.up bs bt bx) ?_;rintro _ fl ⟨w,v,fn,fo,fr,fs,fv,fz,g0,z,g1,g2,rfl,rfl,g3,g4,g5,g6,g7,g8,bz,c0,c1⟩;refine⟨v,rfl,AU (vs:=[.slice none 0 0,.slice none 0 0,.slice none 0 0,.slice none 0 0,.slice none 0 0,.slice none 0 0]) c1 λD g9 c2=>AQ c2 rfl rfl λgc c3=>AQ c3 rfl rfl λgd c4=>AQ c4 rfl rfl λgf c5=>AQ c5 rfl rfl λgg c6=>AQ c6 rfl rfl λgi c7=>AQ c7 rfl rfl λgj c8=>AQ c8.at2 rfl rfl λgl d=>AA (x:=(1:Int)) d rfl<|AA (x:=(0:Int)) d rfl<|AA (x:=((some ⟨r1,0,none⟩,2,2):Slc)) d rfl<|AA (x:=((some ⟨B,0,none⟩,2,2):Slc)) d rfl<|AA (x:=mQ) d rfl<|AA (x:=((some ⟨C,0,none⟩,1,1):Slc)) d rfl<|AA (x:=mQ) d rfl ?_⟩;have⟨gn,c9,hd⟩:=bS hd;refine AK (EQ (A:=((1:Int),(0:Int),((some ⟨r1,0,none⟩,2,2):Slc),((some ⟨B,0,none⟩,2,2):Slc),mQ,((some ⟨C,0,none⟩,1,1):Slc),mQ,())) (S.mono sb) q.up s.up (qH (oE .u8) w) u.up (qH (oE .u8) w) d c9) ?_;rintro _ go ⟨k,A,gp,gr,gs,gv,gw,gx,h0,a0,h1,h2,rfl,rfl,h3,h4,h5,h6,h7,h8,h9,ch,cl⟩;refine⟨A,rfl,AU (vs:=[.slice none 0 0,.slice none 0 0,.slice none 0 0,.slice none 0 0,.slice none 0 0,.slice none 0 0]) cl λE hb cm=>AQ cm rfl rfl λhc cp=>AQ cp rfl rfl λhe cs=>AQ cs rfl rfl λhf cw=>AQ cw rfl rfl λhg cx=>AQ cx rfl rfl λhh d0=>AQ d0 rfl rfl λhi U=>?_⟩;have⟨d1,f,hd⟩:=bS hd;refine AY (λy I g=>∃ψ:AD,Sub k ψ∧y.1=g∧St ψ (cW 32 E [sv A.1.1,sv A.1.2.1,sv A.1.2.2.1,sv A.1.2.2.2.1,sv A.1.2.2.2.2.1,sv A.1.2.2.2.2.2.1]::⟨DB,[.pointer A.2.2.1],a0⟩::cW 25 T [.int .u8 (1:Int),.int .u8 (0:Int),.slice (lF r1) 2 2,.slice (lF B) 2 2,.slice none 0 0,.slice (lF C) 1 1,.slice none 0 0]::cW 32 D [sv v.1.1,sv v.1.2.1,sv v.1.2.2.1,sv v.1.2.2.2.1,sv v.1.2.2.2.2.1,sv v.1.2.2.2.2.2.1]::⟨DB,[.pointer v.2.2.1],z⟩::F) I) (g:=d1) ?_ ?_
 ·refine mP f rfl (λf=>?_) (λf=>?_)
  ·have d2:=U.at4;exact lG rfl ⟨k,sb,iS f,d2.at4.at4.at4.at4⟩
  exact lG rfl ⟨k,sb,iS f,U.at4.at4.at4.at4.at4⟩
 rintro j4 hj ⟨V,hk,rfl,W⟩;refine mP hd rfl (λhd=>?_) (λhd=>?_)
 ·exact AC ⟨V,false,sb,rfl,iS hd,W.tail.tail.tail.tail.tail⟩
 refine AU (vs:=[.int .i64 (3:Int),.int .i64 (1:Int),.int .i64 (3:Int)]) W λJ hl d3=>?_;have⟨hm,d4,hd⟩:=bS hd;have d5:=pR (r:=(oE .i64)) (l:=([(3:Int),(1:Int),(3:Int)]:nH)) (n:=3) d3 (.cons (a:=[_]) rfl (.cons (a:=[_]) rfl (.cons (a:=[_]) rfl .nil))) rfl nQ;have⟨hn,ho,d6,d7⟩:=oA (t:=((some ⟨J,0,none⟩,3,3):Slc)) d5;have⟨hp,d8,hd⟩:=bS hd;refine AK (El (((bz.up (ψ:=V))).get d4).up d6 d7 d8) ?_;rintro _ hq ⟨d9,K,hr,rfl,rfl,dd⟩;refine⟨K,rfl,?_⟩;have⟨hs,dk,hd⟩:=bS hd;have m:=((c0.up (ψ:=d9))).get dk;have⟨ht,dl,hd⟩:=bS hd;refine AK (Dj m dd dl) ?_;rintro _ hu ⟨dm,L,hv,hw,rfl,rfl,X,dn⟩;refine⟨L,rfl,?_⟩;have dp:=X.length;have⟨hx,ds,hd⟩:=bS hd;have o:=((ch.up (ψ:=dm))).get ds;have⟨hy,dx,hd⟩:=bS hd;refine AK (Dj o dn dx) ?_;rintro _ hz ⟨i,M,i0,i1,rfl,rfl,Y,j⟩;refine⟨M,rfl,?_⟩;have dy:=Y.length;have⟨e0,b,hd⟩:=bS hd;refine AY (λy I g=>∃ψ:AD,Sub i ψ∧y.1=g∧St ψ (cW 32 E [sv A.1.1,sv A.1.2.1,sv A.1.2.2.1,sv A.1.2.2.2.1,sv A.1.2.2.2.2.1,sv A.1.2.2.2.2.2.1]::⟨DB,[.pointer A.2.2.1],a0⟩::cW 25 T [.int .u8 (1:Int),.int .u8 (0:Int),.slice (lF r1) 2 2,.slice (lF B) 2 2,.slice none 0 0,.slice (lF C) 1 1,.slice none 0 0]::cW 32 D [sv v.1.1,sv v.1.2.1,sv v.1.2.2.1,sv v.1.2.2.2.1,sv v.1.2.2.2.2.1,sv v.1.2.2.2.2.2.1]::⟨DB,[.pointer v.2.2.1],z⟩::F) I) (g:=e0) ?_ ?_
 ·refine mP b rfl (λb=>?_) (λb=>?_)
  ·refine mP b (by rw[dp] <;>rfl) (λb=>?_) (λb=>?_)
   ·refine mP b (by rw[dy] <;>rfl) (λb=>?_) (λb=>?_)
    ·have⟨i2,e1,b⟩:=bS b;refine AK (FC m.up j e1) ?_;rintro _ i3 ⟨e2,N,i4,rfl,rfl,Z⟩;refine⟨N,rfl,mP b rfl (λb=>?_) (λb=>?_)⟩
     ·have⟨i5,e3,b⟩:=bS b;refine AK (FC o.up Z e3) ?_;rintro _ i6 ⟨p,O,i7,rfl,rfl,e⟩;refine⟨O,rfl,mP b rfl (λb=>?_) (λb=>?_)⟩
      ·refine ixS Qz X b e λi8 b=>mP b rfl (λb=>?_) (λb=>?_)
       ·refine ixS Qz Y b e λi9 b=>mP b rfl (λb=>?_) (λb=>?_)
        ·have⟨ih,e4,b⟩:=bS b;refine AK (EA m.up e e4) ?_;rintro _ ir ⟨e5,P,it,rfl,rfl,a7⟩;refine⟨P,rfl,mP b rfl (λb=>?_) (λb=>?_)⟩
         ·have⟨ix,e6,b⟩:=bS b;refine AK (EA o.up a7 e6) ?_;rintro _ j0 ⟨e7,Q,j1,rfl,rfl,e8⟩;exact⟨Q,rfl,lG rfl ⟨e7,sb,iS b,e8.at4.at4.at4.at4.at4⟩⟩
         exact lG rfl ⟨e5,sb,iS b,a7.at4.at4.at4.at4.at4⟩
        exact lG rfl ⟨p,sb,iS b,e.at4.at4.at4.at4.at4⟩
       exact lG rfl ⟨p,sb,iS b,e.at4.at4.at4.at4.at4⟩
      exact lG rfl ⟨p,sb,iS b,e.at4.at4.at4.at4.at4⟩
     exact lG rfl ⟨e2,sb,iS b,Z.at4.at4.at4.at4.at4⟩
    exact lG rfl ⟨i,sb,iS b,j.at4.at4.at4.at4.at4⟩
   exact lG rfl ⟨i,sb,iS b,j.at4.at4.at4.at4.at4⟩
  exact lG rfl ⟨i,sb,iS b,j.at4.at4.at4.at4.at4⟩
 rintro R j2 ⟨e9,j3,rfl,ea⟩;exact AC ⟨e9,R.1,sb,rfl,iS hd,ea.tail.tail.tail.tail.tail⟩
noncomputable def CV(p_0:As)(term_1:Int)(shift_2:Int)(a:nH):Option (Int×Int×Bool):=(forS (σ:=Int) 0 (a.length:Int) 0 λc s=>(cond (c==0) (some true) ((idx a c).bind λk=>some (decide (k<s)))).bind λt=>(cond t ((idx a c).bind λl=>some l) (some s)).bind λu=>some u).bind λf=>(cond (f==0) (some (3,0)) (some (2,f))).bind λd=>(cond (decide (shift_2< 0)) (some ((a.length:Int)==0)) (some false)).bind λm=>cond m (some (0,0,false)) (cond (decide (shift_2< 0)) (some (d.1,d.2,(decide ((a.length:Int) >1)))) (cond ((a.length:Int) !=1) (some (1,shift_2,(decide ((a.length:Int) >1)))) ((cond (decide (term_1≥ 0)) (some (decide (term_1< (p_0.2.2.2.1.length:Int)))) (some false)).bind λn=>(cond n ((idx p_0.2.2.2.1 term_1).bind λg=>some g) (some 0)).bind λb=>(cond (decide (f≥ 0)) (some (decide (f< (p_0.2.2.1.length:Int)))) (some false)).bind λo=>(cond o ((idx p_0.2.2.1 f).bind λh=>some h.2.2) (some 0)).bind λe=>(cond (decide (b< 1)) (some true) (some (decide (e< 1)))).bind λp=>cond p (some (1,shift_2,true)) ((cond (decide (e>b)) (some true) (cond (e==b) ((idx p_0.2.2.2.2.1 b).bind λi=>some (i==1)) (some false))).bind λq=>cond q (some (d.1,d.2,false)) ((cond (e==b) ((idx p_0.2.2.2.2.1 b).bind λj=>some (j==3)) (some false)).bind λr=>cond r (some (0,0,false)) (some (1,shift_2,false)))))))
theorem GN{A:Int}{B:Slc}{L:nH}(l:G8 φ p_0 d_p_0)(M:mE (oE .i64) φ B L)(s0:St φ F h){r:(Int×Int×Bool)}(hd:CV d_p_0 term_1 A L=some r):
 nX hM 32 [aG p_0,lN term_1,lN A,sv B] h (An λv h'=>∃ψ:AD,∃y:(Int×Int×Unit)×Bool×Unit,Sub φ ψ∧v=mK.val y∧(y.1.1,y.1.2.1,y.2.1)=r∧St ψ F h'):=by
 refine AT mixed func32 (Kz ..) ?_;have bn:p_0.2.2.1.2.1=oL d_p_0.2.2.1:=l.k2.length;have bp:p_0.2.2.2.1.2.1=oL d_p_0.2.2.2.1:=l.k3.length;have m:B.2.1=oL L:=M.length;refine D5 (t:=p_0) s0 λr1 ev bq=>AU (vs:=[.int .i64 (0:Int),.int .i64 (0:Int)]) bq λG ew bs=>?_;have⟨ex,bt,hd⟩:=bS hd;refine BD bt (λbx y D g=>∃ψ:AD,Sub φ ψ∧y.1=bx∧y.2.1=g∧St ψ (Wq8 G::Wq2 r1 p_0::F) D) rfl ⟨φ,sb,rfl,rfl,bs.at1.at1⟩ ?_ ?_ ?_
 ·rintro _ z4 ez _ _ ⟨N,f0,rfl,rfl,O⟩ o bz c0 c1;refine Ad (dT m c0) ?_;have⟨c2,e,o⟩:=bS o;refine AY (λy D g=>∃ψ:AD,Sub N ψ∧y.1=g∧St ψ (Wq8 G::Wq2 r1 p_0::F) D) (g:=c2) ?_ ?_
  ·refine mP e rfl (λe=>?_) (λe=>?_)
   ·have c3:=O.at1;exact lG rfl ⟨N,sb,iS e,c3.at1⟩
   refine gx M e O λc4 e=>?_;exact lG rfl ⟨N,sb,iS e,O.at1.at1⟩
  rintro z5 f1 ⟨P,f2,rfl,Q⟩;have⟨c5,f,o⟩:=bS o;refine AY (λy D g=>∃ψ:AD,Sub P ψ∧y.1=g∧St ψ (Wq8 G::Wq2 r1 p_0::F) D) (g:=c5) ?_ ?_
  ·refine mP f rfl (λf=>?_) (λf=>?_)
   ·refine gx M f Q λc6 f=>?_;exact lG rfl ⟨P,sb,iS f,Q.at1.at1⟩
   exact lG rfl ⟨P,sb,iS f,Q.at1.at1⟩
  rintro z8 f3 ⟨c7,f4,rfl,c8⟩;obtain rfl:=iS o;exact lH rfl rfl ⟨c7,sb,c1,rfl,c8.at1.at1⟩
 ·rintro _ z4 f5 ⟨c9,f6,rfl,rfl,ch⟩ cl;refine AW (dF m cl)<|AJ (lI rfl ⟨_,c9,sb,rfl,rfl,ch.at1.at1⟩)
 rintro z3 f7 ⟨_,al,f8,_,rfl,cm⟩;refine AU (vs:=[.int .i64 (0:Int),.int .i64 (0:Int)]) cm λE f9 cp=>AQ cp rfl rfl λfa cs=>AQ cs rfl rfl λfd cw=>AU (vs:=[.int .i64 (0:Int),.int .i64 (0:Int)]) cw λC fl cx=>AQ cx rfl rfl λfn d0=>AQ d0 rfl rfl λfo d1=>?_;have bf:=rS (r:=FI) (x:=((2:Int),z3.2.1)) d1 ⟨[_],_,rfl,rfl,rfl⟩;have⟨d2,p,hd⟩:=bS hd;refine AY (λy D g=>∃ψ:AD,∃bg:EO,Sub al ψ∧bg=g∧St ψ (cO 50 (pN FI) (lF C) bg::cW 50 E [.int .i64 (1:Int),.int .i64 A]::Wq8 G::Wq2 r1 p_0::F) D) (g:=d2) ?_ ?_
 ·refine mP p rfl (λp=>?_) (λp=>?_)
  ·obtain⟨d3,fr,d4,⟨_,_,rfl,rfl,rfl⟩,d5⟩:=qV bf;obtain rfl:C=d3:=by simpa using d4
   refine AQ d5 rfl rfl λfs d6=>AQ d6 rfl rfl λfv d7=>?_;have d8:=((((rS (r:=FI) (x:=((3:Int),(0:Int))) d7 ⟨[_],_,rfl,rfl,rfl⟩).at3).at3).at3).at3;exact lG rfl ⟨al,((3:Int),(0:Int)),sb,iS p,d8⟩
  exact lG rfl ⟨al,((2:Int),z3.2.1),sb,iS p,bf.at3.at3.at3.at3⟩
 rintro h7 fz ⟨ap,a,g0,rfl,bi⟩;have⟨d9,q,hd⟩:=bS hd;refine AY (λy D g=>∃ψ:AD,Sub ap ψ∧y.1=g∧St ψ (cO 50 (pN FI) (lF C) a::cW 50 E [.int .i64 (1:Int),.int .i64 A]::Wq8 G::Wq2 r1 p_0::F) D) (g:=d9) ?_ ?_
 ·refine mP q rfl (λq=>?_) (λq=>?_)
  ·have dd:=bi.at3;have dk:=dd.at3.at3.at3;obtain rfl:=iS q;exact lG rfl ⟨ap,sb,(by rw[m]),dk⟩
  exact lG rfl ⟨ap,sb,iS q,bi.at3.at3.at3.at3⟩
 rintro h8 g1 ⟨n,g2,rfl,c⟩;refine mP hd rfl (λhd=>?_) (λhd=>?_)
 ·refine AQ c.at2 rfl rfl λbz dl=>AQ dl rfl rfl λg3 R=>AA R rfl<|AA R rfl ?_;exact AC ⟨n,(((0:Int),(0:Int),()),false,()),sb,rfl,iS hd,R.tail.tail.tail.tail⟩
 refine mP hd rfl (λhd=>?_) (λhd=>?_)
 ·obtain⟨dm,g4,dn,⟨_,_,rfl,rfl,rfl⟩,S⟩:=qV c;obtain rfl:C=dm:=by simpa using dn
  refine AA S rfl<|AA S rfl<|AQ S.at2 rfl rfl λg5 dp=>AQ dp rfl rfl λg6 T=>AA T rfl<|AA T rfl ?_;obtain rfl:=iS hd;have ds:=T.tail.tail.tail.tail;exact AC ⟨n,((a.1,a.2,()),(decide ((B.2.1:Int) >(1:Int))),()),sb,rfl,(by rw[m]),ds⟩
 refine mP hd (by rw[m] <;>rfl) (λhd=>?_) (λhd=>?_)
 ·refine AA c.at1 rfl<|AA c.at1 rfl<|AQ c.at2 rfl rfl λg7 dx=>AQ dx rfl rfl λg8 U=>AA U rfl<|AA U rfl ?_;obtain rfl:=iS hd;have dy:=U.tail.tail.tail.tail;exact AC ⟨n,(((1:Int),A,()),(decide ((B.2.1:Int) >(1:Int))),()),sb,rfl,(by rw[m]),dy⟩
 have⟨e0,s,hd⟩:=bS hd;refine AY (λy D g=>∃ψ:AD,Sub n ψ∧y.1=g∧St ψ (cO 50 (pN FI) (lF C) a::cW 50 E [.int .i64 (1:Int),.int .i64 A]::Wq8 G::Wq2 r1 p_0::F) D) (g:=e0) ?_ ?_
 ·refine mP s rfl (λs=>?_) (λs=>?_)
  ·refine AA c.at3 rfl ?_;have e1:=c.at3.at3.at3.at3;obtain rfl:=iS s;exact lG rfl ⟨n,sb,(by rw[bp]),e1⟩
  exact lG rfl ⟨n,sb,iS s,c.at3.at3.at3.at3⟩
 rintro h9 g9 ⟨V,gc,rfl,H⟩;have⟨e2,i,hd⟩:=bS hd;refine AY (λy D g=>∃ψ:AD,Sub V ψ∧y.1=g∧St ψ (cO 50 (pN FI) (lF C) a::cW 50 E [.int .i64 (1:Int),.int .i64 A]::Wq8 G::Wq2 r1 p_0::F) D) (g:=e2) ?_ ?_
 ·refine mP i rfl (λi=>?_) (λi=>?_)
  ·refine AA H.at3 rfl<|gx l.k3 i H λe3 i=>?_;exact lG rfl ⟨V,sb,iS i,H.at3.at3.at3.at3⟩
  exact lG rfl ⟨V,sb,iS i,H.at3.at3.at3.at3⟩
 rintro i0 gd ⟨W,gf,rfl,X⟩;have⟨e4,u,hd⟩:=bS hd;refine AY (λy D g=>∃ψ:AD,Sub W ψ∧y.1=g∧St ψ (cO 50 (pN FI) (lF C) a::cW 50 E [.int .i64 (1:Int),.int .i64 A]::Wq8 G::Wq2 r1 p_0::F) D) (g:=e4) ?_ ?_
 ·refine mP u rfl (λu=>?_) (λu=>?_)
  ·refine AA X.at3 rfl ?_;have e5:=X.at3.at3.at3.at3;obtain rfl:=iS u;exact lG rfl ⟨W,sb,(by rw[bn]),e5⟩
  exact lG rfl ⟨W,sb,iS u,X.at3.at3.at3.at3⟩
 rintro i1 gg ⟨Y,gi,rfl,I⟩;have⟨e6,j,hd⟩:=bS hd;refine AY (λy D g=>∃ψ:AD,Sub Y ψ∧y.1=g∧St ψ (cO 50 (pN FI) (lF C) a::cW 50 E [.int .i64 (1:Int),.int .i64 A]::Wq8 G::Wq2 r1 p_0::F) D) (g:=e6) ?_ ?_
 ·refine mP j rfl (λj=>?_) (λj=>?_)
  ·refine AA I.at3 rfl<|ixS W4 l.k2 j I λe7 j=>?_;exact lG rfl ⟨Y,sb,iS j,I.at3.at3.at3.at3⟩
  exact lG rfl ⟨Y,sb,iS j,I.at3.at3.at3.at3⟩
 rintro i2 gj ⟨Z,gk,rfl,bj⟩;have⟨e8,w,hd⟩:=bS hd;refine AY (λy D g=>∃ψ:AD,Sub Z ψ∧y.1=g∧St ψ (cO 50 (pN FI) (lF C) a::cW 50 E [.int .i64 (1:Int),.int .i64 A]::Wq8 G::Wq2 r1 p_0::F) D) (g:=e8) ?_ ?_
 ·refine mP w rfl (λw=>?_) (λw=>?_)
  ·have e9:=bj.at3;exact lG rfl ⟨Z,sb,iS w,e9.at3.at3.at3⟩
  exact lG rfl ⟨Z,sb,iS w,bj.at3.at3.at3.at3⟩
 rintro i3 gl ⟨z,gn,rfl,d⟩;refine mP hd rfl (λhd=>?_) (λhd=>?_)
 ·refine AA d.at1 rfl<|AA d.at1 rfl<|AQ d.at2 rfl rfl λgo ea=>AQ ea rfl rfl λgp b8=>AA b8 rfl<|AA b8 rfl ?_;exact AC ⟨z,(((1:Int),A,()),true,()),sb,rfl,iS hd,b8.tail.tail.tail.tail⟩
 have⟨ed,b,hd⟩:=bS hd;refine AY (λy D g=>∃ψ:AD,Sub z ψ∧y.1=g∧St ψ (cO 50 (pN FI) (lF C) a::cW 50 E [.int .i64 (1:Int),.int .i64 A]::Wq8 G::Wq2 r1 p_0::F) D) (g:=ed) ?_ ?_
 ·refine mP b rfl (λb=>?_) (λb=>?_)
  ·have ee:=d.at3;exact lG rfl ⟨z,sb,iS b,ee.at3.at3.at3⟩
  refine mP b rfl (λb=>?_) (λb=>?_)
  ·refine AA d.at3 rfl<|gx l.k4 b d λef b=>?_;exact lG rfl ⟨z,sb,iS b,d.at3.at3.at3.at3⟩
  exact lG rfl ⟨z,sb,iS b,d.at3.at3.at3.at3⟩
 rintro i4 gr ⟨J,gs,rfl,a0⟩;refine mP hd rfl (λhd=>?_) (λhd=>?_)
 ·obtain⟨eg,gv,el,⟨_,_,rfl,rfl,rfl⟩,b9⟩:=qV a0;obtain rfl:C=eg:=by simpa using el
  refine AA b9 rfl<|AA b9 rfl<|AQ b9.at2 rfl rfl λgw em=>AQ em rfl rfl λh0 ba=>AA ba rfl<|AA ba rfl ?_;exact AC ⟨J,((a.1,a.2,()),false,()),sb,rfl,iS hd,ba.tail.tail.tail.tail⟩
 have⟨en,k,hd⟩:=bS hd;refine AY (λy D g=>∃ψ:AD,Sub J ψ∧y.1=g∧St ψ (cO 50 (pN FI) (lF C) a::cW 50 E [.int .i64 (1:Int),.int .i64 A]::Wq8 G::Wq2 r1 p_0::F) D) (g:=en) ?_ ?_
 ·refine mP k rfl (λk=>?_) (λk=>?_)
  ·refine AA a0.at3 rfl<|gx l.k4 k a0 λeo k=>?_;exact lG rfl ⟨J,sb,iS k,a0.at3.at3.at3.at3⟩
  exact lG rfl ⟨J,sb,iS k,a0.at3.at3.at3.at3⟩
 rintro i5 h1 ⟨bl,h2,rfl,K⟩;refine mP hd rfl (λhd=>?_) (λhd=>?_)
 ·refine AQ K.at2 rfl rfl λh3 er=>AQ er rfl rfl λh4 bb=>AA bb rfl<|AA bb rfl ?_;exact AC ⟨bl,(((0:Int),(0:Int),()),false,()),sb,rfl,iS hd,bb.tail.tail.tail.tail⟩
 refine AA K.at1 rfl<|AA K.at1 rfl<|AQ K.at2 rfl rfl λh5 es=>AQ es rfl rfl λh6 bd=>AA bd rfl<|AA bd rfl ?_;exact AC ⟨bl,(((1:Int),A,()),false,()),sb,rfl,iS hd,bd.tail.tail.tail.tail⟩
end
end
theorem We:Eu=some true:=nU
end Go.Proofs.YtfnppeejaimnbaaGreatDoor

namespace Go.Proofs.YtfnppeejaimnbaaGreatDoor
open Go Go.Eng
def lvl(p:As)(a:Int):Int:=if a<0∨(p.2.2.2.1.length:Int) ≤a then 0 else(idx p.2.2.2.1 a).getD 0
def hgt(p:As)(k:Int):Int:=if k<0∨(p.2.2.1.length:Int) ≤k then 0 else((idx p.2.2.1 k).map (·.2.2)).getD 0
def asc(p:As)(t:Int):Int:=(idx p.2.2.2.2.1 t).getD 0
def red(k:Int):Int×Int:=if k=0 then(3,0) else(2,k)
theorem H9{α:Type}{l:List α}{i:Int}(a:0≤i)(b:i< (l.length:Int)):idx l i=some l[i.toNat]:=by unfold idx;rw[mZ a,bD]
theorem dq(p:As)(a:Int):FR p a=some (lvl p a):=by
 refine rF ?_;unfold FR lvl;refine AM (Q:=λc=>c=decide (a<0∨(p.2.2.2.1.length:Int) ≤a)) (AR (λh=>AB ?_) λh=>AB ?_) λc b=>?_
 ·exact(mW (.inl (mX h))).symm
 ·have h:=mY h;rw[Bool.eq_iff_iff,nD,nD];omega
 ·subst b;refine AR (λh=>AB ?_) λh=>?_
  ·rw[mZ (mX h)]
  ·have h:=mY h;have e:=H9 (l:=p.2.2.2.1) (i:=a) nJ nJ;rw[nA h,e];exact AB rfl
theorem bK(p:As)(k:Int):E6 p k=some (hgt p k):=by
 refine rF ?_;unfold E6 hgt;refine AM (Q:=λc=>c=decide (k<0∨(p.2.2.1.length:Int) ≤k)) (AR (λh=>AB ?_) λh=>AB ?_) λc a=>?_
 ·exact(mW (.inl (mX h))).symm
 ·have h:=mY h;rw[Bool.eq_iff_iff,nD,nD];omega
 ·subst a;refine AR (λh=>AB ?_) λh=>?_
  ·rw[mZ (mX h)]
  ·have h:=mY h;have e:=H9 (l:=p.2.2.1) (i:=k) nJ nJ;rw[nA h,e];exact AB rfl
theorem Ru(k:Int):DD k=some (red k):=by
 unfold DD red;by_cases h:k=0
 ·subst h;rfl
 ·rw[nA h,show(k==(0:Int))=false by simpa using h,cond_false]
def byF(p:As)(a s k:Int):Int×Int×Bool:=
 if lvl p a≤0∨hgt p k≤0 then(1,s,true)
 else if hgt p k=lvl p a∧asc p (lvl p a)=3 then(0,0,false)
 else if(hgt p k=lvl p a∧asc p (lvl p a)=1)∨lvl p a<hgt p k then((red k).1,k,false)
 else(1,s,false)
theorem jH(p:As)(a s k:Int)(j:0≤lvl p a→lvl p a< (p.2.2.2.2.1.length:Int)):HR p a ((1:Int),s) (red k)=some (byF p a s k):=by
 unfold HR;rw[dq];have l:(red k).2=k:=by unfold red;split<;>simp_all
 rw[oK,l,bK,oK];unfold byF;by_cases d:lvl p a≤0
 ·rw[mZ (.inl d),mW d,cond_true,oK,cond_true]
 ·rw[mV d,cond_false,oK];by_cases f:hgt p k≤0
  ·rw[mZ (.inr f),mW f,cond_true]
  ·rw[nA nJ,mV f,cond_false];by_cases e:hgt p k=lvl p a
   ·have m:idx p.2.2.2.2.1 (lvl p a)=some (asc p (lvl p a)):=by
     unfold asc;rw[H9 nJ (j nJ)];rfl
    have i:(hgt p k==lvl p a)=true:=by simpa using e
    rw[i,cond_true,cond_true,m,oK,oK];by_cases b:asc p (lvl p a)=3
    ·rw[mZ ⟨e,b⟩,show(asc p (lvl p a)==(3:Int))=true by simpa using b];rfl
    ·rw[nA (λh=>b h.2),show(asc p (lvl p a)==(3:Int))=false by simpa using b,cond_false,oK,oK];by_cases c:asc p (lvl p a)=1
     ·rw[mZ (.inl ⟨e,c⟩),show(asc p (lvl p a)==(1:Int))=true by simpa using c];rfl
     ·rw[nA (λh=>h.elim (λh=>c h.2) λh=>nJ),show(asc p (lvl p a)==(1:Int))=false by simpa using c,mV (show ¬hgt p k>lvl p a by omega)];rfl
   ·have i:(hgt p k==lvl p a)=false:=by simpa using e
    rw[i,cond_false,cond_false,nA (λh=>e h.1)];by_cases g:lvl p a<hgt p k
    ·rw[mZ (.inr g),mW (show hgt p k>lvl p a from g)];rfl
    ·rw[nA (λh=>h.elim (λh=>e h.1) g),mV (show ¬hgt p k>lvl p a from g)];rfl
structure Rv (l:nH) (m:Int):Prop where
 mem:m∈l
 le:∀x∈l,m≤x
theorem Rv.eq{l:nH}{m n:Int}(h:Rv l m)(k:Rv l n):m=n:=by
 have:=h.le n k.mem
 have:=k.le m h.mem
 omega
theorem G2{l:nH}{j:Nat}{x:Int}(a:l[j]? =some x){y:Int}:y∈l.take (j+1)↔y∈l.take j∨y=x:=by rw[qG,a,pH];simp
theorem ib{l:nH}(u:l.length≤1000000)(m:0<l.length):Ok (bJ l) (Rv l):=by
 have h:=bD m;unfold bJ;refine AS (i:=0) h ?_;have e:(l.length:Int)=1+((l.length - 1:Nat):Int):=nJ
 unfold forS;rw[mZ ⟨nJ,nJ⟩];obtain⟨s',n,o⟩:=Nz (f:=λi z=>(idx l i).bind λx=>some (if x<z then x else z)) (λi z=>0≤i∧Rv (l.take i.toNat) z) ((l.length:Int) - 1).toNat 1 l[0] ⟨nJ,by
  have p:l.take (1:Int).toNat= [l[0]]:=by
   show l.take 1=_;rw[List.take_one];simp[List.head?_eq_getElem?,h]
  rw[p];exact⟨nP,nP⟩⟩ λj s v q ⟨r,c⟩=>by
   have d:j.toNat<l.length:=nJ
   have b:=bD d;refine⟨if l[j.toNat] <s then l[j.toNat] else s,?_,nJ,?_⟩
   ·unfold idx;rw[mZ nJ,b];rfl
   ·rw[show(j+1).toNat=j.toNat+1 by omega];by_cases g:l[j.toNat] <s
    ·rw[mZ g];exact⟨(G2 b).2 (.inr rfl),λy a=>(G2 b).1 a |>.elim (λa=>by have:=c.le y a;omega) λa=>nJ⟩
    ·rw[nA g];exact⟨(G2 b).2 (.inl c.mem),λy a=>(G2 b).1 a |>.elim (c.le y) λa=>nJ⟩
 refine⟨s',n,?_⟩;have t:((1:Int)+(((l.length:Int) - 1).toNat:Nat)).toNat=l.length:=nJ
 have k:=o.2;rw[t,pE (oW _)]at k;exact k
def TB(p:As)(a s:Int)(l:nH)(r:Int×Int×Bool):Prop:=
 (l= [] ∧s<0∧r=(0,0,false))∨(l= [] ∧0≤s∧r=(1,s,false))∨(∃k,l= [k] ∧s<0∧r=((red k).1,(red k).2,false))∨(∃k,l= [k] ∧0≤s∧r=byF p a s k)∨
 (1<l.length∧0≤s∧r=(1,s,true))∨(1<l.length∧s<0∧ ∃m,Rv l m∧r=((red m).1,(red m).2,true))
theorem gT(p:As)(d s:Int){l:nH}(g:l.length≤1000000)(j:0≤lvl p d→lvl p d< (p.2.2.2.2.1.length:Int)):Ok (Du p d s l) (TB p d s l):=by
 unfold Du
 match l,g with
 | [],_=>
  refine AM (Q:=λc=>c=decide (s<0)) (Ay rfl (AB rfl)) λc e=>?_;subst e;exact AR (λh=>AB (.inl ⟨rfl,mX h,rfl⟩)) λh=>Ay rfl (AB (.inr (.inl ⟨rfl,by have:=mY h;omega,rfl⟩)))
 | [k],_=>
  refine AM (Q:=λc=>c=false) (AZ rfl (AB rfl)) λc e=>?_;subst e;refine AZ rfl (AZ rfl (AM (Q:=λc=>c=decide (s<0)) (Ay rfl (AB rfl)) λc e=>?_));subst e;refine AR (λh=>AO rfl (AO (Ru k) (AB (.inr (.inr (.inl ⟨k,rfl,mX h,rfl⟩)))))) λh=>Ay rfl (AO rfl (AO (Ru k) (AO (jH p d s k j) (AB (.inr (.inr (.inr (.inl ⟨k,rfl,by have:=mY h;omega,rfl⟩))))))))
 |a::b::l,g=>
  have e0:((((oL (a::b::l)):Nat):Int)==(0:Int))=false:=nN
  have i:((((oL (a::b::l)):Nat):Int)==(1:Int))=false:=nN
  have f:1< (a::b::l).length:=nP
  refine AM (Q:=λc=>c=false) (AZ e0 (AB rfl)) λc e=>?_;subst e;refine AZ rfl (AZ e0 (AM (Q:=λc=>c=false) (AZ i (AB rfl)) λc e=>?_));subst e;refine AZ rfl (AZ i (AR (λh=>AB (.inr (.inr (.inr (.inr (.inl ⟨f,mX h,rfl⟩)))))) λh=>?_));refine AM (ib g nJ) λm n=>AO (Ru m) (AB (.inr (.inr (.inr (.inr (.inr ⟨f,by have:=mY h;omega,m,n,rfl⟩))))))
theorem TB.eq{p:As}{b s:Int}{l:nH}{r d:Int×Int×Bool}(h:TB p b s l r)(e:TB p b s l d):r=d:=by
 rcases h with⟨rfl,g,rfl⟩|⟨rfl,g,rfl⟩|⟨k,rfl,g,rfl⟩|⟨k,rfl,g,rfl⟩|⟨q,g,rfl⟩|⟨q,g,m,hm,rfl⟩ <;>
 rcases e with⟨a,c,rfl⟩|⟨a,c,rfl⟩|⟨k',a,c,rfl⟩|⟨k',a,c,rfl⟩|⟨a,c,rfl⟩|⟨a,c,m',hm',rfl⟩ <;>
 first
  |rfl
  |(exfalso;omega)
  |(cases a;done)
  |(cases a;rfl)
  |(exfalso;simp at a;done)
  |(exfalso;subst a;simp at q;done)
  |(exfalso;simp at a;omega)
  |(exfalso;subst a;simp at q;omega)
  |(rw[hm.eq hm'])
end Go.Proofs.YtfnppeejaimnbaaGreatDoor
namespace Go.Proofs.YtfnppeejaimnbaaGreatDoor
open Go Go.Eng Dg
section
variable {i:Nat}
noncomputable def UE(d:LkD)(i t k:Int):Bool:=match NY (some d) i k with
 |some l=>decide (t∈l)
 |none=>false
noncomputable def rsL(d:LkD)(a:nH)(i t:Int):nH:=a.filter (UE d i t)
noncomputable def goV(A:dtA)(i t:Int):Int:=(BF A i t).getD 0
noncomputable def Fo(p:dtP)(t go:Int)(rs:nH):Int×Int×Bool:=(Du p t go rs).getD (0,0,false)
def two(rs:nH)(go:Int):Bool:=decide (1<rs.length) || (decide (rs.length=1) && decide (0≤go))
theorem gU{α:Type}{o:Option α}{P:α→Prop}(h:Ok (o.bind some) P):Ok o P:=by cases o<;>exact h
theorem Rw{a:nH}{f:Int→nH→Option nH}(P:Int→Bool)(g:a.length≤1000000)(d:∀(j:Nat) x acc,a[j]? =some x→acc.length≤j→f (j:Int) acc=some (if P x=true then acc++ [x] else acc)):
 forS (0:Int) (a.length:Int) ([]:nH) f=some (a.filter P):=by
 refine rF (gU (BK (λj (z:nH)=>z=(a.take j).filter P) nJ nP (λj z e b=>?_) λz b=>AB (by rw[b,pE (oW _)])));subst b;have c:=bD e;refine⟨_,d j _ _ c (Nat.le_trans (qL _ _) nN),?_⟩;rw[qG,c,rC];by_cases h:P a[j] =true
 ·rw[mZ h];simp[h]
 ·rw[nA h];simp[h]
section
variable {p:dtP}{B:List dtK}{E:List (List Edge)}{d:LkD}{tt:Int}
theorem dr(M:MkI p B E d tt){b:dtK}(a:B[i]? =some b)(t:Int):BF (BG p B E tt) (i:Int) t=some (goV (BG p B E tt) (i:Int) t):=by
 have f:=(nY.1 a).1;have c:i<E.length:=by have:=M.all.fin.len;omega
 have⟨x,e,_⟩:=XT (t:=tt) M.all.vp M.all.fin a (bD c) t;unfold goV;rw[e];rfl
theorem dt(M:MkI p B E d tt){b:dtK}(c:B[i]? =some b){k:Int}(e:k∈Cq p.2.2.1 b.2.1)(t:Int):∃l,NY (some d) (i:Int) k=some l∧l.length≤64000∧decide (t∈l)=UE d (i:Int) t k:=by obtain⟨j,f⟩:=pD e;obtain⟨n,r,rfl,g,h⟩:=YZ M c f;have⟨l,a,m⟩:=Xf M (s:=i) (nY.1 g).1;refine⟨l,a,m.2,?_⟩;unfold UE;rw[a]
theorem bL(M:MkI p B E d tt){b:dtK}(a:B[i]? =some b)(t:Int):(rsL d (Cq p.2.2.1 b.2.1) (i:Int) t).length≤10100:=
 Nat.le_trans (qL _ _) (P0 (l:=[]) M a)
theorem TC(p:dtP)(t go:Int){rs:nH}(a:rs.length≤1000000)(b:0≤lvl p t→lvl p t< (p.2.2.2.2.1.length:Int)):Du p t go rs=some (Fo p t go rs)∧TB p t go rs (Fo p t go rs):=by have⟨x,c,d⟩:=gT p t go a b;unfold Fo;rw[c];exact⟨rfl,d⟩
noncomputable def HT(p:dtP)(A:dtA)(d:LkD)(a:nH)(i t:Int):List Cn:=if two (rsL d a i t) (goV A i t)=true then[(i,t,goV A i t,rsL d a i t,(Fo p t (goV A i t) (rsL d a i t)).1,(Fo p t (goV A i t) (rsL d a i t)).2.1,(Fo p t (goV A i t) (rsL d a i t)).2.2)] else[]
theorem du(M:MkI p B E d tt){b:dtK}(k:B[i]? =some b){t:Int}(y:0≤lvl p t→lvl p t< (p.2.2.2.2.1.length:Int)){a:List (List EO)}{e:List nH}{cl:List Cn}(A:cl.length≤1000000):
 resolve_Grid_cell_D (p.1,p.2.1,p.2.2.1,p.2.2.2.1,p.2.2.2.2.1,p.2.2.2.2.2,a,e,cl) (BG p B E tt) (some d) (i:Int) t=some ((Fo p t (goV (BG p B E tt) (i:Int) t) (rsL d (Cq p.2.2.1 b.2.1) (i:Int) t)).1,(Fo p t (goV (BG p B E tt) (i:Int) t) (rsL d (Cq p.2.2.1 b.2.1) (i:Int) t)).2.1,p.1,p.2.1,p.2.2.1,p.2.2.2.1,p.2.2.2.2.1,p.2.2.2.2.2,a,e,cl++HT p (BG p B E tt) d (Cq p.2.2.1 b.2.1) (i:Int) t):=by
 refine rF ?_;unfold resolve_Grid_cell_D;have C:=P0 (l:=[]) M k;have q:=bL M k t;refine AO (dr M k t) (AO (YY M k) (AO (x:=rsL d (Cq p.2.2.1 b.2.1) (i:Int) t) (Rw (UE d (i:Int) t) nJ λj x m r w=>?_) ?_))
 ·have J:=(nY.1 r).1;have⟨l,D,f,F⟩:=dt M k (oB r) t;refine rF (AS r (AO D (AO (Dg.contains_ok nJ t) ?_)));rw[F];cases UE d (i:Int) t x with
  |true=>exact AM (Q:=λz=>z=m++ [x]) (Ay rfl (Az nN (AB rfl))) λz s=>AB (by rw[s];rfl)
  |false=>exact AM (Q:=λz=>z=m) (AZ rfl (AB rfl)) λz s=>AB (by rw[s];rfl)
 ·obtain⟨G,K⟩:=TC p t (goV (BG p B E tt) (i:Int) t) (rs:=rsL d (Cq p.2.2.1 b.2.1) (i:Int) t) nJ y;refine AO G ?_;obtain⟨n,u⟩:∃n,Fo p t (goV (BG p B E tt) (i:Int) t) (rsL d (Cq p.2.2.1 b.2.1) (i:Int) t)=n:=⟨_,rfl⟩;obtain⟨rs,o⟩:∃rs,rsL d (Cq p.2.2.1 b.2.1) (i:Int) t=rs:=⟨_,rfl⟩;obtain⟨go,v⟩:∃go,goV (BG p B E tt) (i:Int) t=go:=⟨_,rfl⟩;unfold HT;rw[u,o,v];rw[o]at q;refine AM (Q:=λc=>c=two rs go) (AR (λh=>AB ?_) λh=>?_) λc H=>?_
  ·have h:=mX h;unfold two;rw[mW (show 1<rs.length by omega)];rfl
  ·have h:=mY h;unfold two;rw[mV (show ¬1<rs.length by omega),qZ];refine AR (λf=>AB ?_) λf=>AB ?_
   ·have f:=eq_of_beq f;rw[mW (show rs.length=1 by omega)];rfl
   ·have f:=ne_of_beq_false f;rw[mV (show ¬rs.length=1 by omega)];rfl
  ·subst H;refine AM (Q:=λg=>g=(p.1,p.2.1,p.2.2.1,p.2.2.2.1,p.2.2.2.2.1,p.2.2.2.2.2,a,e,cl++if two rs go=true then[((i:Int),t,go,rs,n.1,n.2.1,n.2.2)] else[])) ?_ λg I=>AB (by rw[I]);refine AR (λh=>?_) λh=>AB ?_
   ·rw[mZ h];exact Az nN (AB rfl)
   ·rw[h,nA nP,List.append_nil]
end
end
section
variable {p:dtP}{B:List dtK}{E:List (List Edge)}{d:LkD}{tt:Int}
def dlB(p:dtP)(B:List dtK)(i:Nat):nH:=match B[i]? with
 |some b=>Cq p.2.2.1 b.2.1
 |none=>[]
noncomputable def clS(p:dtP)(A:dtA)(d:LkD)(a:nH)(i:Nat):Nat→List Cn | 0=>[] | n+1=>clS p A d a i n++HT p A d a (i:Int) (n:Int)
noncomputable def clA(p:dtP)(A:dtA)(d:LkD)(B:List dtK):Nat→List Cn | 0=>[] | n+1=>clA p A d B n++clS p A d (dlB p B n) n p.1.length
theorem Ya(p:dtP)(A:dtA)(d:LkD)(a:nH)(i t:Int):(HT p A d a i t).length≤1:=by
 unfold HT
 split<;>simp
theorem Qn(p:dtP)(A:dtA)(d:LkD)(a:nH)(i:Nat):∀n,(clS p A d a i n).length≤n
 | 0=>oW _
 |n+1=>by
  have b:=Qn p A d a i n;have c:=Ya p A d a (i:Int) (n:Int);unfold clS;rw[pQ];omega
theorem Qo(p:dtP)(A:dtA)(d:LkD)(B:List dtK):∀n,(clA p A d B n).length≤n *p.1.length
 | 0=>by simp[clA]
 |n+1=>by
  have a:=Qo p A d B n;have b:=Qn p A d (dlB p B n) n p.1.length;unfold clA;rw[pQ,Nat.succ_mul];omega
noncomputable def O7(p:dtP)(A:dtA)(d:LkD)(a:nH)(i t:Int):Int×Int:=((Fo p t (goV A i t) (rsL d a i t)).1,(Fo p t (goV A i t) (rsL d a i t)).2.1)
end
def Gd(p:dtP)(A:dtA)(d:LkD)(B:List dtK)(g:DU):Prop:= ∃a b,g=(p.1,p.2.1,p.2.2.1,p.2.2.2.1,p.2.2.2.2.1,p.2.2.2.2.2,a,b,clA p A d B B.length)∧a.length=B.length∧
 ∀(i:Nat),i<B.length→ ∃row,a[i]? =some row∧row=(List.range p.1.length).map λt=>O7 p A d (dlB p B i) (i:Int) ((t:Nat):Int)
theorem bM{nt b:Nat}{p:dtP}(c:Pl nt b p)(a:Int):0≤lvl p a→lvl p a< (p.2.2.2.2.1.length:Int):=λ_=>by
 have f:=c.assocs;have d:=c.levels.2
 have:lvl p a≤(b:Int):=by
  unfold lvl;split
  ·omega
  ·rename_i g
   have e:=H9 (l:=p.2.2.2.1) (i:=a) nJ nJ;rw[e];exact(d _ (pW _)).2
 omega
section
variable {p:dtP}{B:List dtK}{E:List (List Edge)}{d:LkD}{tt:Int}{A:dtA}
theorem dv{g:DU}(G:Gd p A d B g){i t:Nat}(e:i<B.length)(f:t<p.1.length):B7 g (i:Int) (t:Int)=some (O7 p A d (dlB p B i) (i:Int) (t:Int)):=by
 obtain⟨b,h,rfl,n,j⟩:=G;have⟨row,k,l⟩:=j i e;have m:row[t]? =some (O7 p A d (dlB p B i) (i:Int) (t:Int)):=by
  rw[l,List.getElem?_map,List.getElem?_range f];rfl
 unfold B7;refine rF (AM (Q:=λc=>c=false) (AM (Q:=λc=>c=true) ?_ λc a=>?_) λc a=>AZ a (AS k (AS m (AB rfl))))
 ·unfold Ct;exact AM (Q:=λc=>c=true) (Ay nP (AB (mW nO))) λc a=>AB a
 ·subst a;exact AZ rfl (AO (HO _ _) (AB nN))
theorem Wf{g:DU}(G:Gd p A d B g)(i:(clA p A d B B.length).length≤1000000)(e:∀x∈clA p A d B B.length,x.2.2.2.1.length≤1000000):B4 g=some (clA p A d B B.length):=by obtain⟨c,f,rfl,k,l⟩:=G;unfold B4;refine rF (BK (λj (z:List Cn)=>z=(clA p A d B B.length).take j) nO rfl (λj z h a=>?_) λz a=>AB (by rw[a];exact pE (oW _)));have b:=bD h;subst a;have m:=e _ (oB b);refine AS b (AO (x:=((clA p A d B B.length)[j]).2.2.2.1) (by unfold Dg.cloneD;rw[mZ nJ]) (Az nN (AB ?_)));rw[qG,b];rfl
end
end Go.Proofs.YtfnppeejaimnbaaGreatDoor
namespace Go.Proofs.YtfnppeejaimnbaaGreatDoor
open Go Go.Eng
noncomputable def MI(d:nG)(a f:Nat)(e:nG)(b g:Nat):T:=cond (((a:Nat):Int) !=((b:Nat):Int)) (oT (.bool false)) (oO 0 lW (oX lW [lN 0,.bool false] λc=>lL c.1 a (lK d a c.1 λh=>jR h c.1 2 λt4=>jX h c.1 2 1 λt5=>lK e b c.1 λi=>jR i c.1 2 λt7=>jX i c.1 2 1 λt8=>cond (!((t4==t7) && ((t5==t8) && true))) (oT (.bool false)) (nZ [lN (wN c.1),.bool c.2.1])) (pC 0 [lN c.1,.bool c.2.1])) λj=>oT (.bool true))
theorem KR(a:nG)(b c:Nat)(d:nG)(e f:Nat):Ab hM f111 [(.slice a b c),(.slice d e f)] =MI a b c d e f:=nU
noncomputable def OB(a:nG)(c b:Nat)(x_1:Int×Int×Unit):T:=jO #[lN x_1.1,lN x_1.2.1] 116 λr1=>oO 0 lZ (oX lZ [lN 0] λg=>pA lV (lL g.1 c (lK a c g.1 λG=>jR G g.1 2 λt6=>jY r1 0 λt7=>lM (t6<t7) (nZ [.bool true]) (lK a c g.1 λH=>jR H g.1 2 λI=>jY r1 0 λj=>cond (I==j) (lK a c g.1 λk=>jX k g.1 2 1 λl=>jY r1 1 λm=>nZ [.bool (decide (l<m))]) (nZ [.bool false]))) (nZ [.bool false])) λJ=>cond J.1 (nZ [lN (wN g.1)]) (pC 0 [lN g.1])) λd=>pA lV (lL d.1 c (lK a c d.1 λh=>jR h d.1 2 λn=>jX h d.1 2 1 λo=>jY r1 0 λp=>jY r1 1 λq=>nZ [.bool ((n==p) && ((o==q) && true))]) (nZ [.bool false])) λr=>cond r.1 (oT (.slice a c b)) (chk (0≤(0:Int)∧(0:Int) ≤d.1∧d.1≤(b:Nat))<|jY r1 0 λe=>jY r1 1 λf=>chk (0≤d.1∧d.1≤((c:Nat):Int)∧((c:Nat):Int) ≤(b:Nat))<|rQ (jO #[] 116 λi=>lD r1 0 e<|lD r1 1 f<|rQ (oY (hC #[106,106] 106 #[.slice (lF i) 0 0,.slice (if b=eE 0 then a else pB (λx=>pL x (eE 0 *2)) a) (eE d.1 - eE 0) (b - eE 0)]) lS λs=>lD r1 0 e<|lD r1 1 f<|jO #[lN e,lN f] 116 λt=>oY (hC #[106,106] 106 #[sv s,.slice (lF t) 1 1]) lS λu=>oY (hC #[106,106] 106 #[sv u,.slice (if b=eE d.1 then a else pB (λx=>pL x (eE d.1 *2)) a) (eE ((c:Nat):Int) - eE d.1) (b - eE d.1)]) lS λv=>oT (sv v)) (jO #[lN e,lN f] 116 λw=>oY (hC #[106,106] 106 #[.slice (lF i) 0 0,.slice (if b=eE 0 then a else pB (λx=>pL x (eE 0 *2)) a) (eE d.1 - eE 0) (b - eE 0)]) lS λy=>oY (hC #[106,106] 106 #[sv y,.slice (lF w) 1 1]) lS λz=>oY (hC #[106,106] 106 #[sv z,.slice (if b=eE d.1 then a else pB (λx=>pL x (eE d.1 *2)) a) (eE ((c:Nat):Int) - eE d.1) (b - eE d.1)]) lS λA=>oT (sv A))) (jO #[lN e,lN f] 116 λB=>jO #[] 116 λC=>oY (hC #[106,106] 106 #[.slice (lF C) 0 0,.slice (if b=eE 0 then a else pB (λx=>pL x (eE 0 *2)) a) (eE d.1 - eE 0) (b - eE 0)]) lS λD=>oY (hC #[106,106] 106 #[sv D,.slice (lF B) 1 1]) lS λE=>oY (hC #[106,106] 106 #[sv E,.slice (if b=eE d.1 then a else pB (λx=>pL x (eE d.1 *2)) a) (eE ((c:Nat):Int) - eE d.1) (b - eE d.1)]) lS λF=>oT (sv F)))
theorem MJ(a:nG)(b c:Nat)(d:Int×Int×Unit):Ab hM f65 [(.slice a b c),(.agg #[(.int .i64 d.1),(.int .i64 d.2.1)])] =OB a b c d:=nU
noncomputable def LD(p_0:Pl6)(x_1:Int×Int×Unit):T:=jO #[sv p_0.1,sv p_0.2.1,sv p_0.2.2.1,sv p_0.2.2.2.1,sv p_0.2.2.2.2.1,sv p_0.2.2.2.2.2.1] 32 λr1=>jO #[lN x_1.1,lN x_1.2.1] 116 λc=>jY c 1 λt3=>jM r1 2 λt4=>jY c 0 λt5=>lK t4.1 t4.2.1 t5 λh=>jU h t5 3 1 λt7=>lL t3 t7.2.1 (jM r1 2 λt8=>jY c 0 λg=>lK t8.1 t8.2.1 g λd=>jU d g 3 1 λa=>jY c 1 λb=>lK a.1 a.2.1 b λe=>jR e b 1 λf=>oT (lN f)) (oT (lN (-1:Int)))
theorem JY(p_0:Pl6)(a:Int×Int×Unit):Ab hM f64 [(aG p_0),(.agg #[(.int .i64 a.1),(.int .i64 a.2.1)])] =LD p_0 a:=nU
noncomputable def KS(p_0:Pl6)(b:nG)(c d:Nat):T:=jO #[sv p_0.1,sv p_0.2.1,sv p_0.2.2.1,sv p_0.2.2.2.1,sv p_0.2.2.2.2.1,sv p_0.2.2.2.2.2.1] 32 λr1=>jO #[] 116 λy=>oY (hC #[106,106] 106 #[.slice (lF y) 0 0,.slice b c d]) lS λt3=>oO 0 [aB,aS] (oX [aB,aS] [.bool true,sv t3] λk=>cond k.1 (oO 2 mA (oX mA [lN 0,.bool false,sv k.2.1] λe=>pA lV (lL e.1 e.2.2.1.2.1 (nZ [.bool (!e.2.1)]) (nZ [.bool false])) λz=>cond z.1 (L6 r1 λA l m n o p=>lK e.2.2.1.1 e.2.2.1.2.1 e.1 λf=>jR f e.1 2 λq=>jX f e.1 2 1 λr=>oS 64 [aH A l m n o p,.agg #[lN q,lN r]] lT λs=>oO 4 mA (oX mA [lN 0,.bool e.2.1,sv e.2.2.1] λa=>jM r1 2 λt=>lL a.1 t.2.1 (jM r1 2 λg=>lK g.1 g.2.1 a.1 λu=>jR u a.1 3 λv=>pA [aB,aS] (cond (v==s) (oS 65 [sv a.2.2.1,.agg #[lN a.1,lN 0]] lS λh=>pA lV (cond a.2.1 (nZ [.bool true]) (nZ [.bool (decide ((h.2.1:Int) >(a.2.2.1.2.1:Int)))])) λw=>nZ [.bool w.1,sv h]) (nZ [.bool a.2.1,sv a.2.2.1])) λi=>nZ [lN (wN a.1),.bool i.1,sv i.2.1]) (pC 4 [lN a.1,.bool a.2.1,sv a.2.2.1])) λj=>nZ [lN (wN e.1),.bool j.2.1,sv j.2.2.1]) (pC 2 [lN e.1,.bool e.2.1,sv e.2.2.1])) λx=>nZ [.bool x.2.1,sv x.2.2.1]) (pC 0 [.bool k.1,sv k.2.1])) λB=>oT (sv B.2.1)
theorem I2(p_0:Pl6)(a:nG)(b c:Nat):Ab hM f112 [(aG p_0),(.slice a b c)] =KS p_0 a b c:=nU
noncomputable def G3(p_0:Pl6)(c:Int)(e:Int):T:=jO #[sv p_0.1,sv p_0.2.1,sv p_0.2.2.1,sv p_0.2.2.2.1,sv p_0.2.2.2.2.1,sv p_0.2.2.2.2.2.1] 32 λr1=>L6 r1 λt2 t3 t4 t5 t6 t7=>jO #[sv t2,sv t3,sv t4,sv t5,sv t6,sv t7,lO,lO,lO,lO,lO,lN 0] 44 λd=>jO #[lN 0,lN 0] 116 λr9=>oS 62 [lP (lF d),.slice (lF r9) 1 1,lN (-1:Int),lN (-1:Int)] lT λa0=>oO 0 [aI,aP] (oX [aI,aP] [lN 0,lP none] λa=>jM d 6 λu=>cond (decide (a.1< (u.2.1:Int))) (pA lV (jM d 6 λj=>oS 63 [lN c] lT λv=>kJ d 6 j<|cond (decide ((j.2.1:Int) >v)) (nZ [.bool true]) (jY d 11 λk=>oS 63 [lN e] lT λw=>lD d 11 k<|nZ [.bool (decide (k>w))])) λx=>cond x.1 (oT (lP none)) (oO 2 lZ (oX lZ [lN 0] λf=>jM r1 0 λy=>jM r1 1 λz=>cond (decide (f.1≤(bO .i64 ((y.2.1:Int)+(z.2.1:Int))))) (oO 4 lY (oX lY [lN 0,lO] λb=>jM d 7 λl=>nW l.1 λA=>chk (0≤a.1∧a.1< (l.2.1:Nat))<|jN A a.1 1 λB=>cond (decide (b.1< (B.2.1:Int))) (jM d 7 λm=>nW m.1 λC=>chk (0≤a.1∧a.1< (m.2.1:Nat))<|jN C a.1 1 λn=>nW n.1 λo=>chk (0≤b.1∧b.1< (n.2.1:Nat))<|jR o b.1 2 λD=>jX o b.1 2 1 λE=>jO #[lN 0,lN 0] 116 λg=>jZ g 0 D<|jZ g 1 E<|L6 r1 λF G H I J K=>jY g 0 λL=>jY g 1 λM=>oS 64 [aH F G H I J K,.agg #[lN L,lN M]] lT λN=>pA [aS] (cond (N==f.1) (jY g 0 λO=>jY g 1 λP=>oS 65 [sv b.2.1,.agg #[lN O,lN (wN P)]] lS λQ=>nZ [sv Q]) (nZ [sv b.2.1])) λR=>nZ [lN (wN b.1),sv R.1]) (pC 4 [lN b.1,sv b.2.1])) λp=>pA [] (cond (decide ((p.2.1.2.1:Int) >(0:Int))) (oS 62 [lP (lF d),sv p.2.1,lN a.1,lN f.1] lT λS=>jM d 8 λh=>jM d 8 λi=>nW i.1 λq=>chk (0≤a.1∧a.1< (i.2.1:Nat))<|jN q a.1 1 λr=>jO #[lN f.1,lN S] 120 λU=>rO (q.add (eE a.1 *1)) (sv r)<|kJ d 8 i<|kJ d 8 h<|oY (hC #[110,110] 110 #[sv r,.slice (lF U) 1 1]) lS λV=>kJ d 8 h<|nW h.1 λW=>chk (0≤a.1∧a.1< (h.2.1:Nat))<|qS (W.add (eE a.1 *1)) (sv V)<|nZ []) (nZ [])) λa1=>nZ [lN (wN f.1)]) (pC 2 [lN f.1])) λa2=>nZ [lN (wN a.1),lP a.2.1])) (pC 0 [lN a.1,lP a.2.1])) λa3=>pA lV (jM d 6 λs=>oS 63 [lN c] lT λX=>kJ d 6 s<|cond (decide ((s.2.1:Int) >X)) (nZ [.bool true]) (jY d 11 λt=>oS 63 [lN e] lT λY=>lD d 11 t<|nZ [.bool (decide (t>Y))])) λZ=>cond Z.1 (oT (lP none)) (oT (lP (lF d)))
theorem KT(p_0:Pl6)(a:Int)(b:Int):Ab hM f27 [(aG p_0),(.int .i64 a),(.int .i64 b)] =G3 p_0 a b:=nU
noncomputable def IF(a_0:nG)(a:nG)(b c:Nat)(d:Int)(e:Int):T:=oO 0 lX (oX lX [lN 0,lN 0] λf=>nW a_0 λS=>jT S 6 λt4=>lL f.1 t4.2.1 (nW a_0 λU=>jT U 6 λt6=>lK t6.1 t6.2.1 f.1 λV=>jN V f.1 1 λt8=>oS 111 [sv t8,.slice a b c] lU λW=>cond W (oT (lN f.1)) (nZ [lN (wN f.1),lN f.2.1])) (pC 0 [lN f.1,lN f.2.1])) λX=>nW a_0 λh=>M6 h λi j k l m n=>oS 112 [aH i j k l m n,.slice a b c] lS λg=>nW a_0 λo=>jT o 6 λp=>jO #[.slice a b c] 106 λq=>oY (hC #[41,41] 41 #[sv p,.slice (lF q) 1 1]) lS λr=>nW a_0 λs=>qS (s.add 6) (sv r)<|nW a_0 λt=>jT t 7 λu=>jO #[sv g] 106 λv=>oY (hC #[41,41] 41 #[sv u,.slice (lF v) 1 1]) lS λw=>nW a_0 λx=>qS (x.add 7) (sv w)<|nW a_0 λy=>jT y 8 λz=>jO #[lO] 110 λA=>oY (hC #[42,42] 42 #[sv z,.slice (lF A) 1 1]) lS λB=>nW a_0 λC=>qS (C.add 8) (sv B)<|nW a_0 λD=>jT D 9 λE=>jO #[lN d] 3 λF=>oY (hC #[30,30] 30 #[sv E,.slice (lF F) 1 1]) lS λG=>nW a_0 λH=>qS (H.add 9) (sv G)<|nW a_0 λI=>jT I 10 λJ=>jO #[lN e] 3 λK=>oY (hC #[30,30] 30 #[sv J,.slice (lF K) 1 1]) lS λL=>nW a_0 λM=>qS (M.add 10) (sv L)<|nW a_0 λN=>kO N 11 λO=>nW a_0 λP=>qS (P.add 11) (lN (lQ (O+(g.2.1:Int))))<|nW a_0 λQ=>jT Q 6 λR=>oT (lN (lQ ((R.2.1:Int) - 1)))
theorem HU(a_0:nG)(c:nG)(d e:Nat)(a:Int)(b:Int):Ab hM f62 [(.pointer a_0),(.slice c d e),(.int .i64 a),(.int .i64 b)] =IF a_0 c d e a b:=nU
noncomputable def KU(a_0:nG)(a:Int)(c:Int):T:=pA lV (lM (a< 0) (nZ [.bool true]) (nW a_0 λp=>jT p 8 λt3=>nZ [.bool (decide (a≥ (t3.2.1:Int)))])) λq=>cond q.1 (oT (lN (-1:Int))) (oO 0 lX (oX lX [lN 0,lN 0] λb=>nW a_0 λr=>jT r 8 λt7=>lK t7.1 t7.2.1 a λs=>jN s a 1 λt=>lL b.1 t.2.1 (nW a_0 λh=>jT h 8 λd=>lK d.1 d.2.1 a λi=>jN i a 1 λe=>lK e.1 e.2.1 b.1 λj=>jR j b.1 2 λk=>cond (k==c) (nW a_0 λl=>jT l 8 λf=>lK f.1 f.2.1 a λm=>jN m a 1 λg=>lK g.1 g.2.1 b.1 λn=>jX n b.1 2 1 λo=>oT (lN o)) (nZ [lN (wN b.1),lN b.2.1])) (pC 0 [lN b.1,lN b.2.1])) λu=>oT (lN (-1:Int)))
theorem I4(a_0:nG)(a:Int)(b:Int):Ab hM f33 [(.pointer a_0),(.int .i64 a),(.int .i64 b)] =KU a_0 a b:=nU
noncomputable def OC(a:nG)(c b:Nat)(x_1:Int×Int×Int×Unit):T:=jO #[lN x_1.1,lN x_1.2.1,lN x_1.2.2.1] 146 λr1=>oO 0 lZ (oX lZ [lN 0] λe=>pA lV (lL e.1 c (lK a c e.1 λP=>jR P e.1 3 λt6=>jY r1 0 λt7=>lM (t6<t7) (nZ [.bool true]) (lK a c e.1 λQ=>jR Q e.1 3 λR=>jY r1 0 λk=>cond (R==k) (lK a c e.1 λl=>jX l e.1 3 1 λm=>jY r1 1 λn=>lM (m<n) (nZ [.bool true]) (lK a c e.1 λo=>jX o e.1 3 1 λp=>jY r1 1 λq=>cond (p==q) (lK a c e.1 λr=>jX r e.1 3 2 λs=>jY r1 2 λt=>nZ [.bool (decide (s<t))]) (nZ [.bool false]))) (nZ [.bool false]))) (nZ [.bool false])) λS=>cond S.1 (nZ [lN (wN e.1)]) (pC 0 [lN e.1])) λd=>pA lV (lL d.1 c (lK a c d.1 λi=>jR i d.1 3 λu=>jX i d.1 3 1 λv=>jX i d.1 3 2 λw=>jY r1 0 λy=>jY r1 1 λz=>jY r1 2 λA=>nZ [.bool (((u==y) && ((v==z) && true)) && ((w==A) && true))]) (nZ [.bool false])) λB=>cond B.1 (oT (.tuple #[.slice a c b,.bool false])) (chk (0≤(0:Int)∧(0:Int) ≤d.1∧d.1≤(b:Nat))<|jY r1 0 λf=>jY r1 1 λg=>jY r1 2 λh=>chk (0≤d.1∧d.1≤((c:Nat):Int)∧((c:Nat):Int) ≤(b:Nat))<|rQ (jO #[] 146 λj=>lD r1 0 f<|lD r1 1 g<|lD r1 2 h<|rQ (oY (hC #[143,143] 143 #[.slice (lF j) 0 0,.slice (if b=eE 0 then a else pB (λx=>pL x (eE 0 *3)) a) (eE d.1 - eE 0) (b - eE 0)]) lS λC=>lD r1 0 f<|lD r1 1 g<|lD r1 2 h<|jO #[lN f,lN g,lN h] 146 λD=>oY (hC #[143,143] 143 #[sv C,.slice (lF D) 1 1]) lS λE=>oY (hC #[143,143] 143 #[sv E,.slice (if b=eE d.1 then a else pB (λx=>pL x (eE d.1 *3)) a) (eE ((c:Nat):Int) - eE d.1) (b - eE d.1)]) lS λF=>oT (.tuple #[sv F,.bool true])) (jO #[lN f,lN g,lN h] 146 λG=>oY (hC #[143,143] 143 #[.slice (lF j) 0 0,.slice (if b=eE 0 then a else pB (λx=>pL x (eE 0 *3)) a) (eE d.1 - eE 0) (b - eE 0)]) lS λH=>oY (hC #[143,143] 143 #[sv H,.slice (lF G) 1 1]) lS λI=>oY (hC #[143,143] 143 #[sv I,.slice (if b=eE d.1 then a else pB (λx=>pL x (eE d.1 *3)) a) (eE ((c:Nat):Int) - eE d.1) (b - eE d.1)]) lS λJ=>oT (.tuple #[sv J,.bool true]))) (jO #[lN f,lN g,lN h] 146 λK=>jO #[] 146 λL=>oY (hC #[143,143] 143 #[.slice (lF L) 0 0,.slice (if b=eE 0 then a else pB (λx=>pL x (eE 0 *3)) a) (eE d.1 - eE 0) (b - eE 0)]) lS λM=>oY (hC #[143,143] 143 #[sv M,.slice (lF K) 1 1]) lS λN=>oY (hC #[143,143] 143 #[sv N,.slice (if b=eE d.1 then a else pB (λx=>pL x (eE d.1 *3)) a) (eE ((c:Nat):Int) - eE d.1) (b - eE d.1)]) lS λO=>oT (.tuple #[sv O,.bool true])))
theorem MK(a:nG)(b c:Nat)(d:Int×Int×Int×Unit):Ab hM f68 [(.slice a b c),(.agg #[(.int .i64 d.1),(.int .i64 d.2.1),(.int .i64 d.2.2.1)])] =OC a b c d:=nU
noncomputable def KV(p_0:Pl6)(D:nG)(p:nG)(q r:Nat):T:=jO #[sv p_0.1,sv p_0.2.1,sv p_0.2.2.1,sv p_0.2.2.2.1,sv p_0.2.2.2.2.1,sv p_0.2.2.2.2.2.1] 32 λr1=>jO #[] 146 λr2=>oY (hC #[143,143] 143 #[.slice (lF r2) 0 0,.slice p q r]) lS λt3=>jO #[] 146 λr4=>oY (hC #[143,143] 143 #[.slice (lF r4) 0 0,.slice p q r]) lS λt5=>oO 0 mD (oX mD [lN 0,sv t5,sv t3] λl=>lL l.1 l.2.1.2.1 (oO 1 mB (lK l.2.1.1 l.2.1.2.1 l.1 λa9=>jR a9 l.1 3 λb6=>jX a9 l.1 3 1 λb7=>jX a9 l.1 3 2 λb8=>jO #[lN 0,lN 0,lN 0] 146 λd=>jZ d 0 b6<|jZ d 1 b7<|jZ d 2 b8<|L6 r1 λb9 c0 c1 c2 c3 c4=>jY d 0 λc5=>jY d 1 λc6=>oS 64 [aH b9 c0 c1 c2 c3 c4,.agg #[lN c5,lN c6]] lT λv=>jM r1 0 λc7=>lL v c7.2.1 (pC 1 [sv l.2.1,sv l.2.2.1]) (jM r1 2 λo=>jY d 0 λk=>lK o.1 o.2.1 k λs=>jU s k 3 1 λa=>jY d 1 λe=>chk (0≤(wN e)∧(wN e) ≤(a.2.1:Int)∧(a.2.1:Int) ≤(a.2.2:Nat))<|jY d 2 λt=>rQ (jO #[] 3 λG=>lD d 2 t<|lD d 1 e<|rO ((s.add (eE k *3)).add 1) (sv a)<|lD d 0 k<|kJ r1 2 o<|rQ (oY (hC #[30,30] 30 #[.slice (lF G) 0 0,.slice (if a.2.2=eE (wN e) then a.1 else pB (λx=>pL x (eE (wN e) *1)) a.1) (eE (a.2.1:Int) - eE (wN e)) (a.2.2 - eE (wN e))]) lS λc8=>lD d 2 t<|jO #[lN t] 3 λc9=>oY (hC #[30,30] 30 #[sv c8,.slice (lF c9) 1 1]) lS λd0=>L6 r1 λd1 d2 d3 d4 d5 d6=>oS 114 [lP D,aH d1 d2 d3 d4 d5 d6,sv d0] (.tuple mC) λE=>oO 2 mD (oX mD [lN 0,sv l.2.1,sv l.2.2.1] λi=>jM r1 2 λd7=>lL i.1 d7.2.1 (oO 3 mB (jM r1 2 λH=>lK H.1 H.2.1 i.1 λd8=>jR d8 i.1 3 λd9=>cond (d9 !=v) (pC 3 [sv i.2.1,sv i.2.2.1]) (oO 4 mD (oX mD [lN 0,sv i.2.1,sv i.2.2.1] λg=>lL g.1 E.1.2.1 (lK E.1.1 E.1.2.1 g.1 λe0=>kZ e0 g.1 1 λe1=>pA mB (cond e1 (jO #[lN 0,lN 0,lN 0] 146 λm=>jZ m 0 i.1<|jZ m 1 0<|jZ m 2 g.1<|jY m 0 λe2=>jY m 1 λe3=>jY m 2 λe4=>oS 68 [sv g.2.2.1,.agg #[lN e2,lN e3,lN e4]] (.tuple mC) λI=>pA [aS] (cond I.2.1 (jY m 0 λe5=>jY m 1 λe6=>jY m 2 λe7=>jO #[lN e5,lN e6,lN e7] 146 λe8=>oY (hC #[143,143] 143 #[sv g.2.1,.slice (lF e8) 1 1]) lS λe9=>nZ [sv e9]) (nZ [sv g.2.1])) λf0=>nZ [sv f0.1,sv I.1]) (nZ [sv g.2.1,sv g.2.2.1])) λJ=>nZ [lN (wN g.1),sv J.1,sv J.2.1]) (pC 4 [lN g.1,sv g.2.1,sv g.2.2.1])) λK=>nZ [sv K.2.1,sv K.2.2.1])) λL=>nZ [lN (wN i.1),sv L.1,sv L.2.1]) (pC 2 [lN i.1,sv i.2.1,sv i.2.2.1])) λM=>nZ [sv M.2.1,sv M.2.2.1]) (jO #[lN t] 3 λf1=>lD d 1 e<|rO ((s.add (eE k *3)).add 1) (sv a)<|lD d 0 k<|kJ r1 2 o<|oY (hC #[30,30] 30 #[.slice (lF G) 0 0,.slice (if a.2.2=eE (wN e) then a.1 else pB (λx=>pL x (eE (wN e) *1)) a.1) (eE (a.2.1:Int) - eE (wN e)) (a.2.2 - eE (wN e))]) lS λf2=>oY (hC #[30,30] 30 #[sv f2,.slice (lF f1) 1 1]) lS λf3=>L6 r1 λf4 f5 f6 f7 f8 f9=>oS 114 [lP D,aH f4 f5 f6 f7 f8 f9,sv f3] (.tuple mC) λF=>oO 2 mD (oX mD [lN 0,sv l.2.1,sv l.2.2.1] λj=>jM r1 2 λg0=>lL j.1 g0.2.1 (oO 3 mB (jM r1 2 λN=>lK N.1 N.2.1 j.1 λg1=>jR g1 j.1 3 λg2=>cond (g2 !=v) (pC 3 [sv j.2.1,sv j.2.2.1]) (oO 4 mD (oX mD [lN 0,sv j.2.1,sv j.2.2.1] λh=>lL h.1 F.1.2.1 (lK F.1.1 F.1.2.1 h.1 λg3=>kZ g3 h.1 1 λg4=>pA mB (cond g4 (jO #[lN 0,lN 0,lN 0] 146 λn=>jZ n 0 j.1<|jZ n 1 0<|jZ n 2 h.1<|jY n 0 λg5=>jY n 1 λg6=>jY n 2 λg7=>oS 68 [sv h.2.2.1,.agg #[lN g5,lN g6,lN g7]] (.tuple mC) λO=>pA [aS] (cond O.2.1 (jY n 0 λg8=>jY n 1 λg9=>jY n 2 λh0=>jO #[lN g8,lN g9,lN h0] 146 λh1=>oY (hC #[143,143] 143 #[sv h.2.1,.slice (lF h1) 1 1]) lS λh2=>nZ [sv h2]) (nZ [sv h.2.1])) λh3=>nZ [sv h3.1,sv O.1]) (nZ [sv h.2.1,sv h.2.2.1])) λP=>nZ [lN (wN h.1),sv P.1,sv P.2.1]) (pC 4 [lN h.1,sv h.2.1,sv h.2.2.1])) λQ=>nZ [sv Q.2.1,sv Q.2.2.1])) λR=>nZ [lN (wN j.1),sv R.1,sv R.2.1]) (pC 2 [lN j.1,sv j.2.1,sv j.2.2.1])) λS=>nZ [sv S.2.1,sv S.2.2.1])) (jO #[lN t] 3 λh4=>lD d 1 e<|rO ((s.add (eE k *3)).add 1) (sv a)<|lD d 0 k<|kJ r1 2 o<|jO #[] 3 λh5=>lD d 1 e<|rO ((s.add (eE k *3)).add 1) (sv a)<|lD d 0 k<|kJ r1 2 o<|oY (hC #[30,30] 30 #[.slice (lF h5) 0 0,.slice (if a.2.2=eE (wN e) then a.1 else pB (λx=>pL x (eE (wN e) *1)) a.1) (eE (a.2.1:Int) - eE (wN e)) (a.2.2 - eE (wN e))]) lS λh6=>oY (hC #[30,30] 30 #[sv h6,.slice (lF h4) 1 1]) lS λU=>L6 r1 λV W X Y Z a0=>oS 114 [lP D,aH V W X Y Z a0,sv U] (.tuple mC) λu=>oO 2 mD (oX mD [lN 0,sv l.2.1,sv l.2.2.1] λc=>jM r1 2 λa1=>lL c.1 a1.2.1 (oO 3 mB (jM r1 2 λw=>lK w.1 w.2.1 c.1 λa2=>jR a2 c.1 3 λa3=>cond (a3 !=v) (pC 3 [sv c.2.1,sv c.2.2.1]) (oO 4 mD (oX mD [lN 0,sv c.2.1,sv c.2.2.1] λb=>lL b.1 u.1.2.1 (lK u.1.1 u.1.2.1 b.1 λa4=>kZ a4 b.1 1 λa5=>pA mB (cond a5 (jO #[lN 0,lN 0,lN 0] 146 λf=>jZ f 0 c.1<|jZ f 1 0<|jZ f 2 b.1<|jY f 0 λa6=>jY f 1 λa7=>jY f 2 λa8=>oS 68 [sv b.2.2.1,.agg #[lN a6,lN a7,lN a8]] (.tuple mC) λy=>pA [aS] (cond y.2.1 (jY f 0 λb0=>jY f 1 λb1=>jY f 2 λb2=>jO #[lN b0,lN b1,lN b2] 146 λb3=>oY (hC #[143,143] 143 #[sv b.2.1,.slice (lF b3) 1 1]) lS λb4=>nZ [sv b4]) (nZ [sv b.2.1])) λb5=>nZ [sv b5.1,sv y.1]) (nZ [sv b.2.1,sv b.2.2.1])) λz=>nZ [lN (wN b.1),sv z.1,sv z.2.1]) (pC 4 [lN b.1,sv b.2.1,sv b.2.2.1])) λA=>nZ [sv A.2.1,sv A.2.2.1])) λB=>nZ [lN (wN c.1),sv B.1,sv B.2.1]) (pC 2 [lN c.1,sv c.2.1,sv c.2.2.1])) λC=>nZ [sv C.2.1,sv C.2.2.1]))) λz8=>nZ [lN (wN l.1),sv z8.1,sv z8.2.1]) (pC 0 [lN l.1,sv l.2.1,sv l.2.2.1])) λz6=>oT (sv z6.2.2.1)
theorem I5(p_0:Pl6)(d:nG)(a:nG)(b c:Nat):Ab hM f67 [(aG p_0),(.pointer d),(.slice a b c)] =KV p_0 d a b c:=nU
noncomputable def NG(d:nG)(a f:Nat)(e:nG)(c g:Nat):T:=cond (((a:Nat):Int) !=((c:Nat):Int)) (oT (.bool false)) (oO 0 lW (oX lW [lN 0,.bool false] λb=>lL b.1 a (lK d a b.1 λh=>jR h b.1 3 λt4=>jX h b.1 3 1 λt5=>jX h b.1 3 2 λt6=>lK e c b.1 λi=>jR i b.1 3 λt8=>jX i b.1 3 1 λk=>jX i b.1 3 2 λj=>cond (!(((t4==t8) && ((t5==k) && true)) && ((t6==j) && true))) (oT (.bool false)) (nZ [lN (wN b.1),.bool b.2.1])) (pC 0 [lN b.1,.bool b.2.1])) λl=>oT (.bool true))
theorem LE(a:nG)(b c:Nat)(d:nG)(e f:Nat):Ab hM f69 [(.slice a b c),(.slice d e f)] =NG a b c d e f:=nU
noncomputable def Wg(r1:Nat)(a_1:nG)(pl al:Slc):T:=L6 r1 λE F G H I J=>jO #[sv E,sv F,sv G,sv H,sv I,sv J,lP a_1,lO] 153 λj=>oO 8 lZ (oX lZ [lN 0] λp=>nW a_1 λK=>jT K 6 λL=>cond (decide (p.1< (L.2.1:Int))) (oO 10 lY (oX lY [lN 0,lO] λd=>jM r1 2 λM=>cond (decide (d.1< (M.2.1:Int))) (jM r1 0 λq=>oY (Instr.makeSlice 100 (lN (q.2.1:Int)) (lN (q.2.1:Int))) lS λN=>jO #[sv N] 100 λO=>oY (hC #[154,154] 154 #[sv d.2.1,.slice (lF O) 1 1]) lS λP=>nZ [lN (wN d.1),sv P]) (pC 10 [lN d.1,sv d.2.1])) λQ=>jM j 7 λR=>jO #[sv Q.2.1] 154 λS=>oY (hC #[151,151] 151 #[sv R,.slice (lF S) 1 1]) lS λU=>jQ j 7 U<|nZ [lN (wN p.1)]) (pC 8 [lN p.1])) λZ=>oO 12 lZ (oX lZ [lN 0] λa=>cond (decide (a.1< (al.2.1:Int))) (oO 14 lZ (oX lZ [lN 0] λc=>nW al.1 λV=>chk (0≤a.1∧a.1< (al.2.1:Nat))<|jN V a.1 1 λW=>cond (decide (c.1< (W.2.1:Int))) (nW al.1 λX=>chk (0≤a.1∧a.1< (al.2.1:Nat))<|jN X a.1 1 λk=>nW k.1 λe=>chk (0≤c.1∧c.1< (k.2.1:Nat))<|jR e c.1 3 λr=>jX e c.1 3 1 λs=>jX e c.1 3 2 λt=>jO #[lN 0,lN 0,lN 0] 146 λb=>jZ b 0 r<|jZ b 1 s<|jZ b 2 t<|pA lV (nW pl.1 λu=>chk (0≤a.1∧a.1< (pl.2.1:Nat))<|jR u a.1 1 λv=>cond (decide (v≥ 0)) (jY b 1 λw=>jM r1 2 λl=>jY b 0 λf=>nW l.1 λx=>chk (0≤f∧f< (l.2.1:Nat))<|jU x f 3 1 λy=>nZ [.bool (w==(y.2.1:Int))]) (nZ [.bool false])) λz=>pA [] (cond z.1 (jM j 7 λm=>nW pl.1 λA=>chk (0≤a.1∧a.1< (pl.2.1:Nat))<|jR A a.1 1 λg=>nW m.1 λB=>chk (0≤g∧g< (m.2.1:Nat))<|jN B g 1 λn=>jY b 0 λh=>nW n.1 λC=>chk (0≤h∧h< (n.2.1:Nat))<|jN C h 1 λo=>jY b 2 λi=>nW o.1 λD=>chk (0≤i∧i< (o.2.1:Nat))<|qS (D.add (eE i *1)) (.bool true)<|nZ []) (nZ [])) λY=>nZ [lN (wN c.1)]) (pC 14 [lN c.1])) λa0=>nZ [lN (wN a.1)]) (pC 12 [lN a.1])) λa1=>oT (lP (lF j))
noncomputable def O8(p_0:Pl6)(a_1:nG)(f:Int):T:=jO #[sv p_0.1,sv p_0.2.1,sv p_0.2.2.1,sv p_0.2.2.2.1,sv p_0.2.2.2.2.1,sv p_0.2.2.2.2.2.1] 32 λr1=>L6 r1 λt2 t3 t4 t5 t6 t7=>oS 66 [aH t2 t3 t4 t5 t6 t7] lR λt8=>L6 r1 λt9 o p q r s=>jO #[lN 0,lN 0,lN 0] 146 λt=>oS 67 [aH t9 o p q r s,lP t8,.slice (lF t) 1 1] lS λu=>jO #[sv u] 143 λv=>jO #[lN 0] 3 λw=>oO 0 [aI,aS,aS,aP] (oX [aI,aS,aS,aP] [lN 0,.slice (lF w) 1 1,.slice (lF v) 1 1,lP none] λb=>lL b.1 b.2.2.1.2.1 (lM ((b.2.2.1.2.1:Int) >f) (oT (lP none)) (oO 2 mD (oX mD [lN 1,sv b.2.1,sv b.2.2.1] λa=>jM r1 0 λx=>jM r1 1 λy=>lM (a.1< (lQ ((x.2.1:Int)+(y.2.1:Int)))) (oO 3 mB (oO 4 lY (oX lY [lN 0,lO] λc=>lK a.2.2.1.1 a.2.2.1.2.1 b.1 λz=>jN z b.1 1 λA=>lL c.1 A.2.1 (lK a.2.2.1.1 a.2.2.1.2.1 b.1 λB=>jN B b.1 1 λh=>lK h.1 h.2.1 c.1 λg=>jR g c.1 3 λC=>jX g c.1 3 1 λD=>jX g c.1 3 2 λE=>jO #[lN 0,lN 0,lN 0] 146 λd=>jZ d 0 C<|jZ d 1 D<|jZ d 2 E<|L6 r1 λF G H I J K=>jY d 0 λL=>jY d 1 λM=>oS 64 [aH F G H I J K,.agg #[lN L,lN M]] lT λN=>pA [aS] (cond (N==a.1) (jY d 0 λO=>jY d 1 λP=>jY d 2 λQ=>oS 68 [sv c.2.1,.agg #[lN O,lN (wN P),lN Q]] (.tuple mC) λR=>nZ [sv R.1]) (nZ [sv c.2.1])) λS=>nZ [lN (wN c.1),sv S.1]) (pC 4 [lN c.1,sv c.2.1])) λi=>cond ((i.2.1.2.1:Int)==(0:Int)) (pC 3 [sv a.2.1,sv a.2.2.1]) (L6 r1 λU V W X Y Z=>oS 67 [aH U V W X Y Z,lP t8,sv i.2.1] lS λj=>oO 6 lW (oX lW [lN 0,.bool false] λe=>lL e.1 a.2.2.1.2.1 (pA lV (cond e.2.1 (nZ [.bool true]) (lK a.2.2.1.1 a.2.2.1.2.1 e.1 λa0=>jN a0 e.1 1 λa1=>oS 69 [sv a1,sv j] lU λa2=>nZ [.bool a2])) λa3=>nZ [lN (wN e.1),.bool a3.1]) (pC 6 [lN e.1,.bool e.2.1])) λa4=>pA mB (cond (!a4.2.1) (jO #[sv j] 143 λa5=>oY (hC #[147,147] 147 #[sv a.2.2.1,.slice (lF a5) 1 1]) lS λa6=>lK a.2.1.1 a.2.1.2.1 b.1 λa7=>jR a7 b.1 1 λa8=>oS 33 [lP a_1,lN a8,lN a.1] lT λa9=>jO #[lN a9] 3 λb0=>oY (hC #[30,30] 30 #[sv a.2.1,.slice (lF b0) 1 1]) lS λb1=>nZ [sv b1,sv a6]) (nZ [sv a.2.1,sv a.2.2.1])) λk=>nZ [sv k.1,sv k.2.1])) λl=>nZ [lN (wN a.1),sv l.1,sv l.2.1]) (pC 2 [lN a.1,sv a.2.1,sv a.2.2.1])) λm=>nZ [lN (wN b.1),sv m.2.1,sv m.2.2.1,lP b.2.2.2.1])) (pC 0 [lN b.1,sv b.2.1,sv b.2.2.1,lP b.2.2.2.1])) λn=>Wg r1 a_1 n.2.1 n.2.2.1
theorem NH(p_0:Pl6)(a_1:nG)(a:Int):Ab hM f28 [(aG p_0),(.pointer a_1),(.int .i64 a)] =O8 p_0 a_1 a:=nU
noncomputable def IG(l_0:nG)(a:Int):T:=pA lV (lM (a< 0) (nZ [.bool true]) (nW l_0 λA=>lB A 6 λt3=>nW t3 λB=>jT B 7 λt5=>nZ [.bool (decide (a≥ (t5.2.1:Int)))])) λC=>cond C.1 (oT lO) (oO 0 lY (oX lY [lN 0,lO] λc=>nW l_0 λD=>lB D 6 λE=>nW E λj=>jT j 7 λd=>lK d.1 d.2.1 a λk=>jN k a 1 λl=>lL c.1 l.2.1 (nW l_0 λm=>lB m 6 λn=>nW n λo=>jT o 7 λe=>lK e.1 e.2.1 a λp=>jN p a 1 λf=>lK f.1 f.2.1 c.1 λg=>jR g c.1 2 λq=>jX g c.1 2 1 λr=>jO #[lN 0,lN 0] 116 λb=>jZ b 0 q<|jZ b 1 r<|jY b 1 λs=>nW l_0 λt=>jT t 2 λh=>jY b 0 λi=>lK h.1 h.2.1 i λu=>jU u i 3 1 λv=>pA [aS] (cond (s==(v.2.1:Int)) (jY b 0 λw=>jO #[lN w] 3 λx=>oY (hC #[30,30] 30 #[sv c.2.1,.slice (lF x) 1 1]) lS λy=>nZ [sv y]) (nZ [sv c.2.1])) λz=>nZ [lN (wN c.1),sv z.1]) (pC 0 [lN c.1,sv c.2.1])) λF=>oT (sv F.2.1))
theorem HV(l_0:nG)(a:Int):Ab hM f70 [(.pointer l_0),(.int .i64 a)] =IG l_0 a:=nU
noncomputable def JZ(l_0:nG)(a:Int)(b:Int):T:=pA lV (lM (a< 0) (nZ [.bool true]) (nW l_0 λg=>jT g 7 λt3=>lM (a≥ (t3.2.1:Int)) (nZ [.bool true]) (lM (b< 0) (nZ [.bool true]) (nW l_0 λh=>jT h 2 λt5=>nZ [.bool (decide (b≥ (t5.2.1:Int)))])))) λi=>cond i.1 (oT lO) (nW l_0 λj=>jT j 7 λt7=>lK t7.1 t7.2.1 a λk=>jN k a 1 λf=>lK f.1 f.2.1 b λc=>jN c b 1 λd=>oS 116 [sv d] lS λe=>oT (sv e))
theorem IH(l_0:nG)(a:Int)(b:Int):Ab hM f72 [(.pointer l_0),(.int .i64 a),(.int .i64 b)] =JZ l_0 a b:=nU
noncomputable def Ja(g_0:nG)(a:Int)(b:Int):T:=nW g_0 λn=>lB n 7 λt2=>oS 70 [lP t2,lN a] lS λt3=>oO 0 lY (oX lY [lN 0,lO] λc=>lL c.1 t3.2.1 (nW g_0 λo=>lB o 7 λt7=>lK t3.1 t3.2.1 c.1 λp=>jR p c.1 1 λq=>oS 72 [lP t7,lN a,lN q] lS λd=>oS 71 [sv d,lN b] lU λe=>pA [aS] (cond e (lK t3.1 t3.2.1 c.1 λf=>jR f c.1 1 λg=>jO #[lN g] 3 λh=>oY (hC #[30,30] 30 #[sv c.2.1,.slice (lF h) 1 1]) lS λi=>nZ [sv i]) (nZ [sv c.2.1])) λj=>nZ [lN (wN c.1),sv j.1]) (pC 0 [lN c.1,sv c.2.1])) λr=>nW g_0 λk=>lB k 6 λl=>oS 33 [lP l,lN a,lN b] lT λm=>oT (.tuple #[lN m,sv r.2.1])
theorem II(g_0:nG)(a:Int)(b:Int):Ab hM f31 [(.pointer g_0),(.int .i64 a),(.int .i64 b)] =Ja g_0 a b:=nU
noncomputable def KW(g_0:nG)(b:Int)(a:Int):T:=jO #[lN 0,lN 0] 50 λr1=>pA lV (lM (b< 0) (nZ [.bool true]) (nW g_0 λs=>lB s 6 λt4=>nW t4 λt=>jT t 6 λt6=>lM (b≥ (t6.2.1:Int)) (nZ [.bool true]) (lM (a< 0) (nZ [.bool true]) (nW g_0 λu=>lA u λt8=>nZ [.bool (decide (a≥ (t8.2.1:Int)))])))) λv=>cond v.1 (jZ r1 0 0<|jZ r1 1 0<|jY r1 0 λg=>jY r1 1 λd=>oT (.agg #[lN g,lN d])) (oS 31 [lP g_0,lN b,lN a] (.tuple lY) λh=>nW g_0 λj=>M6 j λk l m n o p=>oS 32 [aH k l m n o p,lN a,lN h.1,sv h.2.1] mK λi=>jO #[lN 0,lN 0] 50 λc=>jZ c 0 i.1.1<|jZ c 1 i.1.2.1<|jY c 0 λq=>jY c 1 λr=>jZ r1 0 q<|jZ r1 1 r<|jY r1 0 λe=>jY r1 1 λf=>oT (.agg #[lN e,lN f]))
theorem I6(g_0:nG)(a:Int)(b:Int):Ab hM f10 [(.pointer g_0),(.int .i64 a),(.int .i64 b)] =KW g_0 a b:=nU
noncomputable def KX(g_0:nG)(b:Int)(a:Int):T:=pA lV (nW g_0 λd=>lA d λt3=>lL a t3.2.1 (nZ [.bool true]) (nW g_0 λe=>lA e λt5=>nW g_0 λf=>jT f 1 λt7=>nZ [.bool (decide (a≥ (lQ ((t5.2.1:Int)+(t7.2.1:Int)))))])) λg=>cond g.1 (oT (lN (-1:Int))) (nW g_0 λh=>lB h 6 λi=>oS 33 [lP i,lN b,lN a] lT λc=>oT (lN c))
theorem I7(g_0:nG)(a:Int)(b:Int):Ab hM f12 [(.pointer g_0),(.int .i64 a),(.int .i64 b)] =KX g_0 a b:=nU
noncomputable def HW(g_0:nG):T:=oO 0 lY (oX lY [lN 0,lO] λd=>nW g_0 λt=>lB t 6 λt4=>nW t4 λu=>jT u 6 λt6=>lL d.1 t6.2.1 (oO 2 lY (oX lY [lN 0,sv d.2.1] λb=>nW g_0 λv=>lA v λf=>lL b.1 f.2.1 (oS 31 [lP g_0,lN d.1,lN b.1] (.tuple lY) λa=>pA lZ (lM (a.1≥ 0) (nZ [lN (lQ ((a.2.1.2.1:Int)+(1:Int)))]) (nZ [lN (a.2.1.2.1:Int)])) λg=>pA [aS] (lM (g.1>(1:Int)) (nW g_0 λh=>M6 h λi j k l m n=>oS 32 [aH i j k l m n,lN b.1,lN a.1,sv a.2.1] mK λe=>jO #[lN 0,lN 0] 50 λc=>jZ c 0 e.1.1<|jZ c 1 e.1.2.1<|jY c 0 λo=>jY c 1 λp=>jO #[lN d.1,lN b.1,lN a.1,sv a.2.1,lN o,lN p,.bool e.2.1] 62 λq=>oY (hC #[54,54] 54 #[sv b.2.1,.slice (lF q) 1 1]) lS λr=>nZ [sv r]) (nZ [sv b.2.1])) λs=>nZ [lN (wN b.1),sv s.1]) (pC 2 [lN b.1,sv b.2.1])) λw=>nZ [lN (wN d.1),sv w.2.1]) (pC 0 [lN d.1,sv d.2.1])) λx=>oT (sv x.2.1)
theorem G4(g_0:nG):Ab hM f15 [(.pointer g_0)] =HW g_0:=nU
noncomputable def IJ(g_0:nG):T:=oS 15 [lP g_0] lS λt1=>oO 0 lW (oX lW [lN 0,.bool false] λa=>lL a.1 t1.2.1 (lK t1.1 t1.2.1 a.1 λb=>kV b a.1 7 6 λt5=>cond t5 (oT (.bool false)) (nZ [lN (wN a.1),.bool a.2.1])) (pC 0 [lN a.1,.bool a.2.1])) λc=>oT (.bool true)
theorem HX(g_0:nG):Ab hM f17 [(.pointer g_0)] =IJ g_0:=nU
noncomputable def NI(x_0:Int×Int×Unit):T:=jO #[lN x_0.1,lN x_0.2.1] 50 λr1=>jY r1 0 λt2=>cond (t2==(3:Int)) (oT (lN 1)) (pA lV (jY r1 1 λt4=>lM (t4< 0) (nZ [.bool true]) (jY r1 1 λt5=>lM (t5>(1099511627776:Int)) (nZ [.bool true]) (jY r1 0 λt6=>cond (t6 !=(1:Int)) (jY r1 0 λt7=>nZ [.bool (t7 !=(2:Int))]) (nZ [.bool false])))) λa=>cond a.1 (oT (lN 0)) (jY r1 1 λt8=>jY r1 0 λb=>oT (lN (lQ ((lQ ((lQ (2 *t8))+(1:Int)))+b)))))
theorem LF(a:Int×Int×Unit):Ab hM f39 [(.agg #[(.int .i64 a.1),(.int .i64 a.2.1)])] =NI a:=nU
noncomputable def I8(g_0:nG):T:=oO 0 lY (oX lY [lN 0,lO] λb=>nW g_0 λu=>lB u 6 λt4=>nW t4 λv=>jT v 6 λt6=>lL b.1 t6.2.1 (oO 2 lY (oX lY [lN 0,lO] λc=>nW g_0 λw=>lA w λe=>lL c.1 e.2.1 (oS 10 [lP g_0,lN b.1,lN c.1] mJ λd=>oS 39 [.agg #[lN d.1,lN d.2.1]] lT λf=>jO #[lN f] 3 λg=>oY (hC #[30,30] 30 #[sv c.2.1,.slice (lF g) 1 1]) lS λh=>nZ [lN (wN c.1),sv h]) (pC 2 [lN c.1,sv c.2.1])) λx=>oO 4 lY (oX lY [lN 0,sv x.2.1] λa=>nW g_0 λi=>jT i 1 λj=>lL a.1 j.2.1 (nW g_0 λk=>lB k 6 λl=>nW g_0 λm=>lA m λn=>oS 33 [lP l,lN b.1,lN (lQ ((n.2.1:Int)+a.1))] lT λo=>jO #[lN (wN o)] 3 λp=>oY (hC #[30,30] 30 #[sv a.2.1,.slice (lF p) 1 1]) lS λq=>nZ [lN (wN a.1),sv q]) (pC 4 [lN a.1,sv a.2.1])) λr=>jO #[sv r.2.1] 30 λs=>oY (hC #[57,57] 57 #[sv b.2.1,.slice (lF s) 1 1]) lS λt=>nZ [lN (wN b.1),sv t]) (pC 0 [lN b.1,sv b.2.1])) λy=>oT (sv y.2.1)
theorem IA(g_0:nG):Ab hM f20 [(.pointer g_0)] =I8 g_0:=nU
noncomputable def NJ(d:nG)(a h:Nat)(e:nG)(b i:Nat):T:=cond (((a:Nat):Int) !=((b:Nat):Int)) (oT (.bool false)) (oO 0 lW (oX lW [lN 0,.bool false] λc=>lL c.1 a (pA lV (lK d a c.1 λC=>jR C c.1 7 λt5=>lK e b c.1 λD=>jR D c.1 7 λt7=>cond (t5 !=t7) (nZ [.bool true]) (lK d a c.1 λE=>jX E c.1 7 1 λF=>lK e b c.1 λj=>jX j c.1 7 1 λk=>cond (F !=k) (nZ [.bool true]) (lK d a c.1 λl=>jX l c.1 7 2 λm=>lK e b c.1 λn=>jX n c.1 7 2 λo=>cond (m !=o) (nZ [.bool true]) (lK d a c.1 λf=>jX f c.1 7 4 λp=>kQ (((f.add (eE c.1 *7)).add 4).add 1) λq=>lK e b c.1 λg=>jX g c.1 7 4 λr=>kQ (((g.add (eE c.1 *7)).add 4).add 1) λs=>cond (!((p==r) && ((q==s) && true))) (nZ [.bool true]) (lK d a c.1 λt=>kV t c.1 7 6 λu=>lK e b c.1 λv=>kV v c.1 7 6 λw=>cond (!(u==w)) (nZ [.bool true]) (lK d a c.1 λx=>jU x c.1 7 3 λy=>lK e b c.1 λz=>jU z c.1 7 3 λA=>oS 34 [sv y,sv A] lU λB=>nZ [.bool (!B)])))))) λG=>cond G.1 (oT (.bool false)) (nZ [lN (wN c.1),.bool c.2.1])) (pC 0 [lN c.1,.bool c.2.1])) λH=>oT (.bool true))
theorem LG(a:nG)(b c:Nat)(d:nG)(e f:Nat):Ab hM f13 [(.slice a b c),(.slice d e f)] =NJ a b c d e f:=nU
noncomputable def O9(p_0:Pl6):T:=jO #[sv p_0.1,sv p_0.2.1,sv p_0.2.2.1,sv p_0.2.2.2.1,sv p_0.2.2.2.2.1,sv p_0.2.2.2.2.2.1] 32 λr1=>L6 r1 λt2 t3 t4 t5 t6 t7=>oS 27 [aH t2 t3 t4 t5 t6 t7,lN 300,lN 9000] lR λt8=>cond (pY t8) (oT (lP none)) (L6 r1 λn b c d e f=>oS 28 [aH n b c d e f,lP t8,lN 60] lR λa=>cond (pY a) (oT (lP none)) (L6 r1 λg h i j k l=>jO #[sv g,sv h,sv i,sv j,sv k,sv l,lP t8,lP a] 48 λm=>oT (lP (lF m))))
theorem NK(p_0:Pl6):Ab hM f7 [(aG p_0)] =O9 p_0:=nU
noncomputable def NL(a:Int):T:=lM (a< 0) (oT (lN 0)) (lM (a>(1099511627776:Int)) (oT (lN 1099511627776)) (oT (lN a)))
theorem LH(a:Int):Ab hM f63 [(.int .i64 a)] =NL a:=nU
section
variable {φ:AD}{h:AH}{F:List Chk}
noncomputable def C4(a:Int):Option Int:=cond (decide (a< 0)) (some 0) (cond (decide (a>1099511627776)) (some 1099511627776) (some a))
theorem DK{a:Int}(b:St φ F h){r:Int}(hd:C4 a=some r):
 nX hM 63 [lN a] h (An (mN φ r F)):=by
 refine AT mixed func63 (LH ..)<|mP hd rfl (λhd=>?_) (λhd=>?_)
 ·exact AC ⟨φ,(0:Int),sb,rfl,iS hd,b⟩
 refine mP hd rfl (λhd=>?_) (λhd=>?_)
 ·exact AC ⟨φ,(1099511627776:Int),sb,rfl,iS hd,b⟩
 exact AC ⟨φ,a,sb,rfl,iS hd,b⟩
noncomputable def BO(a_0:List Aq)(b_1:List Aq):Option Bool:=
 cond ((a_0.length:Int) !=(b_1.length:Int))
 (some false)
 ((C6 (σ:=Unit) (β:=Bool) 0 (a_0.length:Int) () λa f=>
  (idx a_0 a).bind λb=>
  (idx b_1 a).bind λc=>
  cond (!((b.1==c.1) && ((b.2==c.2) && true)))
  (some (oM false))
  (some (oP ()))).bind λd=>match d with
  |.next g=>
   some true
  |.done e=>some e)
theorem KY{a_0:Slc}{c:List Aq}{b_1:Slc}{d:List Aq}(f:mE Au φ a_0 c)(i:mE Au φ b_1 d)(v:St φ F h){r:Bool}(hd:BO c d=some r):
 nX hM 111 [sv a_0,sv b_1] h (An (mM φ r F)):=by
 refine AT mixed func111 (KR ..) ?_;have e:a_0.2.1=oL c:=f.length;have k:b_1.2.1=oL d:=i.length;refine mP hd (by rw[e,k] <;>rfl) (λhd=>?_) (λhd=>?_)
 ·exact AC ⟨φ,false,sb,rfl,iS hd,v⟩
 have⟨z,l,hd⟩:=bS hd;refine BQ l (λm y A g=>∃ψ:AD,Sub φ ψ∧y.1=m∧()=g∧St ψ F A) rfl ⟨φ,sb,rfl,rfl,v⟩ ?_ ?_ ?_
 ·rintro _ B a0 _ _ ⟨j,C,rfl,rfl,b⟩ a D n o p;refine Ad (dT e n)<|QQ f a b λE a=>QQ i a b λG a=>mP a rfl (λa=>?_) (λa=>?_)
  ·obtain rfl:=iS a;obtain rfl:=p _ rfl;obtain rfl:=iS hd;exact Ak (Ah (AC ⟨j,false,sb,rfl,rfl,b⟩))
  obtain rfl:=iS a;exact lH rfl rfl ⟨j,sb,o,rfl,b⟩
 ·rintro _ B H _ ⟨q,I,rfl,rfl,s⟩ t u;subst u;refine AW (dF e t)<|AJ (lI rfl ⟨_,rfl,_,q,sb,rfl,rfl,s⟩)
 rintro J K ⟨_,rfl,_,w,L,_,rfl,x⟩;exact AC ⟨w,true,sb,rfl,iS hd,x⟩
noncomputable def DG(l_0:List Aq)(x_1:Aq):Option (List Aq):=(loop (σ:=Int) (β:=Int) 0 λa=>(cond (decide (a< (l_0.length:Int))) ((idx l_0 a).bind λd=>cond (decide (d.1<x_1.1)) (some true) ((idx l_0 a).bind λe=>cond (e.1==x_1.1) ((idx l_0 a).bind λf=>some (decide (f.2<x_1.2))) (some false))) (some false)).bind λm=>cond m (some (oP (bO .i64 (a+1)))) (some (oM a))).bind λc=>(cond (decide (c< (l_0.length:Int))) ((idx l_0 c).bind λb=>some ((b.1==x_1.1) && ((b.2==x_1.2) && true))) (some false)).bind λg=>cond g (some l_0) ((cut l_0 0 c).bind λh=>(cut l_0 c (l_0.length:Int)).bind λi=>(app ([]:List Aq) h).bind λj=>(app j ([(x_1.1,x_1.2)]:List Aq)).bind λk=>(app k i).bind λl=>some l)
theorem G5{l_0:Slc}{s:List Aq}{v:Int×Int×Unit}(e:mE Au φ l_0 s)(S:St φ F h){r:(List Aq)}(hd:DG s (v.1,v.2.1)=some r):
 nX hM 65 [sv l_0,.agg #[lN v.1,lN v.2.1]] h (An (mO φ Au r F)):=by
 refine AT mixed func65 (MJ ..) ?_;have w:l_0.2.1=oL s:=e.length;refine AU (vs:=[.int .i64 v.1,.int .i64 v.2.1]) S λr1 dl T=>?_;have⟨U,V,hd⟩:=bS hd;refine Af (λy A g=>∃ψ:AD,Sub φ ψ∧y.1=g∧St ψ (cW 116 r1 [.int .i64 v.1,.int .i64 v.2.1]::F) A) (g:=U) ?_ ?_
 ·refine Bx V (λy A g=>∃ψ:AD,Sub φ ψ∧y.1=g∧St ψ (cW 116 r1 [.int .i64 v.1,.int .i64 v.2.1]::F) A) rfl ⟨φ,sb,rfl,T⟩ ?_
  ·rintro z3 dm _ _ ⟨k,dn,rfl,d⟩ f W;have⟨X,c,f⟩:=bS f;refine AY (λy A g=>∃ψ:AD,Sub k ψ∧y.1=g∧St ψ (cW 116 r1 [.int .i64 v.1,.int .i64 v.2.1]::F) A) (g:=X) ?_ ?_
   ·refine mP c (by rw[w] <;>rfl) (λc=>?_) (λc=>?_)
    ·refine Ik W2 e c d λdp c=>AA d rfl<|mP c rfl (λc=>?_) (λc=>?_)
     ·exact lG rfl ⟨k,sb,iS c,d⟩
     refine Ik W2 e c d λds c=>AA d rfl<|mP c rfl (λc=>?_) (λc=>?_)
     ·refine ixS cV e c d λb9 c=>AA d rfl ?_;exact lG rfl ⟨k,sb,iS c,d⟩
     exact lG rfl ⟨k,sb,iS c,d⟩
    exact lG rfl ⟨k,sb,iS c,d⟩
   rintro z4 dx ⟨J,dy,rfl,K⟩;refine mP f rfl (λf=>?_) (λf=>?_)
   ·obtain rfl:=iS f;exact lH rfl rfl ⟨J,sb,rfl,K⟩
   obtain rfl:=iS f;obtain rfl:=W _ rfl;exact AJ (lI rfl ⟨J,sb,rfl,K⟩)
 rintro z2 e0 ⟨x,e1,rfl,m⟩;have⟨Y,i,hd⟩:=bS hd;refine AY (λy A g=>∃ψ:AD,Sub x ψ∧y.1=g∧St ψ (cW 116 r1 [.int .i64 v.1,.int .i64 v.2.1]::F) A) (g:=Y) ?_ ?_
 ·refine mP i (by rw[w] <;>rfl) (λi=>?_) (λi=>?_)
  ·refine QQ e i m λa8 i=>AA m rfl<|AA m rfl ?_;exact lG rfl ⟨x,sb,iS i,m⟩
  exact lG rfl ⟨x,sb,iS i,m⟩
 rintro Z e2 ⟨z,e3,rfl,o⟩;refine mP hd rfl (λhd=>?_) (λhd=>?_)
 ·exact AC ⟨z,l_0,s,sb,rfl,iS hd,e.up,o.tail⟩
 have⟨a0,bb,hd⟩:=bS hd;obtain⟨bd,u⟩:=(e.up (ψ:=z)).cut (sz:=2) bb rfl;refine Ai bd ?_;have E:=u.length;refine AA o rfl<|AA o rfl ?_;have⟨G,bf,hd⟩:=bS hd;obtain⟨L,p⟩:=(e.up (ψ:=z)).cut (sz:=2) bf rfl;rw[←w]at L p;refine Ai L ?_;have H:=p.length;refine DP ?_ ?_
 ·refine AU (vs:=[]) o λa5 e4 q=>AP (oG (b:=r1) (j:=0) q.at1 rfl)<|AP (oG (b:=r1) (j:=1) q.at1 rfl)<|DP ?_ ?_
  ·have⟨e5,bg,bi⟩:=u.heap q.sub;have bj:=pR (r:=Au) (l:=([]:List Aq)) (n:=0) q .nil rfl nQ;have⟨e6,bl,hd⟩:=bS hd;refine AV (ms:=a0) CE bj rfl bi bg E.symm bl ?_;intro f8 e7 I;refine AP (oG (b:=r1) (j:=0) I.at1 rfl)<|AP (oG (b:=r1) (j:=1) I.at1 rfl)<|AU (vs:=[.int .i64 v.1,.int .i64 v.2.1]) I λf9 e8 M=>?_;have⟨e9,bn,hd⟩:=bS hd;refine AV (ms:=([(v.1,v.2.1)]:List Aq)) CE M.tail rfl (oQ M) (.cons (a:=[_,_]) ⟨[_],_,rfl,rfl,rfl⟩ .nil) rfl bn ?_;intro g0 ea al;have⟨ed,bp,bq⟩:=p.heap al.sub;have⟨bs,bt,hd⟩:=bS hd;refine AV (ms:=G) CE al rfl bq bp H.symm bt ?_;intro B ee bx;have⟨bz,ef,c0,c1⟩:=oA (t:=B) bx;exact AC ⟨bz,B,bs,sb,rfl,iS hd,c0,c1.tail⟩
  ·refine AU (vs:=[.int .i64 v.1,.int .i64 v.2.1]) q λg1 eg ap=>?_;have⟨el,c2,c3⟩:=u.heap ap.sub;have c4:=pR (r:=Au) (l:=([]:List Aq)) (n:=0) ap.at1 .nil rfl nQ;have⟨em,c5,hd⟩:=bS hd;refine AV (ms:=a0) CE c4 rfl c3 c2 E.symm c5 ?_;intro g2 en N;have⟨eo,c6,hd⟩:=bS hd;refine AV (ms:=([(v.1,v.2.1)]:List Aq)) CE N.at1.tail rfl (oQ N.at1) (.cons (a:=[_,_]) ⟨[_],_,rfl,rfl,rfl⟩ .nil) rfl c6 ?_;intro g3 er O;have⟨es,c7,c8⟩:=p.heap O.sub;have⟨c9,ch,hd⟩:=bS hd;refine AV (ms:=G) CE O rfl c8 c7 H.symm ch ?_;intro C ev cl;have⟨cm,ew,cp,cs⟩:=oA (t:=C) cl;exact AC ⟨cm,C,c9,sb,rfl,iS hd,cp,cs.tail⟩
 ·refine AU (vs:=[.int .i64 v.1,.int .i64 v.2.1]) o λg4 ex cw=>AU (vs:=[]) cw λg5 ez P=>?_;have⟨f0,cx,d0⟩:=u.heap P.sub;have d1:=pR (r:=Au) (l:=([]:List Aq)) (n:=0) P .nil rfl nQ;have⟨f1,d2,hd⟩:=bS hd;refine AV (ms:=a0) CE d1 rfl d0 cx E.symm d2 ?_;intro g6 f2 Q;have⟨f3,d3,hd⟩:=bS hd;refine AV (ms:=([(v.1,v.2.1)]:List Aq)) CE Q.at1.tail rfl (oQ Q.at1) (.cons (a:=[_,_]) ⟨[_],_,rfl,rfl,rfl⟩ .nil) rfl d3 ?_;intro g7 f4 R;have⟨f5,d4,d5⟩:=p.heap R.sub;have⟨d6,d7,hd⟩:=bS hd;refine AV (ms:=G) CE R rfl d5 d4 H.symm d7 ?_;intro D f6 d8;have⟨d9,f7,dd,dk⟩:=oA (t:=D) d8;exact AC ⟨d9,D,d6,sb,rfl,iS hd,dd,dk.tail⟩
noncomputable def BY(p_0:As)(x_1:Aq):Option Int:=(idx p_0.2.2.1 x_1.1).bind λa=>cond (decide (x_1.2< (a.2.1.length:Int))) ((idx p_0.2.2.1 x_1.1).bind λb=>(idx b.2.1 x_1.2).bind λc=>some c) (some (-1:Int))
theorem Cu{p_0:Pl6}{d_p_0:As}{o:Int×Int×Unit}(b:G8 φ p_0 d_p_0)(p:St φ F h){r:Int}(hd:BY d_p_0 (o.1,o.2.1)=some r):
 nX hM 64 [aG p_0,.agg #[lN o.1,lN o.2.1]] h (An (mN φ r F)):=by
 refine AT mixed func64 (JY ..)<|D5 (t:=p_0) p λr1 i c=>AU (vs:=[.int .i64 o.1,.int .i64 o.2.1]) c λq j a=>AA a rfl<|AA a.at1 rfl<|AA a rfl<|ixR Gf b.k2 hd a λk l d hd=>?_;have e:=d.length;refine mP hd (by rw[e] <;>rfl) (λhd=>?_) (λhd=>?_)
 ·refine AA a.at1 rfl<|AA a rfl<|ixR Gf b.k2 hd a λm n f hd=>AA a rfl<|gx f hd a λg hd=>?_;exact AC ⟨φ,g,sb,rfl,iS hd,a.tail.tail⟩
 exact AC ⟨φ,(-1:Int),sb,rfl,iS hd,a.tail.tail⟩
noncomputable def BU(p_0:As)(a:List Aq):Option (List Aq):=(app ([]:List Aq) a).bind λt3=>(loop (σ:=(Bool×List Aq)) (β:=List Aq) (true,t3) λi=>cond i.1 ((loop (σ:=(Int×Bool×List Aq)) (β:=(Bool×List Aq)) (0,false,i.2) λd=>(cond (decide (d.1< (d.2.2.length:Int))) (some (!d.2.1)) (some false)).bind λn=>cond n ((idx d.2.2 d.1).bind λe=>(BY p_0 (e.1,e.2)).bind λj=>(forS (σ:=(Bool×List Aq)) 0 (p_0.2.2.1.length:Int) (d.2.1,d.2.2) λb c=>(idx p_0.2.2.1 b).bind λk=>(cond (k.1==j) ((DG c.2 (b,0)).bind λf=>(cond c.1 (some true) (some (decide ((f.length:Int) >(c.2.length:Int))))).bind λl=>some (l,f)) (some (c.1,c.2))).bind λg=>some (g.1,g.2)).bind λh=>some (oP ((bO .i64 (d.1+1)),h.1,h.2))) (some (oM (d.2.1,d.2.2)))).bind λm=>some (oP (m.1,m.2))) (some (oM i.2))).bind λo=>some o
theorem I9{p_0:Pl6}{d_p_0:As}{v:Slc}{j:List Aq}(p:G8 φ p_0 d_p_0)(x:mE Au φ v j)(U:St φ F h){r:(List Aq)}(hd:BU d_p_0 j=some r):
 nX hM 112 [aG p_0,sv v] h (An (mO φ Au r F)):=by
 refine AT mixed func112 (I2 ..) ?_;have a0:p_0.2.2.1.2.1=oL d_p_0.2.2.1:=p.k2.length;have V:v.2.1=oL j:=x.length;refine D5 (t:=p_0) U λr1 dx W=>AU (vs:=[]) W λr2 dy D=>?_;have⟨e0,X,Y⟩:=x.heap D.sub;have Z:=pR (r:=Au) (l:=([]:List Aq)) (n:=0) D .nil rfl nQ;have⟨ba,bb,hd⟩:=bS hd;refine AV (ms:=j) CE Z rfl Y X V.symm bb ?_;intro t3 e1 bd;have⟨q,e2,bf,bg⟩:=oA (t:=t3) bd;have⟨bi,bj,hd⟩:=bS hd;refine Af (λy z g=>∃ψ:AD,∃E:List Aq,Sub q ψ∧E=g∧mE Au ψ y.2.1 E∧St ψ (Wq2 r1 p_0::F) z) (g:=bi) ?_ ?_
 ·refine Bx bj (λy z g=>∃ψ:AD,∃G:List Aq,Sub q ψ∧(y.1,G)=g∧mE Au ψ y.2.1 G∧St ψ (Wq2 r1 p_0::F) z) rfl ⟨q,ba,sb,rfl,bf,bg⟩ ?_
  ·rintro z5 e3 _ _ ⟨k,H,e4,rfl,I,J⟩ c bl;refine mP c rfl (λc=>?_) (λc=>?_)
   ·have⟨bn,bp,c⟩:=bS c;refine Af (λy z g=>∃ψ:AD,∃K:List Aq,Sub k ψ∧(y.2.1,K)=g∧mE Au ψ y.2.2.1 K∧St ψ (Wq2 r1 p_0::F) z) (g:=bn) ?_ ?_
    ·refine Bx bp (λy z g=>∃ψ:AD,∃L:List Aq,Sub k ψ∧(y.1,y.2.1,L)=g∧mE Au ψ y.2.2.1 L∧St ψ (Wq2 r1 p_0::F) z) rfl ⟨k,H,sb,rfl,I,J⟩ ?_
     ·rintro z7 e5 _ _ ⟨s,M,e6,rfl,m,N⟩ a bq;have bs:=m.length;have⟨bt,d,a⟩:=bS a;refine AY (λy z g=>∃ψ:AD,Sub s ψ∧y.1=g∧St ψ (Wq2 r1 p_0::F) z) (g:=bt) ?_ ?_
      ·refine mP d (by rw[bs] <;>rfl) (λd=>?_) (λd=>?_)
       ·exact lG rfl ⟨s,sb,iS d,N⟩
       exact lG rfl ⟨s,sb,iS d,N⟩
      rintro z8 e7 ⟨bx,e8,rfl,o⟩;refine mP a rfl (λa=>?_) (λa=>?_)
      ·refine BS (t:=p_0) o<|QQ m a o λal a=>?_;have⟨e9,bz,a⟩:=bS a;refine AK (Cu (o:=(al.1,al.2,())) p.up o bz) ?_;rintro _ ea ⟨ap,B,ed,rfl,rfl,c0⟩;refine⟨B,rfl,?_⟩;have⟨ee,c1,a⟩:=bS a;refine BD c1 (λc2 y z g=>∃ψ:AD,∃O:List Aq,Sub ap ψ∧y.1=c2∧(y.2.1,O)=g∧mE Au ψ y.2.2.1 O∧St ψ (Wq2 r1 p_0::F) z) rfl ⟨ap,M,sb,rfl,rfl,m.up,c0⟩ ?_ ?_ ?_
       ·rintro _ A ef _ _ ⟨P,c3,eg,rfl,rfl,u,e⟩ f el c4 c5;have c6:=u.length;refine AA e rfl<|Ad (dT a0 c4)<|AA e rfl<|Ik Jk p.k2 f e λem f=>?_;have⟨c7,b,f⟩:=bS f;refine AY (λy z g=>∃ψ:AD,∃Q:List Aq,Sub P ψ∧(y.1,Q)=g∧mE Au ψ y.2.1 Q∧St ψ (Wq2 r1 p_0::F) z) (g:=c7) ?_ ?_
        ·refine mP b rfl (λb=>?_) (λb=>?_)
         ·have⟨en,c8,b⟩:=bS b;refine AK (G5 (v:=(A.1,(0:Int),())) u e c8) ?_;rintro _ eo ⟨w,C,c9,er,rfl,rfl,R,S⟩;refine⟨C,rfl,?_⟩;have ch:=R.length;have⟨cl,i,b⟩:=bS b;refine AY (λy z g=>∃ψ:AD,Sub w ψ∧y.1=g∧St ψ (Wq2 r1 p_0::F) z) (g:=cl) ?_ ?_
          ·refine mP i rfl (λi=>?_) (λi=>?_)
           ·exact lG rfl ⟨w,sb,iS i,S⟩
           obtain rfl:=iS i;exact lG rfl ⟨w,sb,(by rw[ch,c6]),S⟩
          rintro f7 es ⟨cm,ev,rfl,cp⟩;exact lG rfl ⟨cm,c9,sb,iS b,R.up,cp⟩
         exact lG rfl ⟨P,c3,sb,iS b,u,e⟩
        rintro f8 ew ⟨cs,cw,ex,rfl,cx,d0⟩;obtain rfl:=iS f;exact lH rfl rfl ⟨cs,cw,sb,c5,rfl,cx,d0⟩
       ·rintro _ A ez ⟨d1,d2,f0,rfl,rfl,d3,T⟩ d4;refine AA T rfl<|AW (dF a0 d4)<|AJ (lI rfl ⟨_,d1,d2,sb,rfl,rfl,d3,T⟩)
       rintro f9 f1 ⟨_,d5,d6,f2,_,rfl,d7,d8⟩;obtain rfl:=iS a;exact lH rfl rfl ⟨d5,d6,sb,rfl,d7,d8⟩
      obtain rfl:=iS a;obtain rfl:=bq _ rfl;exact AJ (lI rfl ⟨bx,M,sb,rfl,m.up,o⟩)
    rintro z6 f3 ⟨d9,dd,f4,rfl,dk,dl⟩;obtain rfl:=iS c;exact lH rfl rfl ⟨d9,dd,sb,rfl,dk,dl⟩
   obtain rfl:=iS c;obtain rfl:=bl _ rfl;exact AJ (lI rfl ⟨k,H,sb,rfl,I,J⟩)
 rintro z4 f5 ⟨dm,dn,f6,rfl,dp,ds⟩;exact AC ⟨dm,z4.2.1,dn,sb,rfl,iS hd,dp,ds.tail⟩
noncomputable def BM(a_0:QR)(a:Int)(b:Int):Option Int:=
 (cond (decide (a< 0))
 (some true)
 (some (decide (a≥ (a_0.2.2.2.2.2.2.2.2.1.length:Int))))).bind λk=>
 cond k
 (some (-1:Int))
 ((loop (σ:=Int) (β:=AX Unit Int) 0 λd=>
  (idx a_0.2.2.2.2.2.2.2.2.1 a).bind λe=>
  cond (decide (d< (e.length:Int)))
  ((idx a_0.2.2.2.2.2.2.2.2.1 a).bind λf=>
   (idx f d).bind λg=>
   cond (g.1==b)
   ((idx a_0.2.2.2.2.2.2.2.2.1 a).bind λh=>
    (idx h d).bind λi=>
    some (oM (oM i.2)))
   (some (oP (bO .i64 (d+1)))))
  (some (oM (oP ())))).bind λc=>match c with
  |.next l=>
   some (-1:Int)
  |.done j=>some j)
theorem Cj{a_0:nG}{i:QR}{v:Int}{A:Int}(d:Pt QS φ a_0 i)(C:St φ F h){r:Int}(hd:BM i v A=some r):
 nX hM 33 [lP a_0,lN v,lN A] h (An (mN φ r F)):=by
 refine AT mixed func33 (I4 ..) ?_;have⟨l,c,hd⟩:=bS hd;refine AY (λy B g=>∃ψ:AD,Sub φ ψ∧y.1=g∧St ψ F B) (g:=l) ?_ ?_
 ·refine mP c rfl (λc=>?_) (λc=>?_)
  ·exact lG rfl ⟨φ,sb,iS c,C⟩
  refine pfR Te d C λm n=>?_;have o:=n.length;obtain rfl:=iS c;exact lG rfl ⟨φ,sb,(by rw[o]),C⟩
 rintro H I ⟨e,J,rfl,j⟩;refine mP hd rfl (λhd=>?_) (λhd=>?_)
 ·exact AC ⟨e,(-1:Int),sb,rfl,iS hd,j⟩
 have⟨p,q,hd⟩:=bS hd;refine Af (λy B g=>∃ψ:AD,Sub e ψ∧oP ()=g∧St ψ F B) (g:=p) ?_ ?_
 ·refine Bx q (λy B g=>∃ψ:AD,Sub e ψ∧y.1=g∧St ψ F B) rfl ⟨e,sb,rfl,j⟩ ?_
  ·rintro K L _ _ ⟨f,M,rfl,b⟩ a k;refine pfR Te d b λN s=>gxS s a b λO P t a=>?_;have u:=t.length;refine mP a (by rw[u] <;>rfl) (λa=>?_) (λa=>?_)
   ·refine pfR Te d b λal w=>gxS w a b λap Q x a=>Ik cY x a b λR a=>mP a rfl (λa=>?_) (λa=>?_)
    ·refine pfR Te d b λS z=>gxS z a b λT U a0 a=>ixS cZ a0 a b λD a=>?_;obtain rfl:=iS a;obtain rfl:=k _ rfl;obtain rfl:=iS hd;exact Ak (Ah (AC ⟨f,D.2,sb,rfl,rfl,b⟩))
    obtain rfl:=iS a;exact lH rfl rfl ⟨f,sb,rfl,b⟩
   obtain rfl:=iS a;obtain rfl:=k _ rfl;exact AJ (lI rfl ⟨f,sb,rfl,b⟩)
 rintro V W ⟨E,X,rfl,G⟩;exact AC ⟨E,(-1:Int),sb,rfl,iS hd,G⟩
end
abbrev RW:Type:=(List nI×List nI×List Ap×nH×nH×List nI×List (List Aq)×List (List Aq)×List Slc×nH×nH×Int)
abbrev rW:Rep RW:=(pZ (pN (oH pO)) (pZ (pN (oH pO)) (pZ (pN (oH BL)) (pZ (pN (oH (oE .i64))) (pZ (pN (oH (oE .i64))) (pZ (pN (oH pO)) (pZ (rP 106 (oH Au)) (pZ (rP 106 (oH Au)) (pZ (rP 110 qN) (pZ (rP 3 (oE .i64)) (pZ (rP 3 (oE .i64)) (pN (oE .i64)))))))))))))
theorem Rx:Fy hM 41 41 106 1:=⟨rL,.inl rL,⟨t106,nU,rfl,⟨_,rfl,rfl⟩,nQ,nQ⟩,nQ⟩
theorem Wh:Fy hM 42 42 110 1:=⟨rM,.inl rM,⟨t110,nU,rfl,⟨_,rfl,rfl⟩,nQ,nQ⟩,nQ⟩
noncomputable def CZ(a_0:RW)(c:List Aq)(a:Int)(b:Int):Option (Int×RW):=
 (loop (σ:=Int) (β:=AX Unit (Int×RW)) 0 λi=>
  cond (decide (i< (a_0.2.2.2.2.2.2.1.length:Int)))
  ((idx a_0.2.2.2.2.2.2.1 i).bind λd=>
   (BO d c).bind λn=>
   cond n
   (some (oM (oM (i,(a_0.1,a_0.2.1,a_0.2.2.1,a_0.2.2.2.1,a_0.2.2.2.2.1,a_0.2.2.2.2.2.1,a_0.2.2.2.2.2.2.1,a_0.2.2.2.2.2.2.2.1,a_0.2.2.2.2.2.2.2.2.1,a_0.2.2.2.2.2.2.2.2.2.1,a_0.2.2.2.2.2.2.2.2.2.2.1,a_0.2.2.2.2.2.2.2.2.2.2.2)))))
   (some (oP (bO .i64 (i+1)))))
  (some (oM (oP ())))).bind λe=>match e with
 |.next o=>
  (BU (a_0.1,a_0.2.1,a_0.2.2.1,a_0.2.2.2.1,a_0.2.2.2.2.1,a_0.2.2.2.2.2.1) c).bind λf=>
  (app a_0.2.2.2.2.2.2.1 ([c]:List (List Aq))).bind λg=>
  (app a_0.2.2.2.2.2.2.2.1 ([f]:List (List Aq))).bind λj=>
  (app a_0.2.2.2.2.2.2.2.2.1 ([mQ]:List Slc)).bind λk=>
  (app a_0.2.2.2.2.2.2.2.2.2.1 ([a]:nH)).bind λl=>
  (app a_0.2.2.2.2.2.2.2.2.2.2.1 ([b]:nH)).bind λm=>
  some ((bO .i64 ((g.length:Int) - 1)),(a_0.1,a_0.2.1,a_0.2.2.1,a_0.2.2.2.1,a_0.2.2.2.2.1,a_0.2.2.2.2.2.1,g,j,k,l,m,(bO .i64 ((a_0.2.2.2.2.2.2.2.2.2.2.2)+(f.length:Int)))))
 |.done h=>some h
theorem Eb{φ:AD}{h:AH}{F:List Chk}{a_0:nG}{b:RW}{C:Slc}{w:List Aq}{A:Int}{B:Int}(z:mE Au φ C w)(s0:St φ (cO 44 rW a_0 b::F) h){r:(Int×RW)}(hd:CZ b w A B=some r):
 nX hM 62 [lP a_0,.slice C.1 C.2.1 C.2.2,lN A,lN B] h (An λv h'=>∃ψ:AD,∃y:Int,∃bd:RW,Sub φ ψ∧v=lT.val y∧(y,bd)=r∧St ψ (cO 44 rW a_0 bd::F) h'):=by
 refine AT mixed func62 (HU ..) ?_;have lu:C.2.1=oL w:=z.length;have⟨dk,dl,hd⟩:=bS hd;refine Af (λy M g=>∃ψ:AD,Sub φ ψ∧oP ()=g∧St ψ (cO 44 rW a_0 b::F) M) (g:=dk) ?_ ?_
 ·refine Bx dl (λy M g=>∃ψ:AD,Sub φ ψ∧y.1=g∧St ψ (cO 44 rW a_0 b::F) M) rfl ⟨φ,sb,rfl,s0⟩ ?_
  ·rintro z2 lv _ _ ⟨N,lw,rfl,dm⟩ c bf;obtain⟨t,lx,bg,ly,dn⟩:=dm.open;obtain rfl:a_0=some ⟨t,0,none⟩:=by simpa using bg
   clear bg;have dp:=dn.at1;obtain⟨lz,m0,rfl,m1,ds⟩:=dp.pair;obtain⟨⟨d,e0,a0⟩,dy⟩:=ds.ro;subst e0;have m2:=a0.length;obtain⟨m3,m4,rfl,m5,e1⟩:=dy.pair;obtain⟨⟨e,e4,E⟩,e3⟩:=e1.ro;subst e4;have m6:=E.length;obtain⟨m7,m8,rfl,m9,e5⟩:=e3.pair;obtain⟨⟨f,e8,G⟩,e7⟩:=e5.ro;subst e8;have ma:=G.length;obtain⟨mb,mc,rfl,md,e9⟩:=e7.pair;obtain⟨⟨i,ee,H⟩,ed⟩:=e9.ro;subst ee;have me:=H.length;obtain⟨mf,mg,rfl,mh,ef⟩:=ed.pair;obtain⟨⟨j,em,I⟩,el⟩:=ef.ro;subst em;have mi:=I.length;obtain⟨mj,mk,rfl,ml,en⟩:=el.pair;obtain⟨⟨k,es,J⟩,er⟩:=en.ro;subst es;have mm:=J.length;obtain⟨mn,mo,rfl,mp,O⟩:=er.pair;obtain⟨bi,ev⟩:=O.rowCs;subst ev;have ew:=O.rowLen;have ex:=O.at1;obtain⟨mq,mr,rfl,mu,P⟩:=ex.pair;obtain⟨bj,ez⟩:=P.rowCs;subst ez;have mv:=P.rowLen;have f0:=P.at1;obtain⟨mw,mx,rfl,my,al⟩:=f0.pair;obtain⟨bl,f1⟩:=al.rowCs;subst f1;have mz:=al.rowLen;have f2:=al.at1;obtain⟨n0,n1,rfl,n2,ap⟩:=f2.pair;obtain⟨bn,f3⟩:=ap.rowCs;subst f3;have n3:=ap.rowLen;have f4:=ap.at1;obtain⟨n4,n5,rfl,n6,Q⟩:=f4.pair;obtain⟨bp,f5⟩:=Q.rowCs;subst f5;have n7:=Q.rowLen;have f6:=Q.at1;obtain⟨f7,f8⟩:=f6.ro;subst f7;have u:St N (cR 3 (oE .i64) bp b.2.2.2.2.2.2.2.2.2.2.1::cR 3 (oE .i64) bn b.2.2.2.2.2.2.2.2.2.1::cR 110 qN bl b.2.2.2.2.2.2.2.2.1::cR 106 (oH Au) bj b.2.2.2.2.2.2.2.1::cR 106 (oH Au) bi b.2.2.2.2.2.2.1::cW 44 t [sv d,sv e,sv f,sv i,sv j,sv k,sv bi,sv bj,sv bl,sv bn,sv bp,.int .i64 b.2.2.2.2.2.2.2.2.2.2.2]::F) _:=f8;refine AI _ rfl<|AA u.at5 rfl<|mP c (by rw[ew] <;>rfl) (λc=>?_) (λc=>?_)
   ·refine AI _ rfl<|AA u.at5 rfl ?_;have⟨n8,f9,c⟩:=bS c;obtain⟨n9,na,fa,fd,fl,fn⟩:=(u.at4).get f9;refine AI _ fa (Ai fd ?_);obtain⟨fo,rfl,bq⟩:=fl;have nb:=bq.length;refine AF (fn 0 _ rfl) rfl ?_;have⟨nc,fr,c⟩:=bS c;refine AK (KY bq z.up u fr) ?_;rintro _ nd ⟨K,t9,nf,rfl,rfl,bs⟩;refine⟨t9,rfl,mP c rfl (λc=>?_) (λc=>?_)⟩
    ·have fs:=bs.at4;have fv:=fs.at4;have fz:=fv.at4;have g0:=fz.at4;have g1:=g0.at4;have g2:=oZ (r:=(oE .i64)) (cs:=[.int .i64 b.2.2.2.2.2.2.2.2.2.2.2]) (x:=(b.2.2.2.2.2.2.2.2.2.2.2)) g1 rfl;have g3:=g2.at1;have g4:=oC g3;have g5:=g4.at1;have g6:=oC g5;have g7:=g6.at1;have g8:=oC g7;have g9:=g8.at1;have gc:=oC g9;have gd:=gc.at1;have gf:=oC gd;have gg:=oZ (r:=(oH pO)) (cs:=[.slice k.1 k.2.1 k.2.2]) (x:=b.2.2.2.2.2.1) gf ⟨k,rfl,J.up⟩;have gi:=oC gg;have gj:=oZ (r:=(oH (oE .i64))) (cs:=[.slice j.1 j.2.1 j.2.2]) (x:=b.2.2.2.2.1) gi ⟨j,rfl,I.up⟩;have gk:=oC gj;have gl:=oZ (r:=(oH (oE .i64))) (cs:=[.slice i.1 i.2.1 i.2.2]) (x:=b.2.2.2.1) gk ⟨i,rfl,H.up⟩;have gn:=oC gl;have go:=oZ (r:=(oH BL)) (cs:=[.slice f.1 f.2.1 f.2.2]) (x:=b.2.2.1) gn ⟨f,rfl,G.up⟩;have gp:=oC go;have gr:=oZ (r:=(oH pO)) (cs:=[.slice e.1 e.2.1 e.2.2]) (x:=b.2.1) gp ⟨e,rfl,E.up⟩;have gs:=oC gr;have gv:=oZ (r:=(oH pO)) (cs:=[.slice d.1 d.2.1 d.2.2]) (x:=b.1) gs ⟨d,rfl,a0.up⟩;have gw:=oC gv;have gx:St K (cO 44 rW (lF t) (b.1,b.2.1,b.2.2.1,b.2.2.2.1,b.2.2.2.2.1,b.2.2.2.2.2.1,b.2.2.2.2.2.2.1,b.2.2.2.2.2.2.2.1,b.2.2.2.2.2.2.2.2.1,b.2.2.2.2.2.2.2.2.2.1,b.2.2.2.2.2.2.2.2.2.2.1,b.2.2.2.2.2.2.2.2.2.2.2)::F) _:=rR gw.at1;obtain rfl:=iS c;obtain rfl:=bf _ rfl;obtain rfl:=iS hd;exact Ak (Ah (AC ⟨K,z2.1,(b.1,b.2.1,b.2.2.1,b.2.2.2.1,b.2.2.2.2.1,b.2.2.2.2.2.1,b.2.2.2.2.2.2.1,b.2.2.2.2.2.2.2.1,b.2.2.2.2.2.2.2.2.1,b.2.2.2.2.2.2.2.2.2.1,b.2.2.2.2.2.2.2.2.2.2.1,b.2.2.2.2.2.2.2.2.2.2.2),sb,rfl,rfl,gx⟩))
    have h0:=bs.at4;have h1:=h0.at4;have h2:=h1.at4;have h3:=h2.at4;have h4:=h3.at4;have h5:=oZ (r:=(oE .i64)) (cs:=[.int .i64 b.2.2.2.2.2.2.2.2.2.2.2]) (x:=(b.2.2.2.2.2.2.2.2.2.2.2)) h4 rfl;have h6:=h5.at1;have h7:=oC h6;have h8:=h7.at1;have h9:=oC h8;have hb:=h9.at1;have hc:=oC hb;have he:=hc.at1;have hf:=oC he;have hg:=hf.at1;have hh:=oC hg;have hi:=oZ (r:=(oH pO)) (cs:=[.slice k.1 k.2.1 k.2.2]) (x:=b.2.2.2.2.2.1) hh ⟨k,rfl,J.up⟩;have hj:=oC hi;have hk:=oZ (r:=(oH (oE .i64))) (cs:=[.slice j.1 j.2.1 j.2.2]) (x:=b.2.2.2.2.1) hj ⟨j,rfl,I.up⟩;have hl:=oC hk;have hm:=oZ (r:=(oH (oE .i64))) (cs:=[.slice i.1 i.2.1 i.2.2]) (x:=b.2.2.2.1) hl ⟨i,rfl,H.up⟩;have hn:=oC hm;have ho:=oZ (r:=(oH BL)) (cs:=[.slice f.1 f.2.1 f.2.2]) (x:=b.2.2.1) hn ⟨f,rfl,G.up⟩;have hp:=oC ho;have hq:=oZ (r:=(oH pO)) (cs:=[.slice e.1 e.2.1 e.2.2]) (x:=b.2.1) hp ⟨e,rfl,E.up⟩;have hr:=oC hq;have hs:=oZ (r:=(oH pO)) (cs:=[.slice d.1 d.2.1 d.2.2]) (x:=b.1) hr ⟨d,rfl,a0.up⟩;have ht:=oC hs;have hu:St K (cO 44 rW (lF t) (b.1,b.2.1,b.2.2.1,b.2.2.2.1,b.2.2.2.2.1,b.2.2.2.2.2.1,b.2.2.2.2.2.2.1,b.2.2.2.2.2.2.2.1,b.2.2.2.2.2.2.2.2.1,b.2.2.2.2.2.2.2.2.2.1,b.2.2.2.2.2.2.2.2.2.2.1,b.2.2.2.2.2.2.2.2.2.2.2)::F) _:=rR ht.at1;obtain rfl:=iS c;exact lH rfl rfl ⟨K,sb,rfl,hu⟩
   have hv:=u.at4;have hw:=hv.at4;have hx:=hw.at4;have hy:=hx.at4;have hz:=hy.at4;have i0:=oZ (r:=(oE .i64)) (cs:=[.int .i64 b.2.2.2.2.2.2.2.2.2.2.2]) (x:=(b.2.2.2.2.2.2.2.2.2.2.2)) hz rfl;have i1:=i0.at1;have i2:=oC i1;have i3:=i2.at1;have i4:=oC i3;have i5:=i4.at1;have i6:=oC i5;have i7:=i6.at1;have i8:=oC i7;have i9:=i8.at1;have ih:=oC i9;have ir:=oZ (r:=(oH pO)) (cs:=[.slice k.1 k.2.1 k.2.2]) (x:=b.2.2.2.2.2.1) ih ⟨k,rfl,J⟩;have it:=oC ir;have ix:=oZ (r:=(oH (oE .i64))) (cs:=[.slice j.1 j.2.1 j.2.2]) (x:=b.2.2.2.2.1) it ⟨j,rfl,I⟩;have j0:=oC ix;have j1:=oZ (r:=(oH (oE .i64))) (cs:=[.slice i.1 i.2.1 i.2.2]) (x:=b.2.2.2.1) j0 ⟨i,rfl,H⟩;have j2:=oC j1;have j3:=oZ (r:=(oH BL)) (cs:=[.slice f.1 f.2.1 f.2.2]) (x:=b.2.2.1) j2 ⟨f,rfl,G⟩;have j4:=oC j3;have j5:=oZ (r:=(oH pO)) (cs:=[.slice e.1 e.2.1 e.2.2]) (x:=b.2.1) j4 ⟨e,rfl,E⟩;have j6:=oC j5;have j7:=oZ (r:=(oH pO)) (cs:=[.slice d.1 d.2.1 d.2.2]) (x:=b.1) j6 ⟨d,rfl,a0⟩;have j8:=oC j7;have j9:St N (cO 44 rW (lF t) (b.1,b.2.1,b.2.2.1,b.2.2.2.1,b.2.2.2.2.1,b.2.2.2.2.2.1,b.2.2.2.2.2.2.1,b.2.2.2.2.2.2.2.1,b.2.2.2.2.2.2.2.2.1,b.2.2.2.2.2.2.2.2.2.1,b.2.2.2.2.2.2.2.2.2.2.1,b.2.2.2.2.2.2.2.2.2.2.2)::F) _:=rR j8.at1;obtain rfl:=iS c;obtain rfl:=bf _ rfl;exact AJ (lI rfl ⟨N,sb,rfl,j9⟩)
 rintro z1 ng ⟨ja,nh,rfl,jb⟩;obtain⟨R,ni,bt,nj,jc⟩:=jb.open;obtain rfl:a_0=some ⟨R,0,none⟩:=by simpa using bt
 clear bt;have jd:=jc.at1;obtain⟨nk,nl,rfl,nm,je⟩:=jd.pair;obtain⟨⟨m,jh,S⟩,jg⟩:=je.ro;subst jh;have nn:=S.length;obtain⟨np,nq,rfl,nr,ji⟩:=jg.pair;obtain⟨⟨n,jl,T⟩,jk⟩:=ji.ro;subst jl;have ns:=T.length;obtain⟨nt,nu,rfl,nv,jm⟩:=jk.pair;obtain⟨⟨o,jp,U⟩,jo⟩:=jm.ro;subst jp;have nw:=U.length;obtain⟨nx,ny,rfl,nz,jq⟩:=jo.pair;obtain⟨⟨p,jt,V⟩,js⟩:=jq.ro;subst jt;have o0:=V.length;obtain⟨o1,o2,rfl,o3,ju⟩:=js.pair;obtain⟨⟨q,jx,W⟩,jw⟩:=ju.ro;subst jx;have o4:=W.length;obtain⟨o5,o6,rfl,o7,jy⟩:=jw.pair;obtain⟨⟨s,k1,X⟩,k0⟩:=jy.ro;subst k1;have o8:=X.length;obtain⟨o9,oa,rfl,ob,Y⟩:=k0.pair;obtain⟨bx,k2⟩:=Y.rowCs;subst k2;have oc:=Y.rowLen;have k3:=Y.at1;obtain⟨od,oe,rfl,og,Z⟩:=k3.pair;obtain⟨bz,k4⟩:=Z.rowCs;subst k4;have oh:=Z.rowLen;have k5:=Z.at1;obtain⟨oi,oj,rfl,ok,b9⟩:=k5.pair;obtain⟨c0,k6⟩:=b9.rowCs;subst k6;have ol:=b9.rowLen;have k7:=b9.at1;obtain⟨om,on,rfl,oo,ba⟩:=k7.pair;obtain⟨c1,k8⟩:=ba.rowCs;subst k8;have op:=ba.rowLen;have k9:=ba.at1;obtain⟨oq,os,rfl,ot,bb⟩:=k9.pair;obtain⟨c2,ka⟩:=bb.rowCs;subst ka;have ou:=bb.rowLen;have kb:=bb.at1;obtain⟨kc,kd⟩:=kb.ro;subst kc;have l:St ja (cR 3 (oE .i64) c2 b.2.2.2.2.2.2.2.2.2.2.1::cR 3 (oE .i64) c1 b.2.2.2.2.2.2.2.2.2.1::cR 110 qN c0 b.2.2.2.2.2.2.2.2.1::cR 106 (oH Au) bz b.2.2.2.2.2.2.2.1::cR 106 (oH Au) bx b.2.2.2.2.2.2.1::cW 44 R [sv m,sv n,sv o,sv p,sv q,sv s,sv bx,sv bz,sv c0,sv c1,sv c2,.int .i64 b.2.2.2.2.2.2.2.2.2.2.2]::F) _:=kd;refine AI _ rfl<|AA l.at5 rfl<|AA l.at5 rfl<|AA l.at5 rfl<|AA l.at5 rfl<|AA l.at5 rfl<|AA l.at5 rfl ?_;have⟨ov,ke,hd⟩:=bS hd;refine AK (I9 (p_0:=(m,n,o,p,q,s,())) (d_p_0:=(b.1,b.2.1,b.2.2.1,b.2.2.2.1,b.2.2.2.2.1,b.2.2.2.2.2.1)) ⟨S,T,U,V,W,X⟩ z.up l ke) ?_;rintro _ ow ⟨c3,D,L,ox,rfl,rfl,c4,c5⟩;refine⟨D,rfl,?_⟩;have kf:=c4.length;refine AI _ rfl<|AA c5.at5 rfl<|AU (vs:=[sv C]) c5 λe6 oy c6=>?_;have kg:=oQ c6;have kh:=c6.tail;have ki:=kh.at4;have⟨c7,kj,hd⟩:=bS hd;refine AV (ms:=([w]:List (List Aq))) Rx ki rfl kg (.cons (a:=[_]) ⟨C,rfl,z.up⟩ .nil) rfl kj ?_;intro e2 oz c8;have kk:=c8.rowLen;refine AI _ rfl<|AQ c8.at5 rfl rfl λp0 c9=>AI _ rfl<|AA c9 rfl<|AU (vs:=[sv D]) c9 λq0 p1 ch=>?_;have kl:=oQ ch;have km:=ch.tail;have kn:=km.at5;have⟨cl,ko,hd⟩:=bS hd;refine AV (ms:=([L]:List (List Aq))) Rx kn rfl kl (.cons (a:=[_]) ⟨D,rfl,c4⟩ .nil) rfl ko ?_;intro q1 p2 cm;have p3:=cm.rowLen;refine AI _ rfl<|AQ cm.at1 rfl rfl λp4 cp=>AI _ rfl<|AA cp rfl<|AU (vs:=[.slice none 0 0]) cp λq2 p5 cw=>?_;have kp:=oQ cw;have kq:=cw.tail;have kr:=kq.at5;have⟨cx,ks,hd⟩:=bS hd;refine AV (ms:=([mQ]:List Slc)) Wh kr rfl kp (.cons (a:=[_]) rfl .nil) rfl ks ?_;intro q3 p6 d0;have p7:=d0.rowLen;refine AI _ rfl<|AQ d0.at1 rfl rfl λp8 d1=>AI _ rfl<|AA d1 rfl<|AU (vs:=[.int .i64 A]) d1 λq4 p9 d2=>?_;have kt:=oQ d2;have ku:=d2.tail;have kv:=ku.at5;have⟨d3,kw,hd⟩:=bS hd;refine AV (ms:=([A]:nH)) BR kv rfl kt (.cons (a:=[_]) rfl .nil) rfl kw ?_;intro q5 pa d4;have pb:=d4.rowLen;refine AI _ rfl<|AQ d4.at1 rfl rfl λpc d5=>AI _ rfl<|AA d5 rfl<|AU (vs:=[.int .i64 B]) d5 λq6 pd d6=>?_;have kx:=oQ d6;have ky:=d6.tail;have kz:=ky.at5;have⟨d7,l0,hd⟩:=bS hd;refine AV (ms:=([B]:nH)) BR kz rfl kx (.cons (a:=[_]) rfl .nil) rfl l0 ?_;intro q7 pe d8;have pf:=d8.rowLen;refine AI _ rfl<|AQ d8.at1 rfl rfl λpg d9=>AI _ rfl<|AA d9 rfl<|AI _ rfl<|AQ d9 rfl rfl λph dd=>AI _ rfl<|AA dd rfl ?_;have l1:=dd.at5;have l2:=l1.at5;have l3:=l2.at5;have l4:=l3.at5;have l5:=l4.at5;have l6:=oZ (r:=(oE .i64)) (cs:=[.int .i64 (bO .i64 ((b.2.2.2.2.2.2.2.2.2.2.2)+(D.2.1:Int)))]) (x:=(bO .i64 ((b.2.2.2.2.2.2.2.2.2.2.2)+(L.length:Int)))) l5 (show _=_ by rw[kf];rfl);have l7:=l6.at1;have l8:=oC l7;have l9:=l8.at1;have la:=oC l9;have lb:=la.at1;have lc:=oC lb;have ld:=lc.at1;have le:=oC ld;have lf:=le.at1;have lg:=oC lf;have lh:=oZ (r:=(oH pO)) (cs:=[.slice s.1 s.2.1 s.2.2]) (x:=b.2.2.2.2.2.1) lg ⟨s,rfl,X.up⟩;have li:=oC lh;have lj:=oZ (r:=(oH (oE .i64))) (cs:=[.slice q.1 q.2.1 q.2.2]) (x:=b.2.2.2.2.1) li ⟨q,rfl,W.up⟩;have lk:=oC lj;have ll:=oZ (r:=(oH (oE .i64))) (cs:=[.slice p.1 p.2.1 p.2.2]) (x:=b.2.2.2.1) lk ⟨p,rfl,V.up⟩;have lm:=oC ll;have ln:=oZ (r:=(oH BL)) (cs:=[.slice o.1 o.2.1 o.2.2]) (x:=b.2.2.1) lm ⟨o,rfl,U.up⟩;have lo:=oC ln;have lp:=oZ (r:=(oH pO)) (cs:=[.slice n.1 n.2.1 n.2.2]) (x:=b.2.1) lo ⟨n,rfl,T.up⟩;have lq:=oC lp;have lr:=oZ (r:=(oH pO)) (cs:=[.slice m.1 m.2.1 m.2.2]) (x:=b.1) lq ⟨m,rfl,S.up⟩;have ls:=oC lr;have lt:St c3 (cO 44 rW (lF R) (b.1,b.2.1,b.2.2.1,b.2.2.2.1,b.2.2.2.2.1,b.2.2.2.2.2.1,c7,cl,cx,d3,d7,(bO .i64 ((b.2.2.2.2.2.2.2.2.2.2.2)+(L.length:Int))))::F) _:=rR ls.at1;obtain rfl:=iS hd;exact AC ⟨c3,(bO .i64 ((e2.2.1:Int) - (1:Int))),(b.1,b.2.1,b.2.2.1,b.2.2.2.1,b.2.2.2.2.1,b.2.2.2.2.2.1,c7,cl,cx,d3,d7,(bO .i64 ((b.2.2.2.2.2.2.2.2.2.2.2)+(L.length:Int)))),sb,rfl,(by rw[kk]),lt⟩
abbrev RS(ε:Type):Type:=List (List Item)×List (List Item)×List ε×nH×nH×Int
abbrev RP:Type:=As
abbrev mkW{ε:Type}(p:RP)(y:RS ε):List nI×List nI×List Ap×nH×nH×List nI×RS ε:=(p.1,p.2.1,p.2.2.1,p.2.2.2.1,p.2.2.2.2.1,p.2.2.2.2.2,y)
theorem Yb{σ β γ:Type}{s:σ}{f:σ→Option (AX σ β)}{d:σ→Option (AX σ γ)}(g:β→γ) (h:∀s,d s=(f s).map λe=>match e with
 |.next s=>.next s
 |.done b=>.done (g b)):loop s d=(loop s f).map g:=by
 have it:∀n s,Ih d n s=(Ih f n s).map g:=by
  intro n
  induction n with
  |zero=>intro s;rfl
  |succ n i=>
   intro s;unfold Ih;rw[h];cases f s with
   |none=>rfl
   |some e=>cases e with
    |next s=>exact i s
    |done b=>rfl
 cases hl:loop s f with
 |some b=>
  have⟨n,a⟩:=FG.1 hl;exact FG.2 ⟨n,by rw[it,a];rfl⟩
 |none=>
  cases hl':loop s d with
  |none=>rfl
  |some c=>
   have⟨n,a⟩:=FG.1 hl';rw[it]at a;cases hi:Ih f n s with
   |none=>rw[hi]at a;cases a
   |some b=>
    rw[FG.2 ⟨n,hi⟩]at hl;cases hl
noncomputable def Ry(K:List (List Item))(k:List Item):Option (AX Unit Int):=loop (σ:=Int) (β:=AX Unit Int) 0 λz=>cond (decide (z< (K.length:Int))) ((idx K z).bind λe=>(BO e k).bind λt=>cond t (some (oM (oM z))) (some (oP (bO .i64 (z+1))))) (some (oM (oP ())))
noncomputable def placeG{ε:Type}(a:ε)(p:RP)(y:RS ε)(k:List Item)(fr wi:Int):Option (Int×RS ε):=
 (Ry y.1 k).bind λe=>match e with
 |.next _=>
  (BU p k).bind λc=>
  (app y.1 [k]).bind λK=>(app y.2.1 [c]).bind λI=>(app y.2.2.1 [a]).bind λE=>(app y.2.2.2.1 [fr]).bind λF=>(app y.2.2.2.2.1 [wi]).bind λW=>
  some (bO .i64 ((K.length:Int) - 1),(K,I,E,F,W,bO .i64 (y.2.2.2.2.2+(c.length:Int))))
 |.done j=>some (j,y)
theorem bN(p:RP)(y:RS Slc)(k:List Item)(fr wi:Int):CZ (mkW p y) k fr wi=(placeG DC p y k fr wi).map λr=>(r.1,mkW p r.2):=by
 unfold CZ placeG Ry;rw[Yb (λ(e:AX Unit Int)=>(match e with
  |.next u=>oP u
  |.done j=>oM (j,mkW p y):AX Unit (Int×RW))) (f:=λz=>cond (decide (z< (y.1.length:Int)))
  ((idx y.1 z).bind λe=>(BO e k).bind λt=>cond t (some (oM (oM z))) (some (oP (bO .i64 (z+(1:Int))))))
  (some (oM (oP ())))) (λz=>?_)]
 ·cases loop (σ:=Int) (β:=AX Unit Int) (0:Int) λz=>cond (decide (z< (y.1.length:Int)))
   ((idx y.1 z).bind λe=>(BO e k).bind λt=>cond t (some (oM (oM z))) (some (oP (bO .i64 (z+(1:Int))))))
   (some (oM (oP ()))) with
  |none=>rfl
  |some e=>
   cases e with
   |done j=>rfl
   |next u=>
    show(BU p k).bind _=((BU p k).bind _).map _;cases BU p k with
    |none=>rfl
    |some c=>
     show(app y.1 [k]).bind _=((app y.1 [k]).bind _).map _;cases app y.1 [k]with
     |none=>rfl
     |some K=>
      show(app y.2.1 [c]).bind _=((app y.2.1 [c]).bind _).map _;cases app y.2.1 [c]with
      |none=>rfl
      |some I=>
       show(app y.2.2.1 [DC]).bind _=((app y.2.2.1 [DC]).bind _).map _;cases app y.2.2.1 [DC]with
       |none=>rfl
       |some E=>
        show(app y.2.2.2.1 [fr]).bind _=((app y.2.2.2.1 [fr]).bind _).map _;cases app y.2.2.2.1 [fr]with
        |none=>rfl
        |some F=>
         show(app y.2.2.2.2.1 [wi]).bind _=((app y.2.2.2.2.1 [wi]).bind _).map _;cases app y.2.2.2.2.1 [wi]with
         |none=>rfl
         |some W=>rfl
 ·show cond _ _ _=pB _ (cond _ _ _);show cond (decide (z< (y.1.length:Int))) _ _=_;cases decide (z< (y.1.length:Int)) with
  |false=>rfl
  |true=>
   show(idx y.1 z).bind _=((idx y.1 z).bind _).map _;cases idx y.1 z with
   |none=>rfl
   |some e=>
    show(BO e k).bind _=((BO e k).bind _).map _;cases BO e k with
    |none=>rfl
    |some t=>cases t<;>rfl
theorem Wi{p:RP}{K I:List (List Item)}{E:List (List Edge)}{S:List Slc}{F W:nH}{tot:Int}{k:List Item}{fr wi:Int}{n:Int}{y:RS (List Edge)}(i:S.length=E.length)(h:placeG [] p (K,I,E,F,W,tot) k fr wi=some (n,y)):
 ∃a,placeG DC p (K,I,S,F,W,tot) k fr wi=some (n,(y.1,y.2.1,a,y.2.2.2))∧((y=(K,I,E,F,W,tot)∧a=S)∨(a=S++ [DC] ∧y.2.2.1=E++ [[]] ∧ ∃c,y.1=K++ [k] ∧y.2.1=I++ [c])):=by
 unfold placeG at h ⊢;have⟨e,l,h⟩:=bS h;rw[l];dsimp only at h ⊢;rw[oK];cases e with
 |done j=>cases h;exact⟨S,rfl,.inl ⟨rfl,rfl⟩⟩
 |next u=>
  have⟨c,m,h⟩:=bS h;obtain⟨s,f,h⟩:=bS h;obtain⟨t,g,h⟩:=bS h;obtain⟨v,o,h⟩:=bS h;obtain⟨w,q,h⟩:=bS h;obtain⟨x,r,h⟩:=bS h;cases h;obtain⟨b,rfl⟩:=JD o;have d:app S [DC] =some (S++ [DC]):=GW (by rw[i];exact b);obtain⟨_,rfl⟩:=JD f;obtain⟨_,rfl⟩:=JD g;refine⟨S++ [DC],?_,.inr ⟨rfl,rfl,c,rfl,rfl⟩⟩;dsimp only;rw[m,oK,f,oK,g,oK,d,oK,q,oK,r,oK]
noncomputable def dw(p:RP)(I:List Item)(sym:Int):Option (List Item):=forS 0 (I.length:Int) ([]:List Item) λj k=>(idx I j).bind λx=>(BY p x).bind λb=>cond (b==sym) (DG k (x.1,bO .i64 (x.2+1))) (some k)
noncomputable def symR(p:RP)(i sym:Int)(y:RS (List Edge)):Option (RS (List Edge)):=(idx y.2.1 i).bind λI=>(dw p I sym).bind λk=>cond (decide ((k.length:Int) >0)) ((placeG [] p y k i sym).bind λr=>(idx r.2.2.2.1 i).bind λb=>(app b [(sym,r.1)]).bind λa=>(DQ r.2.2.2.1 i a).bind λE=>some (r.2.1,r.2.2.1,E,r.2.2.2.2)) (some y)
noncomputable def UF(p:RP)(i:Int)(y:RS (List Edge)):Option (RS (List Edge)):=forS 0 (bO .i64 ((p.1.length:Int)+(p.2.1.length:Int))+1) y λsym y=>symR p i sym y
noncomputable def TD(st it:Int)(y:RS (List Edge)):Option Bool:=(C4 st).bind λh=>cond (decide ((y.1.length:Int) >h)) (some true) ((C4 it).bind λh=>some (decide (y.2.2.2.2.2>h)))
noncomputable def UG(p:RP)(st it:Int)(y:RS (List Edge)):Option (Option (RS (List Edge))):=loop (σ:=Int×RS (List Edge)) (0,y) λz=>cond (decide (z.1< (z.2.1.length:Int))) ((TD st it z.2).bind λm=>cond m (some (oM none)) ((UF p z.1 z.2).bind λy=>some (oP (bO .i64 (z.1+1),y)))) (some (oM (some z.2)))
noncomputable def Rz(p:RP)(st it:Int):Option (Option QR):=
 (placeG [] p ([],[],[],[],[],0) [(0,0)] (-1:Int) (-1:Int)).bind λr=>
 (UG p st it r.2).bind λe=>match e with
 |none=>some none
 |some y=>(TD st it y).bind λm=>cond m (some none) (some (some (mkW p y)))
theorem R0{α:Type}{R:α→α→Prop}(g:∀x,¬R x x)(tr:∀ {x y z},R x y→R y z→R x z):∀ {l m:List α},l.Pairwise R→m.Pairwise R→(∀x,x∈l↔x∈m)→l=m:=by
 intro l
 induction l with
 |nil=>
  intro m _ _ h;cases m with
  |nil=>rfl
  |cons y m=>exact nC ((h y).2 (qB ..)) nP
 |cons a l j=>
  intro m d f h;cases m with
  |nil=>exact nC ((h a).1 (qB ..)) nP
  |cons b m=>
   rw[List.pairwise_cons]at d f;have i:a=b:=by
    rcases qO.1 ((h a).1 (qB ..)) with e | e
    ·exact e
    ·rcases qO.1 ((h b).2 (qB ..)) with e' | e'
     ·exact e'.symm
     ·exact nC (tr (d.1 b e') (f.1 a e)) (g a)
   subst i;rw[j d.2 f.2 λx=>⟨λc=>?_,λc=>?_⟩]
   ·rcases qO.1 ((h x).1 (pU _ c)) with rfl | e
    ·exact nC (d.1 x c) (g x)
    ·exact e
   ·rcases qO.1 ((h x).2 (pU _ c)) with rfl | e
    ·exact nC (f.1 x c) (g x)
    ·exact e
theorem Lt.tri(x y:Item)(d:¬Lt x y)(c:x≠y):Lt y x:=by
 unfold Lt at *
 have:¬(x.1=y.1∧x.2=y.2):=λ⟨a,b⟩=>c (Prod.ext a b)
 omega
theorem VU{α:Type}[DecidableEq α]{e:α→α→Bool}{k:AX Unit Bool→Option Bool}(d:∀x y,e x y=true↔x=y)(p:k (.next ())=some true)(q:∀b,k (.done b)=some b)(l m:List α)(h:l.length≤9223372036854775807):
 cond ((l.length:Int) !=(m.length:Int)) (some false) ((C6 (σ:=Unit) (β:=Bool) (0:Int) (l.length:Int) () λi _=>(idx l i).bind λx=>(idx m i).bind λy=>cond (!(e x y)) (some (oM false)) (some (oP ()))).bind k)=some (decide (l=m)):=by
 refine rF (AR (λa=>AB ?_) λa=>?_)
 ·have:l≠m:=λe=>by subst e;simp at a
  exact(mV this).symm
 have t:(l.length:Int)=(m.length:Int):=by simpa using a
 refine Gs (λi _=>∀j:Nat,j<i→l[j]? =m[j]?) (λb=>b=decide (l=m)) h (λj f=>nJ) (λi _ r c=>?_) (λ_ c=>?_) λb s=>by rw[q];exact AB s
 ·have n:=bD r;have o:=bD (show i<m.length by omega);refine AS n (AS o (AR (λa=>BB ?_) λa=>Bd ?_))
  ·refine(mV λg=>?_).symm;subst g;have g:=(d l[i] l[i]).2 rfl;rw[g]at a;cases a
  ·intro j f;have a:e l[i] m[i] =true:=by simpa using a
   rcases oU.1 f with g | rfl
   ·exact c j g
   ·rw[n,o,(d _ _).1 a]
 ·rw[p];refine AB (mW (rN λj=>?_)).symm;rcases Nat.lt_or_ge j l.length with g | g
  ·exact c j g
  ·rw[pF g,pF nJ]
theorem Yc(l m:List Item)(h:l.length≤9223372036854775807):BO l m=some (decide (l=m)):=by
 unfold BO;refine VU (α:=Int×Int) (e:=λx y=>(x.1==y.1) && ((x.2==y.2) && true)) ?_ ?_ ?_ l m h
 ·exact λx y=>by rw[Prod.ext_iff];simp
 ·rfl
 ·exact λ_=>rfl
theorem KZ{p:RP}{x:Item}(h:OkI p.2.2.1 x):BY p x=some (beh p.2.2.1 x):=by
 obtain⟨b,e,r,a,f⟩:=h;refine rF ?_;unfold BY;refine Cx b a (AR (λc=>?_) λc=>AB ?_)
 ·have c:=mX c;have d:=bD (show x.2.toNat<r.2.1.length by omega);refine Cx b a (Cx e d (AB ?_));unfold beh;rw[a];dsimp only;rw[d];rfl
 ·have c:=mY c;unfold beh;rw[a];dsimp only;rw[pF nJ];rfl
theorem Xg{α β:Type}{R:α→α→Prop}(I:∀x,¬R x x)(tr:∀ {x y z},R x y→R y z→R x z)(tri:∀x y,¬R x y→x≠y→R y x){l:List α}(v:l.Pairwise R)(W:l.length≤1000000000){x:α}{C E:Int→Option Bool}(mk:List α→Bool→β)
 (M:∀i:Nat,Ok (C (i:Int)) λc=>c=true↔∃y,l[i]? =some y∧R y x) (N:∀i:Nat,Ok (E (i:Int)) λc=>c=true↔l[i]? =some x):
 Ok ((loop (σ:=Int) (β:=Int) (0:Int) λz=>(C z).bind λc=>cond c (some (oP (bO .i64 (z+(1:Int))))) (some (oM z))).bind λz=>(E z).bind λc=>cond c (some (mk l false))
  ((cut l (0:Int) z).bind λa=>(cut l z (l.length:Int)).bind λb=>(app ([]:List α) a).bind λt=>(app t [x]).bind λt=>(app t b).bind λt=>some (mk t true)))
  λr=>∃m b,r=mk m b∧m.Pairwise R∧(∀y,y∈m↔y∈l∨y=x)∧((x∈l∧m=l∧b=false)∨(x∉l∧m.length=l.length+1∧b=true)):=by
 refine Bz (λz=>∃i:Nat,z=(i:Int)∧i≤l.length∧ ∀(j:Nat) y,j<i→l[j]? =some y→R y x) (λz=>l.length - z.toNat) (λb=>∃i:Nat,b=(i:Int)∧i≤l.length∧(∀(j:Nat) y,j<i→l[j]? =some y→R y x)∧ ∀y,l[i]? =some y→ ¬R y x) ⟨0,rfl,qQ _,λj y h=>nJ⟩ (λz O=>?_) λb k=>?_
 ·obtain⟨i,rfl,J,w⟩:=O;refine AM (M i) λc p=>AR (λh=>Bd ?_) λh=>BB ⟨i,rfl,J,w,λy P Q=>by have:=p.2 ⟨y,P,Q⟩;rw[h]at this;cases this⟩;have⟨y,o,A⟩:=p.1 h;have B:=(nY.1 o).1;rw[w64 (n:=(i:Int)+1) nJ nJ];refine⟨⟨i+1,nJ,B,λj S d e=>?_⟩,nJ⟩;rcases oU.1 d with g | rfl
  ·exact w j S g e
  ·rw[o]at e;cases e;exact A
 obtain⟨i,rfl,J,w,T⟩:=k;refine AM (N i) λc p=>AR (λh=>AB ?_) λh=>?_
 ·have q:=oB (p.1 h);exact⟨l,false,rfl,v,λy=>⟨.inl,λh=>h.elim id λe=>by rw[e];exact q⟩,.inl ⟨q,rfl,rfl⟩⟩
 have D:l[i]?≠some x:=λe=>by rw[p.2 e]at h;cases h
 have U:cut l (0:Int) (i:Int)=some (l.take i):=by unfold cut;rw[mZ ⟨nJ,nJ,nJ⟩];simp
 have V:cut l (i:Int) (l.length:Int)=some (l.drop i):=by unfold cut;rw[mZ ⟨nJ,nJ,nJ⟩];simp
 have K:(l.take i).length+(l.drop i).length=l.length:=nN
 refine AO U (AO V (Az nN (Az nN (Az nN (AB ?_)))));rw[List.nil_append];have lo:∀y∈l.take i,R y x:=λy o=>by
  obtain⟨j,d⟩:=pD o;have s:j<i:=by have:=(nY.1 d).1;simp at this;omega
  rw[List.getElem?_take_of_lt s]at d;exact w j y s d
 have f:∀y∈l.drop i,R x y:=λy o=>by
  obtain⟨j,d⟩:=pD o;rw[List.getElem?_drop]at d;have F:=(nY.1 d).1;have G:=bD (show i<l.length by omega);have L:R x l[i]:=tri _ _ (T _ G) (λe=>D (by rw[G,e]));rcases rA j with rfl | g
  ·rw[Nat.add_zero,G]at d;cases d;exact L
  ·have:=List.pairwise_iff_getElem.1 v i (i+j) nJ F nJ
   rw[(nY.1 d).2]at this;exact tr L this
 have u:x∉l:=λq=>by
  rw[←qT i l]at q;rcases pH.1 q with g | g
  ·exact I x (lo x g)
  ·exact I x (f x g)
 refine⟨_,true,rfl,?_,λy=>?_,.inr ⟨u,nN,rfl⟩⟩
 ·refine qX.2 ⟨qX.2 ⟨v.sublist (List.take_sublist i l),List.pairwise_singleton _ _,λa H b k=>?_⟩,v.sublist (List.drop_sublist i l),λa H b k=>?_⟩
  ·obtain rfl:=qC.1 k;exact lo a H
  ·rcases pH.1 H with g | g
   ·exact tr (lo a g) (f b k)
   ·obtain rfl:=qC.1 g;exact f b k
 ·have:y∈l↔y∈l.take i∨y∈l.drop i:=by rw[←pH,qT]
  rw[pH,pH,qC,this];exact⟨λh=>by rcases h with(h | h)|h<;>simp[h],λh=>by rcases h with(h | h)|h<;>simp[h]⟩
theorem Xh{l:List Item}(k:l.Pairwise Lt)(o:l.length≤1000000)(x:Item):Ok (DG l x) λm=>m.Pairwise Lt∧(∀y,y∈m↔y∈l∨y=x)∧((x∈l∧m=l)∨(x∉l∧m.length=l.length+1)):=by
 unfold DG;refine(Xg Lt.irrefl (λg a=>Lt.trans g a) Lt.tri k nJ (x:=x) (λm _=>m) (λi=>?_) λi=>?_).mono λr n=>?_
 ·refine AR (λc=>?_) λc=>AB ⟨nP,λ⟨y,j,_⟩=>?_⟩
  ·have d:=bD (show i<l.length by have:=mX c;omega);rw[d];unfold Lt;refine AS d (AR (λh=>AB ?_) λh=>AS d (AR (λa=>AS d (AB ?_)) λa=>AB ?_))
   ·exact⟨λ_=>⟨_,rfl,.inl (mX h)⟩,λ_=>rfl⟩
   ·have h:=mY h;rw[decide_eq_true_iff];exact⟨λf=>⟨_,rfl,.inr ⟨by simpa using a,f⟩⟩,λ⟨y,e,f⟩=>by cases e;omega⟩
   ·have h:=mY h;exact⟨λe=>(by cases e),λ⟨y,e,f⟩=>by cases e;simp at a;omega⟩
  ·have:=mY c
   rw[pF nJ]at j;cases j
 ·refine AR (λc=>?_) λc=>AB ⟨nP,λe=>?_⟩
  ·have d:=bD (show i<l.length by have:=mX c;omega);refine AS d (AB ?_);rw[d,Option.some.injEq,Prod.ext_iff];simp
  ·have:=mY c
   rw[pF nJ]at e;cases e
 ·obtain⟨m,b,rfl,g,a,f⟩:=n;exact⟨g,a,f.imp (λh=>⟨h.1,h.2.1⟩) λh=>⟨h.1,h.2.1⟩⟩
end Go.Proofs.YtfnppeejaimnbaaGreatDoor
namespace Go.Proofs.YtfnppeejaimnbaaGreatDoor
open Go Go.Eng Dg
theorem fB:Fy hM 154 154 100 1:=⟨rD,.inl rD,⟨t100,nU,rfl,⟨_,rfl,rfl⟩,nQ,nQ⟩,nQ⟩
abbrev rB(us:List Slc)(A:List (List Bool)):List Chk:=QE 4 oI us A
theorem Xi{us:List Slc}{A:List (List Bool)}(h:us.length=A.length)(u:Slc)(l:List Bool):rB (us++ [u]) (A++ [l])=rB us A++ [cR 4 oI u l]:=by unfold rB QE;rw[List.zipWith_append h];rfl
section
variable {φ ψ:AD}{h:AH}{F:List Chk}{t:Slc×Slc×Slc×Slc×Slc×Slc×Unit}{p:dtP}
theorem Jb(k:PlK φ t p)(B:St φ F h){r:List (List Bool)}(hd:Cp p=some r):
 nX hM 113 [.agg #[.slice t.1.1 t.1.2.1 t.1.2.2,.slice t.2.1.1 t.2.1.2.1 t.2.1.2.2,.slice t.2.2.1.1 t.2.2.1.2.1 t.2.2.1.2.2,.slice t.2.2.2.1.1 t.2.2.2.1.2.1 t.2.2.2.1.2.2,.slice t.2.2.2.2.1.1 t.2.2.2.2.1.2.1 t.2.2.2.2.1.2.2,.slice t.2.2.2.2.2.1.1 t.2.2.2.2.2.1.2.1 t.2.2.2.2.2.1.2.2]] h
  (An λv C=>∃(ψ:AD) (y:Slc) (us:List Slc),Sub φ ψ∧v=lS.val y∧us.length=r.length∧mE qN ψ y us∧St ψ (rB us r++F) C):=by
 refine A9 mixed func113 ?_;rw[KM];unfold G1;unfold Cp at hd;have⟨l,D,hd⟩:=bS hd;obtain rfl:=iS hd;have E:t.1.2.1=p.1.length:=k.k0.length;have G:t.2.1.2.1=p.2.1.length:=k.k1.length;refine AU (vs:=plV t) B ?_;intro r1 N f;have⟨i,m,u,f⟩:=rU f;refine Af (λ(y:Int×Slc×Unit) w (g:List (List Bool))=>∃ψ us,Sub i ψ∧us.length=g.length∧St ψ (cR 100 qN y.2.1 us::(rB us g++F)) w) (g:=l) ?_ ?_
 ·refine Bx D (λ(y:Int×Slc×Unit) w (g:Int×List (List Bool))=>y.1=g.1∧ ∃ψ us,Sub i ψ∧us.length=g.2.length∧St ψ (cR 100 qN y.2.1 us::(rB us g.2++F)) w) rfl ⟨rfl,i,[],pK _,rfl,St.nil _ _ f⟩ ?_;rintro y w ⟨O,gl⟩ e ⟨z,ψ,us,le,c,st⟩ b hb;dsimp only at z c st b;subst z;refine AF (CA (u.mono le) st (j:=1) rfl) rfl<|mP b (by rw[G]) (λb=>?_) (λb=>?_)
  ·have⟨row,d,b⟩:=bS b;obtain⟨H,n,b⟩:=bS b;obtain rfl:=iS b;refine AF (CA (u.mono le) st (j:=0) rfl) rfl<|FW (r:=oI) (x:=false) J9 st rfl rfl (by rw[E];exact d) ?_;intro t6 P I;refine AU (vs:=[sv t6]) I ?_;intro Q R A;have J:=oQ A;obtain⟨o,rfl⟩:=Hu n c t6;refine AV (ms:=[t6]) fB (A.at2) rfl J (.cons (a:=[_]) rfl .nil) rfl o ?_;intro t8 S K;refine lH rfl rfl ⟨rfl,ψ,us++ [t6],le,by simp[c],?_⟩;dsimp only;rw[Xi c,pS];exact K.at1.tail.perm (oD _ (pP (l₁:=rB us gl)).symm)
  ·obtain rfl:=iS b;obtain rfl:=hb _ rfl;exact AJ (lI rfl ⟨ψ,us,le,c,st⟩)
 ·rintro y w ⟨ψ,us,le,c,st⟩;have⟨L,q,M,s⟩:=oA (t:=y.2.1) st;exact AC ⟨L,y.2.1,us,(m.trans le).trans q,rfl,c,M,s⟩
end
section
variable {φ ψ:AD}{h:AH}{F:List Chk}{t:Slc×Slc×Slc×Slc×Slc×Slc×Unit}{p:dtP}
theorem bP{a:Slc}{l:List Bool}(j:St φ (cR 4 oI a l::F) h)(u:l.length≤1000000):
 nX hM 115 [.slice a.1 a.2.1 a.2.2,.slice a.1 a.2.1 a.2.2] h (An λv p=>v=lU.val false∧St φ (cR 4 oI a l::F) p):=by
 refine A9 mixed func115 ?_;rw[Et];unfold H7;have k:a.2.1=l.length:=j.rowLen;have q:forS (σ:=Unit) (0:Int) (l.length:Int) () (λ_ _=>some ())=some ():=by
  obtain⟨s,r,_⟩:=CM (σ:=Unit) (f:=λ_ _=>some ()) (n:=l.length) (λ_ _=>True) nJ (s:=()) trivial (λi s m _=>⟨(),rfl,trivial⟩);rw[r]
 refine Af (λ(y:Int×Bool×Unit) w (_:Unit)=>y.2.1=false∧St φ (cR 4 oI a l::F) w) (g:=()) ?_ ?_
 ·refine By q (λi (y:Int×Bool×Unit) w (_:Unit)=>y.1=i∧y.2.1=false∧St φ (cR 4 oI a l::F) w) rfl ⟨rfl,rfl,j⟩ ?_ ?_
  ·rintro _ z w _ _ ⟨rfl,b,st⟩ he m hlt hw;refine Ad (by rw[k];exact mW hlt) ?_;obtain⟨x,o⟩:∃x,idx l z.1=some x:=⟨l[z.1.toNat]'nJ,by unfold idx;rw[mZ m];exact bD _⟩;refine AY (λ(y:Bool×Unit) w (_:Unit)=>y.1=false∧St φ (cR 4 oI a l::F) w) (g:=()) ?_ ?_
   ·refine PN st o ?_;cases x
    ·exact AW rfl (lG rfl ⟨rfl,st⟩)
    ·refine Ad rfl (PN st o ?_);exact lG rfl ⟨rfl,st⟩
   ·rintro y A ⟨t,c⟩;refine AY (λ(y:Bool×Unit) w (_:Unit)=>y.1=false∧St φ (cR 4 oI a l::F) w) (g:=()) ?_ ?_
    ·exact AW t (lG rfl ⟨b,c⟩)
    ·rintro B C ⟨d,e⟩;exact lH rfl rfl ⟨hw,d,e⟩
  ·rintro _ z w ⟨rfl,b,st⟩ hge;refine AW (by rw[k];exact mV (qM.2 hge))<|AJ (lI rfl ⟨b,st⟩)
 ·rintro z w ⟨b,st⟩;exact AC ⟨by rw[b];rfl,st⟩
abbrev Dv(r:Nat)(n f g:Slc)(c:Int)(null:List Bool)(us:List Slc)(A:List (List Bool))(vs:List Slc)(B:List (List Bool)):List Chk:=
 cR 4 oI n null::(rB us A++(rB vs B++ [⟨qY 207,[.pointer (lF r)],[sv n,sv f,sv g,.int .i64 c]⟩]))
variable {r:Nat}{n f g:Slc}{c:Int}{null:List Bool}{us vs:List Slc}{A B:List (List Bool)}
theorem ic(c:Int):∃rest,∀a F,(Dv r n f g a null us A vs B++F).Perm (⟨qY 207,[.pointer (lF r)],[sv n,sv f,sv g,.int .i64 a]⟩::(rest++F)):=by
 refine⟨cR 4 oI n null::(rB us A++rB vs B),λa F=>?_⟩;have e:Dv r n f g a null us A vs B++F=(cR 4 oI n null::(rB us A++rB vs B)) ++(⟨qY 207,[.pointer (lF r)],[sv n,sv f,sv g,.int .i64 a]⟩::F):=by
  simp[Dv,pS]
 rw[e];exact pP
theorem Ev(st:St φ (Dv r n f g c null us A vs B++F) h){j:Nat}{v:Value}(a: [sv n,sv f,sv g,.int .i64 c][j]? =some v):Bb h ⟨r,j,none⟩=some v:=by have⟨rest,b⟩:=ic (r:=r) (n:=n) (f:=f) (g:=g) (null:=null) (us:=us) (A:=A) (vs:=vs) (B:=B) c;exact(st.perm (b c F)).cell a
theorem Hg{α:Type}{l:List α}{k:Nat}{x:α}(h:l[k]? =some x):l.set k x=l:=by
 refine rN λi=>?_;rw[pJ];split
 ·next e=>subst e;rw[h];simp[(nY.1 h).1]
 ·rfl
theorem P3{us:List Slc}{A:List (List Bool)}{k:Nat}{u:Slc}{l:List Bool}(a:us[k]? =some u)(b:A[k]? =some l):∃rest,(rB us A).Perm (cR 4 oI u l::rest)∧ ∀l',(rB us (A.set k l')).Perm (cR 4 oI u l'::rest):=by
 have⟨rest,c,d⟩:=MT (f:=cR 4 oI) a b;refine⟨rest,c,λl'=>?_⟩
 have:=d u l'
 rwa [Hg a]at this
theorem ie{k:Nat}{u:Slc}{l:List Bool}(a:us[k]? =some u)(b:A[k]? =some l):∃rest,∀F,(Dv r n f g c null us A vs B++F).Perm (cR 4 oI u l::(rest++F))∧ ∀l',(Dv r n f g c null us (A.set k l') vs B++F).Perm (cR 4 oI u l'::(rest++F)):=by
 have⟨rest,d,e⟩:=P3 a b;refine⟨cR 4 oI n null::(rest++(rB vs B++ [⟨qY 207,[.pointer (lF r)],[sv n,sv f,sv g,.int .i64 c]⟩])),λF=>⟨?_,λl'=>?_⟩⟩
 ·exact(oJ F (oD _ (oJ _ d))).trans (oR _ _ _)
 ·exact(oJ F (oD _ (oJ _ (e l')))).trans (oR _ _ _)
theorem gV{k:Nat}{u:Slc}{l:List Bool}(b:vs[k]? =some u)(d:B[k]? =some l):∃rest,∀F,(Dv r n f g c null us A vs B++F).Perm (cR 4 oI u l::(rest++F))∧ ∀l',(Dv r n f g c null us A vs (B.set k l') ++F).Perm (cR 4 oI u l'::(rest++F)):=by
 have⟨rest,e,h⟩:=P3 b d;have a:∀(X:List Chk) (x:Chk) (T:List Chk),(cR 4 oI n null::(rB us A++((x::rest) ++T))).Perm (x::(cR 4 oI n null::(rB us A++(rest++T)))):=λX x T=>
  (oD _ pP).trans (oR _ _ _)
 refine⟨cR 4 oI n null::(rB us A++(rest++ [⟨qY 207,[.pointer (lF r)],[sv n,sv f,sv g,.int .i64 c]⟩])),λF=>⟨?_,λl'=>?_⟩⟩
 ·exact oJ F ((oD _ (pG _ (oJ _ e))).trans (a [] _ _))
 ·exact oJ F ((oD _ (pG _ (oJ _ (h l')))).trans (a [] _ _))
theorem Wj{α β:Type}{f:α→β→Chk}:∀ {ps:List α}{ss:List β}{i j:Nat}{p q:α}{s t:β},i≠j→ps[i]? =some p→ss[i]? =some s→ps[j]? =some q→ss[j]? =some t→
 ∃rest,(List.zipWith f ps ss).Perm (f p s::f q t::rest)∧ ∀s',(List.zipWith f ps (ss.set i s')).Perm (f p s'::f q t::rest):=by
 intro ps
 induction ps with
 |nil=>intro ss i j p q s t _ h;simp at h
 |cons x ps m=>
  intro ss i j p q s t k a b c d;cases ss with
  |nil=>simp at b
  |cons y ss=>
   cases i with
   |zero=>
    cases j with
    |zero=>exact(k rfl).elim
    |succ j=>
     simp only[qR,Option.some.injEq,qD]at a b c d;subst a b;have⟨rest,g,_⟩:=MT (f:=f) c d;exact⟨rest,oD _ g,λs'=>oD _ g⟩
   |succ i=>
    cases j with
    |zero=>
     simp only[qR,Option.some.injEq,qD]at a b c d;subst c d;have⟨rest,g,l⟩:=MT (f:=f) a b;refine⟨rest,(oD _ g).trans (oR _ _ _),λs'=>?_⟩
     have:=l p s'
     rw[Hg a]at this;exact(oD _ this).trans (oR _ _ _)
    |succ j=>
     simp only[qD]at a b c d;obtain⟨rest,g,l⟩:=m (λe=>k (by rw[e])) a b c d;exact⟨f x y::rest,(oD _ g).trans ((oR _ _ _).trans (oD _ (oR _ _ _))),λs'=>(oD _ (l s')).trans ((oR _ _ _).trans (oD _ (oR _ _ _)))⟩
theorem ig{k j:Nat}{u v:Slc}{l m:List Bool}(b:k≠j)(d:vs[k]? =some u)(e:B[k]? =some l)(h:vs[j]? =some v)(i:B[j]? =some m):
 ∃rest,∀F,(Dv r n f g c null us A vs B++F).Perm (cR 4 oI u l::cR 4 oI v m::(rest++F))∧ ∀l',(Dv r n f g c null us A vs (B.set k l') ++F).Perm (cR 4 oI u l'::cR 4 oI v m::(rest++F)):=by
 have⟨rest,o,p⟩:=Wj (f:=cR 4 oI) b d e h i;have a:∀(x y:Chk) (T:List Chk),(cR 4 oI n null::(rB us A++((x::y::rest) ++T))).Perm (x::y::(cR 4 oI n null::(rB us A++(rest++T)))):=λx y T=>
  (oD _ (List.perm_middle.trans (oD _ pP))).trans ((oR _ _ _).trans (oD _ (oR _ _ _)))
 refine⟨cR 4 oI n null::(rB us A++(rest++ [⟨qY 207,[.pointer (lF r)],[sv n,sv f,sv g,.int .i64 c]⟩])),λF=>⟨?_,λl'=>?_⟩⟩
 ·exact oJ F ((oD _ (pG _ (oJ _ o))).trans (a _ _ _))
 ·exact oJ F ((oD _ (pG _ (oJ _ (p l')))).trans (a _ _ _))
end
noncomputable def ML(nt:Int)(null:List Bool)(first:List (List Bool))(seq:nH):Option (List Bool×Bool):=
 (EC nt false).bind λc=>
 (C6 (σ:=List Bool) (β:=List Bool×Bool) 0 (seq.length:Int) c λi a=>
  (idx seq i).bind λs=>
  cond (decide (s≥0) && decide (s<nt))
   ((DQ a s true).bind λo=>some (.done (o,false)))
   (cond (decide (bO .i64 (s - nt) <0) || decide (bO .i64 (s - nt) ≥ (null.length:Int)))
    (some (.next a))
    ((idx first (bO .i64 (s - nt))).bind λrow=>(Ax a row).bind λr=>
     (idx null (bO .i64 (s - nt))).bind λb=>cond b (some (.next r.2)) (some (.done (r.2,false)))))).bind λe=>
 match e with
 |.next z=>some (z,true)
 |.done r=>some r
section
variable {φ ψ:AD}{h:AH}{F:List Chk}{t:Slc×Slc×Slc×Slc×Slc×Slc×Unit}{p:dtP}{r:Nat}{n f g:Slc}{c:Int}{null:List Bool}{us vs:List Slc}{A B:List (List Bool)}
theorem TE(k:PlK φ t p)(kf:mE qN φ f us)(W:us.length=A.length){M:Slc}{seq:nH}(ks:mE (oE .i64) φ M seq)(s0:St φ (Dv r n f g c null us A vs B++F) h){x:List Bool×Bool}(hd:ML (nT p) null A seq=some x):
 nX hM 114 [.pointer (lF r),.agg #[.slice t.1.1 t.1.2.1 t.1.2.2,.slice t.2.1.1 t.2.1.2.1 t.2.1.2.2,.slice t.2.2.1.1 t.2.2.1.2.1 t.2.2.1.2.2,.slice t.2.2.2.1.1 t.2.2.2.1.2.1 t.2.2.2.1.2.2,.slice t.2.2.2.2.1.1 t.2.2.2.2.1.2.1 t.2.2.2.2.1.2.2,.slice t.2.2.2.2.2.1.1 t.2.2.2.2.2.1.2.1 t.2.2.2.2.2.1.2.2],.slice M.1 M.2.1 M.2.2] h
  (An λv h'=>∃(ψ:AD) (y:Slc),Sub φ ψ∧v=((.tuple mC):Sh).val (y,x.2,())∧St ψ (cR 4 oI y x.1::(Dv r n f g c null us A vs B++F)) h'):=by
 refine A9 mixed func114 ?_;rw[EK];unfold Es;unfold ML at hd;have n0:t.1.2.1=p.1.length:=k.k0.length;have nq:=ks.length;have⟨o0,X,hd⟩:=bS hd;have⟨e3,Y,hd⟩:=bS hd;refine AU (vs:=plV t) s0 ?_;intro r1 h1 s1;refine AA (b:=r1) (j:=0) (x:=t.1) s1 rfl<|FW (r:=oI) (x:=false) J9 s1.tail rfl (by rw[n0];rfl) X ?_;intro o h2 s2;have H:(t.1.2.1:Int)=nT p:=by rw[n0];rfl
 refine Af (λ(y:Int×Bool×Slc×Unit) w g'=>∃(z:List Bool),g'=oP z∧ ∃ψ,Sub φ ψ∧St ψ (cR 4 oI o z::(Dv r n f g c null us A vs B++F)) w) (g:=e3) ?_ ?_
 ·refine PM Y (λi (y:Int×Bool×Slc×Unit) w z=>y.1=i∧ ∃ψ,Sub φ ψ∧St ψ (cR 4 oI o z::(Dv r n f g c null us A vs B++F)) w) rfl ⟨rfl,φ,pK _,s2⟩ ?_ ?_
  ·rintro _ y w z e ⟨rfl,ψ,le,st⟩ d h0 hlt hw hb;try dsimp only at st d
   refine Ad (by rw[nq];exact mW hlt) ?_;have⟨s,hs,d⟩:=bS d;have kq:=ks.mono le;have q:∀ {K:Int→T} {P:Bl→AH→Prop} {D:AH} {N:AD} {Γ:List Chk},Sub ψ N→St N Γ D→(K s).wp hM P D→(nW M.1 λA=>chk (0≤y.1∧y.1< (M.2.1:Nat))<|T.load (.int .i64) (A.add (eE y.1 *1)) K).wp hM P D:=λ{K P D N Γ} I J hK=>NR (a:=.int .i64) kq hs (oN I J.sub) hK;refine Af (λ(O:Bool×Slc×Unit) w (g':Unit)=>∃(Z:List Bool),e=oP Z∧ ∃ψ,Sub φ ψ∧St ψ (cR 4 oI o Z::(Dv r n f g c null us A vs B++F)) w) (g:=()) ?_ ?_
   ·refine AY (λ(O:Bool×Unit) D (_:Unit)=>O.1=(decide (s≥0) && decide (s<nT p))∧St ψ (cR 4 oI o z::(Dv r n f g c null us A vs B++F)) D) (g:=()) ?_ ?_
    ·refine q (pK _) st ?_;by_cases l:s≥0
     ·refine Ad (mW l)<|q (pK _) st<|lG rfl ⟨by rw[H,mW l];rfl,st⟩
     ·refine AW (mV l)<|lG rfl ⟨by rw[mV l];rfl,st⟩
    ·rintro y7 w7 ⟨a0,m⟩;refine mP d a0 (λd=>?_) (λd=>?_)
     ·obtain⟨o',Q,d⟩:=bS d;obtain rfl:=iS d;obtain rfl:=hb _ rfl;obtain rfl:=iS hd;refine q (pK _) m ?_;have⟨A4,R,q4⟩:=m.there Q;refine AI _ R (Ai q4 (FH m Q rfl R ?_));intro h8 a1;exact Ah (Ak (Ah (AC ⟨ψ,o,le,rfl,a1⟩)))
     ·refine q (pK _) m<|AY (λ(O:Bool×Unit) D (_:Unit)=>O.1=(decide (bO .i64 (s - nT p) <0) || decide (bO .i64 (s - nT p) ≥ (null.length:Int)))∧St ψ (cR 4 oI o z::(Dv r n f g c null us A vs B++F)) D) (g:=()) ?_ ?_
      ·rw[H];by_cases l:bO .i64 (s - nT p) <0
       ·refine Ad (mW l)<|lG rfl ⟨by rw[mW l];rfl,m⟩
       ·refine AW (mV l)<|AI _ rfl<|AF (Ev m.tail (j:=0) rfl) rfl ?_;have nn:n.2.1=null.length:=(m.tail).rowLen;exact lG rfl ⟨by rw[nn,mV l];rfl,m⟩
      ·rintro y9 w9 ⟨a2,E⟩;refine AE d a2 (λ_ d=>?_) (λb1 d=>?_)
       ·obtain rfl:=iS d;exact Qw (y.2.1,y.2.2.1,()) rfl ⟨z,rfl,ψ,le,E⟩
       ·have⟨row,C,d⟩:=bS d;have⟨pr,a3,d⟩:=bS d;have⟨b,S,d⟩:=bS d;rw[H];have⟨y0,y1,y2⟩:=B9 C;obtain⟨kk,a4⟩:∃k:Nat,bO .i64 (s - nT p)=(k:Int):=⟨_,(oV y0).symm⟩;rw[a4]at C S ⊢;have hA:=SO C;have a5:kk<us.length:=by rw[W];exact(nY.1 hA).1
        have hu:us[kk]? =some us[kk]:=bD a5;refine AI _ rfl<|AF (Ev E.tail (j:=1) rfl) rfl ?_;obtain⟨A2,b2,a6,a7,r2,a8⟩:=(kf.mono le).get (i:=(kk:Int)) (by rw[CD];exact hu);refine AI _ a6 (Ai a7 ?_);obtain rfl:=r2;refine AF (AG E.sub (a8 0 _ rfl)) rfl ?_;have⟨rest,hp⟩:=ie (r:=r) (n:=n) (f:=f) (g:=g) (c:=c) (null:=null) (vs:=vs) (B:=B) hu hA;refine AK (Ci (E.perm (oD _ (hp F).1)) a3) ?_;rintro _ a9 ⟨L,yb,b0,G,rfl,U,V⟩;refine⟨yb,rfl,?_⟩;obtain rfl:b0=pr.2:=by rw[←U]
        have u:St L (cR 4 oI o pr.2::(Dv r n f g c null us A vs B++F)) a9:=V.perm ((oR _ _ _).trans (oD _ (hp F).1.symm));refine AI _ rfl<|AF (Ev u.tail (j:=0) rfl) rfl<|PN (a:=.bool) u.tail S ?_;cases b
        ·obtain rfl:=iS d;obtain rfl:=hb _ rfl;obtain rfl:=iS hd;refine Ad rfl<|Ah (Ak (Ah (AC ⟨L,o,le.trans G,rfl,u⟩)))
        ·obtain rfl:=iS d;refine AW rfl<|lJ rfl ⟨pr.2,rfl,L,le.trans G,u⟩
   ·rintro O D ⟨Z,rfl,N,I,J⟩;exact lH rfl rfl ⟨hw,N,I,J⟩
  ·rintro i y w z ⟨rfl,ψ,le,st⟩ hge hr;subst hr;refine AW (by rw[nq];exact mV (qM.2 hge))<|AJ (lI rfl ⟨z,rfl,ψ,le,st⟩)
 ·rintro y w ⟨z,rfl,ψ,le,st⟩;obtain rfl:=iS hd;exact AC ⟨ψ,o,le,rfl,st⟩
end
noncomputable def R1(p:dtP)(null:List Bool)(first:List (List Bool)):Option (Bool×List Bool×List (List Bool)):=forS (σ:=Bool×List Bool×List (List Bool)) 0 (p.2.2.1.length:Int) (false,null,first) λi z=>(idx p.2.2.1 i).bind λc=>(ML (nT p) z.2.1 z.2.2 c.2.1).bind λb=>(idx z.2.2 (bO .i64 (c.1 - nT p))).bind λrow=>(Ax row b.1).bind λd=>(idx z.2.1 (bO .i64 (c.1 - nT p))).bind λe=>(DQ z.2.1 (bO .i64 (c.1 - nT p)) (e || b.2)).bind λa=>some (z.1 || d.1 || (b.2 && !e),a,z.2.2.set (bO .i64 (c.1 - nT p)).toNat d.2)
noncomputable def PA(p:dtP)(null:List Bool)(first a:List (List Bool)):Option (Bool×List (List Bool)):=forS (σ:=Bool×List (List Bool)) 0 (p.2.2.1.length:Int) (false,a) λi z=>(idx p.2.2.1 i).bind λc=>forS (σ:=Bool×List (List Bool)) 0 (c.2.1.length:Int) z λj z=>(idx c.2.1 j).bind λs=>cond (decide (s<nT p)) (some z) ((ML (nT p) null first (c.2.1.drop (j+1).toNat)).bind λb=>(idx z.2 (bO .i64 (s - nT p))).bind λrow=>(Ax row b.1).bind λd=>(cond b.2 ((idx z.2 (bO .i64 (c.1 - nT p))).bind λe=>cond (decide (bO .i64 (s - nT p)=bO .i64 (c.1 - nT p))) (need (d.2.length≤1000000)<|some (false,d.2)) (Ax d.2 e)) (some (false,d.2))).bind λq=>some (z.1 || d.1 || q.1,z.2.set (bO .i64 (s - nT p)).toNat q.2))
section
variable {φ ψ:AD}{h:AH}{F:List Chk}{t:Slc×Slc×Slc×Slc×Slc×Slc×Unit}{p:dtP}{r r1:Nat}{n f g:Slc}{c:Int}{us vs:List Slc}
theorem Ie(a:Cv φ (lF r1) (plV t)){Γ:List Chk}(st:St φ Γ h):∀j v,(plV t)[j]? =some v→Bb h ⟨r1,j,none⟩=some v:=λj v b=>by
 have:=AG st.sub (a.at j b)
 rwa [EN,Nat.zero_add]at this
theorem Wk{null:List Bool}{A B:List (List Bool)}{K:Int×Bool×Unit→T}{P:Bl→AH→Prop}(I:Cv φ (lF r1) (plV t))(k:PlK φ t p)(kf:mE qN φ f us)(W:us.length=A.length)
 (s0:St φ (Dv r n f g c null us A vs B++F) h) {x:Bool×List Bool×List (List Bool)} (hd:R1 p null A=some x)
 (hK:∀ψ y h',Sub φ ψ→y.2.1=x.1→us.length=x.2.2.length→St ψ (Dv r n f g c x.2.1 us x.2.2 vs B++F) h'→(K y).wp hM P h'):
 (UC r1 r t.1 K).wp hM P h:=by
 unfold UC;unfold R1 at hd;have n0:t.1.2.1=p.1.length:=k.k0.length;have nk:=k.k2.length;have X:(t.1.2.1:Int)=nT p:=by rw[n0];rfl
 rw[X];refine Af (λ(y:Int×Bool×Unit) w g'=>∃(ψ:AD),Sub φ ψ∧y.2.1=g'.1∧us.length=g'.2.2.length∧St ψ (Dv r n f g c g'.2.1 us g'.2.2 vs B++F) w) (g:=x) ?_ ?_
 ·refine By hd (λi (y:Int×Bool×Unit) w g'=>y.1=i∧ ∃(ψ:AD),Sub φ ψ∧y.2.1=g'.1∧us.length=g'.2.2.length∧St ψ (Dv r n f g c g'.2.1 us g'.2.2 vs B++F) w) rfl ⟨rfl,φ,pK _,rfl,W,s0⟩ ?_ ?_
  ·rintro _ y w ⟨gr,Y,Z⟩ e ⟨rfl,ψ,le,H,l,st⟩ m h0 hlt hw;dsimp only at H l st m;subst H;refine AF (Ie (I.mono le) st 2 _ rfl) rfl<|Ad (by rw[nk];exact mW hlt) ?_;have⟨ru,a0,m⟩:=bS m;have⟨b,hb,m⟩:=bS m;have⟨row,q,m⟩:=bS m;have⟨pr,a1,m⟩:=bS m;have⟨nl,E,m⟩:=bS m;obtain⟨a2,z,m⟩:=bS m;obtain rfl:=iS m;refine AF (Ie (I.mono le) st 2 _ rfl) rfl ?_;obtain⟨D1,b0,J,L,q1,M⟩:=(k.k2.mono le).get a0;refine AI _ J (Ai L ?_);obtain⟨_,_,rfl,rfl,⟨_,_,rfl,U,q5⟩⟩:=q1;obtain⟨u,rfl,ku⟩:=U;obtain rfl:=q5;refine AF (AG st.sub (M 0 _ rfl)) rfl<|FN (Ie (I.mono le) st)<|AF (Ie (I.mono le) st 2 _ rfl) rfl<|AI _ J (Ai L ?_);refine AF (by rw[Aj];exact AG st.sub (M 1 _ rfl)) rfl<|AK (TE (k.mono le) (kf.mono le) l ku st hb) ?_;rintro _ h2 ⟨ψ2,yb,a3,rfl,G⟩;refine⟨(yb,b.2,()),rfl,?_⟩;have N:=le.trans a3;have⟨y0,y1,y2⟩:=B9 q;obtain⟨kk,a4⟩:∃k:Nat,bO .i64 (ru.1 - nT p)=(k:Int):=⟨_,(oV y0).symm⟩;rw[a4]at q E z ⊢;rw[oF];have hA:=SO q;have a5:kk<us.length:=by rw[l];exact(nY.1 hA).1
   have hu:us[kk]? =some us[kk]:=bD a5;refine AF (Ev G.tail (j:=1) rfl) rfl ?_;obtain⟨D2,b1,a6,a7,r2,a8⟩:=(kf.mono N).get (i:=(kk:Int)) (by rw[CD];exact hu);refine AI _ a6 (Ai a7 ?_);obtain rfl:=r2;refine AF (AG G.sub (a8 0 _ rfl)) rfl ?_;have⟨rest,hp⟩:=ie (r:=r) (n:=n) (f:=f) (g:=g) (c:=c) (null:=Y) (vs:=vs) (B:=B) hu hA;refine AK (Ci (G.perm ((oD _ (hp F).1).trans (oR _ _ _))) a1) ?_;rintro _ a9 ⟨C,V,s,O,rfl,Q,R⟩;refine⟨V,rfl,?_⟩;obtain rfl:(V,s)=pr:=Q;have d:St C (Dv r n f g c Y us (Z.set kk s) vs B++F) a9:=R.tail.perm ((hp F).2 s).symm;have S:=N.trans O;refine AY (λ(y':Bool×Unit) w (_:Unit)=>y'=(y.2.1 || V || (b.2 && !nl),())∧St C (Dv r n f g c Y us (Z.set kk s) vs B++F) w) (g:=()) ?_ ?_
   ·cases hz:y.2.1
    ·refine AW rfl ?_;cases V
     ·refine AW rfl ?_;cases hbn:b.2
      ·refine AW (by dsimp only)<|lG rfl ⟨nP,d⟩
      ·refine Ad (by dsimp only)<|AF (Ev d (j:=0) rfl) rfl<|PN (a:=.bool) d E<|lG rfl ⟨nP,d⟩
     ·refine Ad rfl<|lG rfl ⟨nP,d⟩
    ·refine Ad rfl<|lG rfl ⟨nP,d⟩
   ·rintro y' h4 ⟨rfl,o⟩;refine AY (λ(y':Unit) w (_:Unit)=>St C (Dv r n f g c a2 us (Z.set kk s) vs B++F) w) (g:=()) ?_ ?_
    ·refine AF (Ev o (j:=0) rfl) rfl<|AF (Ev o (j:=0) rfl) rfl<|PN (a:=.bool) o E ?_;have⟨D4,D,U⟩:=St.there o z;cases nl
     ·refine AW rfl<|AI _ D (Ai U (FH o z rfl D ?_));intro h5 v;exact lG rfl v
     ·refine Ad rfl<|AI _ D (Ai U (FH o z rfl D ?_));intro h5 v;exact lG rfl v
    ·rintro _ h5 v;exact lH rfl rfl ⟨hw,C,S,rfl,by rw[pI];exact l,v⟩
  ·rintro _ y w ⟨rfl,ψ,le,H,l,st⟩ hge;refine AF (Ie (I.mono le) st 2 _ rfl) rfl<|AW (by rw[nk];exact mV (qM.2 hge))<|AJ (lI rfl ⟨ψ,le,H,l,st⟩)
 ·rintro y w ⟨ψ,le,H,l,st⟩;exact hK ψ y w le H l st
end
section
variable {φ ψ:AD}{h:AH}{F:List Chk}{t:Slc×Slc×Slc×Slc×Slc×Slc×Unit}{p:dtP}{r r1:Nat}{n f g:Slc}{c:Int}{us vs:List Slc}
theorem orT{a b:Bool}{K:Bool×Unit→T}{Q:Bl→AH→Prop}(H:(K (a || b,())).wp hM Q h):(pA [.atom .bool] (cond a (nZ [.bool true]) (nZ [.bool b])) K).wp hM Q h:=by
 refine AY (λy w (_:Unit)=>y=(a || b,())∧w=h) (g:=()) ?_ (λy e ⟨c,d⟩=>by subst c d;exact H);cases a
 ·exact AW rfl (lG rfl ⟨rfl,rfl⟩)
 ·exact Ad rfl (lG rfl ⟨rfl,rfl⟩)
theorem VW{null:List Bool}{A B:List (List Bool)}{K:Int×Bool×Unit→T}{P:Bl→AH→Prop}(cB:Cv φ (lF r1) (plV t))(k:PlK φ t p)(kf:mE qN φ f us)(kg:mE qN φ g vs)(c8:us.length=A.length)(c9:vs.length=B.length)
 (s0:St φ (Dv r n f g c null us A vs B++F) h) {x:Bool×List (List Bool)} (hd:PA p null A B=some x)
 (hK:∀ψ y h',Sub φ ψ→y.2.1=x.1→vs.length=x.2.length→St ψ (Dv r n f g c null us A vs x.2++F) h'→(K y).wp hM P h'):
 (Rp r1 r t.1 K).wp hM P h:=by
 unfold Rp;unfold PA at hd;have n0:t.1.2.1=p.1.length:=k.k0.length;have nk:=k.k2.length;have d0:(t.1.2.1:Int)=nT p:=by rw[n0];rfl
 rw[d0];refine Af (λ(y:Int×Bool×Unit) w g'=>∃(ψ:AD),Sub φ ψ∧y.2.1=g'.1∧vs.length=g'.2.length∧St ψ (Dv r n f g c null us A vs g'.2++F) w) (g:=x) ?_ ?_
 ·refine By hd (λi (y:Int×Bool×Unit) w g'=>y.1=i∧ ∃(ψ:AD),Sub φ ψ∧y.2.1=g'.1∧vs.length=g'.2.length∧St ψ (Dv r n f g c null us A vs g'.2++F) w) rfl ⟨rfl,φ,pK _,rfl,c9,s0⟩ ?_ ?_
  ·rintro _ y w ⟨gr,B1⟩ e ⟨rfl,ψ,le,hg,J,st⟩ U h0 hlt hw;dsimp only at hg J st U;subst hg;refine AF (Ie (cB.mono le) st 2 _ rfl) rfl<|Ad (by rw[nk];exact mW hlt) ?_;have⟨ru,d1,U⟩:=bS U;refine AF (Ie (cB.mono le) st 2 _ rfl) rfl ?_;obtain⟨D1,e0,b1,b2,q1,b3⟩:=(k.k2.mono le).get d1;refine AI _ b1 (Ai b2 ?_);obtain⟨_,_,rfl,rfl,⟨_,_,rfl,⟨u,rfl,ku⟩,rfl⟩⟩:=q1;refine AF (by rw[Aj];exact AG st.sub (b3 1 _ rfl)) rfl ?_;have nu:=ku.length;refine Af (λ(M:Int×Bool×Unit) w g'=>∃(m:AD),Sub ψ m∧M.2.1=g'.1∧vs.length=g'.2.length∧St m (Dv r n f g c null us A vs g'.2++F) w) (g:=e) ?_ ?_
   ·refine By U (λi (M:Int×Bool×Unit) w g'=>M.1=i∧ ∃(m:AD),Sub ψ m∧M.2.1=g'.1∧vs.length=g'.2.length∧St m (Dv r n f g c null us A vs g'.2++F) w) rfl ⟨rfl,ψ,pK _,rfl,J,st⟩ ?_ ?_
    ·rintro _ z w2 ⟨e1,B2⟩ e2 ⟨rfl,ψ2,L,V,o,v⟩ d e3 b4 W;dsimp only at V o v d;subst V;have E:=le.trans L;refine Ad (by rw[nu];exact mW b4) ?_;have⟨s,hs,d⟩:=bS d;have kq:=ku.mono L;have N:∀ {K:Int→T} {P:Bl→AH→Prop} {w':AH} {m:AD} {Γ:List Chk},Sub ψ2 m→St m Γ w'→(K s).wp hM P w'→(nW u.1 λA=>chk (0≤z.1∧z.1< (u.2.1:Nat))<|T.load (.int .i64) (A.add (eE z.1 *1)) K).wp hM P w':=λ{K P w' m Γ} le' st' hK=>NR (a:=.int .i64) kq hs (oN le' st'.sub) hK;refine Af (λ(M:Bool×Unit) w (_:Unit)=>M.1=e2.1∧vs.length=e2.2.length∧ ∃(m:AD),Sub ψ m∧St m (Dv r n f g c null us A vs e2.2++F) w) (g:=()) ?_ ?_
     ·refine N (pK _) v<|mP d rfl (λd=>?_) (λd=>?_)
      ·obtain rfl:=iS d;exact Qw (z.2.1,()) rfl ⟨rfl,o,ψ2,L,v⟩
      ·have⟨b,hb,d⟩:=bS d;have⟨row,O,d⟩:=bS d;have⟨pr,d2,d⟩:=bS d;have⟨q,G,d⟩:=bS d;obtain rfl:=iS d;refine FN (Ie (cB.mono E) v) ?_;obtain⟨q1,kt⟩:=kq.cut (Tj kq (lo:=bO .i64 (z.1+1)) (by rw[W];omega) (by rw[W];omega)) (sz:=1) rfl;refine Ai q1 ?_;rw[←W]at hb;refine AK (TE (k.mono E) (kf.mono E) c8 kt v hb) ?_;rintro _ h3 ⟨ψ3,yb,X,rfl,Y⟩;refine⟨(yb,b.2,()),rfl,?_⟩;have a2:=E.trans X;have b5:=L.trans X;have⟨y0,y1,y2⟩:=B9 O;obtain⟨kk,a5⟩:∃k:Nat,bO .i64 (s - nT p)=(k:Int):=⟨_,(oV y0).symm⟩;rw[a5]at O G ⊢;rw[oF];have hB:=SO O;have b6:kk<vs.length:=by rw[o];exact(nY.1 hB).1
       have hu:vs[kk]? =some vs[kk]:=bD b6;have Q:∀ {K:Slc→T} {P:Bl→AH→Prop} {w':AH} {m:AD} {Γ:List Chk},Sub ψ3 m→St m Γ w'→(K vs[kk]).wp hM P w'→(nW g.1 λA=>chk (0≤(kk:Int)∧(kk:Int) < (g.2.1:Nat))<|T.load .slice (A.add (eE (kk:Int) *1)) K).wp hM P w':=λ{K P w' m Γ} le' st' hK=>by
        obtain⟨D2,d3,a6,a7,r2,a8⟩:=(kg.mono (a2.trans le')).get (i:=(kk:Int)) (by rw[CD];exact hu);refine AI _ a6 (Ai a7 ?_);obtain rfl:=r2;exact AF (AG st'.sub (a8 0 _ rfl)) rfl hK
       refine AF (Ev Y.tail (j:=2) rfl) rfl<|N X Y ?_;rw[a5];refine Q (pK _) Y ?_;have⟨rest,hp⟩:=gV (r:=r) (n:=n) (f:=f) (g:=g) (c:=c) (null:=null) (us:=us) (A:=A) hu hB;refine AK (Ci (Y.perm ((oD _ (hp F).1).trans (oR _ _ _))) d2) ?_;rintro _ d4 ⟨Z,gw,C,I,rfl,b7,b8⟩;refine⟨gw,rfl,?_⟩;obtain rfl:(gw,C)=pr:=b7;have a3:St Z (Dv r n f g c null us A vs (B2.set kk C) ++F) d4:=b8.tail.perm ((hp F).2 C).symm;have a4:=a2.trans I;have a0:=b5.trans I;have b9:(B2.set kk C)[kk]? =some C:=by rw[qJ];rw[←o];exact b6
       refine AY (λ(M:Bool×Unit) w (_:Unit)=>M=(z.2.1 || gw,())∧St Z (Dv r n f g c null us A vs (B2.set kk C) ++F) w) (g:=()) ?_ ?_
       ·cases hz:z.2.1
        ·exact AW rfl (lG rfl ⟨rfl,a3⟩)
        ·exact Ad rfl (lG rfl ⟨rfl,a3⟩)
       ·rintro _ h4 ⟨rfl,l⟩;refine AY (λ(M:Bool×Bool×Unit) w (_:Unit)=>M.1=(z.2.1 || gw || q.1)∧ ∃m,Sub ψ m∧St m (Dv r n f g c null us A vs (B2.set kk q.2) ++F) w) (g:=()) ?_ ?_
        ·refine mP G rfl (λG=>?_) (λG=>?_)
         ·have⟨c0,D,G⟩:=bS G;have⟨x0,x1,x2⟩:=B9 D;obtain⟨k3,c1⟩:∃k:Nat,bO .i64 (ru.1 - nT p)=(k:Int):=⟨_,(oV x0).symm⟩;rw[c1]at D G;have c2:=SO D;have c3:k3<vs.length:=by rw[o];exact(nY.1 c2).1
          have c4:vs[k3]? =some vs[k3]:=bD c3;refine AF (Ev l (j:=2) rfl) rfl<|N (X.trans I) l ?_;rw[a5];refine Q I l<|AF (Ev l (j:=2) rfl) rfl<|AF (Ie (cB.mono a4) l 2 _ rfl) rfl<|AI _ b1 (Ai b2 ?_);refine AF (AG l.sub ((Ar a0) (b3 0 _ rfl))) rfl ?_;rw[c1];obtain⟨D2,d3,a6,a7,r2,a8⟩:=(kg.mono a4).get (i:=(k3:Int)) (by rw[CD];exact c4);refine AI _ a6 (Ai a7 ?_);obtain rfl:=r2;refine AF (AG l.sub (a8 0 _ rfl)) rfl ?_;by_cases U:kk=k3
          ·subst U;rw[mW rfl]at G;have⟨c5,G⟩:=CG G;obtain rfl:=iS G;have⟨a9,R⟩:=gV (r:=r) (n:=n) (f:=f) (g:=g) (c:=c) (null:=null) (us:=us) (A:=A) hu b9;refine AK (bP (l.perm (R F).1) c5) ?_;rintro _ h5 ⟨rfl,S⟩;exact⟨false,rfl,orT (lG rfl ⟨rfl,Z,a0,S.perm (R F).1.symm⟩)⟩
          ·rw[mV (λe=>U nJ)]at G;have c6:(B2.set kk C)[k3]? =some c0:=by rw[pM U];exact c2
           have⟨a9,R⟩:=ig (r:=r) (n:=n) (f:=f) (g:=g) (c:=c) (null:=null) (us:=us) (A:=A) U hu b9 c4 c6;refine AK (Ci (l.perm (R F).1) G) ?_;rintro _ h5 ⟨ψ5,c7,l5,b0,rfl,d5,S⟩;refine⟨c7,rfl,?_⟩;obtain rfl:(c7,l5)=q:=d5;have a1:=(S.perm (oR _ _ _)).perm ((R F).2 l5).symm;rw[List.set_set]at a1;exact orT (lG rfl ⟨rfl,ψ5,a0.trans b0,a1⟩)
         ·obtain rfl:=iS G;exact lG rfl ⟨nP,Z,a0,l⟩
        ·rintro M h5 ⟨d6,ψ5,b0,S⟩;exact lJ rfl ⟨d6,by rw[pI];exact o,ψ5,b0,S⟩
     ·rintro M h6 ⟨d7,d8,ψ6,d9,a1⟩;exact lH rfl rfl ⟨W,ψ6,d9,d7,d8,a1⟩
    ·rintro _ z w2 ⟨rfl,H⟩ hge;refine AW (by rw[nu];exact mV (qM.2 hge))<|AJ (lI rfl H)
   ·rintro z w2 ⟨ψ2,L,V,o,v⟩;exact lH rfl rfl ⟨hw,ψ2,le.trans L,V,o,v⟩
  ·rintro _ y w ⟨rfl,ψ,le,hg,J,st⟩ hge;refine AF (Ie (cB.mono le) st 2 _ rfl) rfl<|AW (by rw[nk];exact mV (qM.2 hge))<|AJ (lI rfl ⟨ψ,le,hg,J,st⟩)
 ·rintro y w ⟨ψ,le,hg,J,st⟩;exact hK ψ y w le hg J st
end
abbrev QN:Type:=List Bool×List (List Bool)×List (List Bool)×Int
noncomputable def PB(p:dtP)(null:List Bool)(b:List (List Bool)):Option QN:=(loop (σ:=Bool×Int×List Bool×List (List Bool)) (β:=Int×List Bool×List (List Bool)) (true,0,null,b) λz=>cond z.1 ((R1 p z.2.2.1 z.2.2.2).bind λr=>some (.next (r.1,bO .i64 (z.2.1+1),r.2))) (some (.done z.2))).bind λz=>(idx b (p.2.1.length:Int)).bind λrow=>(DQ row 0 true).bind λa=>(loop (σ:=Bool×List (List Bool)) (β:=List (List Bool)) (true,b.set p.2.1.length a) λy=>cond y.1 ((PA p z.2.1 z.2.2 y.2).bind λr=>some (.next r)) (some (.done y.2))).bind λc=>some (z.2.1,z.2.2,c,z.1)
noncomputable def R4(p:dtP):Option QN:=(EC (bO .i64 ((p.2.1.length:Int)+1)) false).bind λnull=>(Cp p).bind λa=>PB p null a
abbrev bQ:Ro QN:=rT (oH oI) (rT (oH (oH oI)) (rT (oH (oH oI)) (oE .i64)))
section
variable {φ ψ φ0:AD}{h:AH}{F:List Chk}{t:Slc×Slc×Slc×Slc×Slc×Slc×Unit}{p:dtP}{r r1:Nat}{n f g:Slc}{us vs:List Slc}
theorem Yd{null:List Bool}{G:List (List Bool)}{P:Bl→AH→Prop}(Z:Cv φ (lF r1) (plV t))(k:PlK φ t p)(kf:mE qN φ f us)(kg:mE qN φ g vs)(a0:us.length=G.length)(O:vs.length=G.length)
 (s0:St φ (Dv r n f g 0 null us G vs G++F) h) {x:QN} (hd:PB p null G=some x)
 (hK:∀ψ y h',Sub φ ψ→Pt bQ ψ y x→St ψ F h'→P (.ret (.pointer y)) h'):
 (Px r1 r).wp hM P h:=by
 unfold Px;unfold PB at hd;have⟨z1,a1,hd⟩:=bS hd;have⟨row,Q,hd⟩:=bS hd;obtain⟨R,C,hd⟩:=bS hd;have⟨fo,S,hd⟩:=bS hd;obtain rfl:=iS hd;have n1:t.2.1.2.1=p.2.1.length:=k.k1.length;refine AF (Ie Z s0 0 _ rfl) rfl<|Af (λ(y:Bool×Unit) w (z:Int×List Bool×List (List Bool))=>∃(ψ:AD),Sub φ ψ∧us.length=z.2.2.length∧St ψ (Dv r n f g z.1 z.2.1 us z.2.2 vs G++F) w) (g:=z1) ?_ ?_
 ·refine Bx a1 (λ(y:Bool×Unit) w (z:Bool×Int×List Bool×List (List Bool))=>y.1=z.1∧ ∃(ψ:AD),Sub φ ψ∧us.length=z.2.2.2.length∧St ψ (Dv r n f g z.2.1 z.2.2.1 us z.2.2.2 vs G++F) w) rfl ⟨rfl,φ,pK _,a0,s0⟩ ?_;rintro y w ⟨mo,c,M,A⟩ e ⟨T,ψ,le,H,st⟩ d hb;dsimp only at T H st d;refine mP d T (λd=>?_) (λd=>?_)
  ·have⟨ro,J,d⟩:=bS d;obtain rfl:=iS d;have⟨rest,N⟩:=ic (r:=r) (n:=n) (f:=f) (g:=g) (null:=M) (us:=us) (A:=A) (vs:=vs) (B:=G) c;refine AA (b:=r) (j:=3) (x:=c) (st.perm (N c F)) rfl<|Cr (b:=r) (j:=3) (v:=.int .i64 (bO .i64 (c+1))) (st.perm (N c F)) rfl nP ?_;intro U q;have D:St ψ (Dv r n f g (bO .i64 (c+1)) M us A vs G++F) U:=q.perm (N _ F).symm;refine Wk (Z.mono le) (k.mono le) (kf.mono le) H D J ?_;intro V y4 h4 m K L o;exact lH rfl rfl ⟨K,V,le.trans m,L,o⟩
  ·obtain rfl:=iS d;obtain rfl:=hb _ rfl;exact AJ (lI rfl ⟨ψ,le,H,st⟩)
 ·rintro y w ⟨ψ,le,H,st⟩;obtain⟨c,M,A⟩:=z1;dsimp only at H st S;refine AF (Ev st (j:=2) rfl) rfl<|AF (Ie (Z.mono le) st 1 _ rfl) rfl ?_;rw[n1];have hB:=SO Q;have a2:p.2.1.length<vs.length:=by rw[O];exact(nY.1 hB).1
  have hu:vs[p.2.1.length]? =some vs[p.2.1.length]:=bD a2;obtain⟨D2,b0,a3,a4,r2,a5⟩:=(kg.mono le).get (i:=(p.2.1.length:Int)) (by rw[CD];exact hu);refine AI _ a3 (Ai a4 ?_);obtain rfl:=r2;refine AF (AG st.sub (a5 0 _ rfl)) rfl ?_;have⟨rest,N⟩:=gV (r:=r) (n:=n) (f:=f) (g:=g) (c:=c) (null:=M) (us:=us) (A:=A) hu hB;have q:=st.perm (N F).1;have⟨D4,W,q4⟩:=St.there q C;refine AI _ W (Ai q4 (FH q C rfl W ?_));intro h3 D;have o:=D.perm ((N F).2 R).symm;refine Af (λ(y:Bool×Unit) w (z:List (List Bool))=>∃(ψ:AD),Sub φ ψ∧vs.length=z.length∧St ψ (Dv r n f g c M us A vs z++F) w) (g:=fo) ?_ ?_
  ·refine Bx S (λ(y:Bool×Unit) w (z:Bool×List (List Bool))=>y.1=z.1∧ ∃(ψ:AD),Sub φ ψ∧vs.length=z.2.length∧St ψ (Dv r n f g c M us A vs z.2++F) w) rfl ⟨rfl,ψ,le,by rw[pI];exact O,o⟩ ?_;rintro y w ⟨mo,B⟩ e ⟨T,ψ,le,s,st⟩ d hb;dsimp only at T s st d;refine mP d T (λd=>?_) (λd=>?_)
   ·have⟨ro,J,d⟩:=bS d;obtain rfl:=iS d;refine VW (Z.mono le) (k.mono le) (kf.mono le) (kg.mono le) H s st J ?_;intro V y4 h4 m K L o;exact lH rfl rfl ⟨K,V,le.trans m,L,o⟩
   ·obtain rfl:=iS d;obtain rfl:=hb _ rfl;exact AJ (lI rfl ⟨ψ,le,s,st⟩)
  ·rintro y w ⟨ψ,le,s,st⟩;have⟨ψ1,a6,kn,a7⟩:=oA (t:=n) st;have q:St ψ1 (rB us A++(rB vs fo++(⟨qY 207,[.pointer (lF r)],[sv n,sv f,sv g,.int .i64 c]⟩::F))) w:=by
    have e:∀(a b:List Chk) (x:Chk),(a++(b++ [x])) ++F=a++(b++(x::F)):=λa b x=>by simp[pS]
    rw[←e];exact a7
   have⟨ψ2,a8,kA,D⟩:=St.freezeRows H q;have⟨ψ3,X,kB,o⟩:=St.freezeRows s D;have⟨V,m,kC,a9⟩:=rU o;have I:=(a8.trans X).trans m;have Y:=X.trans m;have E:=(le.trans a6).trans I;refine hK V (lF r) w E ⟨_,_,rfl,?_,kC⟩ a9;refine⟨[sv n],[sv f,sv g,.int .i64 c],rfl,⟨n,rfl,kn.mono I⟩,[sv f],[sv g,.int .i64 c],rfl,⟨f,rfl,?_⟩,[sv g],[.int .i64 c],rfl,⟨g,rfl,?_⟩,rfl⟩
   ·exact KA H (λi u l h1 U=>(kA i u l h1 U).mono Y) (kf.mono E)
   ·exact KA s (λi u l h1 U=>(kB i u l h1 U).mono m) (kg.mono E)
theorem bR(r:Cv φ (lF r1) (plV t))(k:PlK φ t p)(i:Sub φ0 φ){null:List Bool}{a:List (List Bool)}(s:mE qN φ f us)(u:mE qN φ g vs)(j:us.length=a.length)(o:vs.length=a.length){x:QN}(hd:PB p null a=some x)
 (w:St φ (cR 4 oI n null::(rB us a++(rB vs a++F))) h):
 (T.new (.cells #[.slice n.1 n.2.1 n.2.2,.slice f.1 f.2.1 f.2.2,.slice g.1 g.2.1 g.2.2,.int .i64 (0:Int)] 207 (0,0)) λc=>Px r1 c).wp hM (NP (An λv q=>∃ψ:AD,∃y:nG,∃l:QN,Sub φ0 ψ∧v=lR.val y∧l=x∧Pt bQ ψ y l∧St ψ F q)) h:=by
 refine AU (vs:=[sv n,sv f,sv g,.int .i64 0]) w ?_;intro c A z;have e:∀(b d:List Chk) (x m:Chk),(x::m::(b++(d++F))).Perm ((m::(b++(d++ [x]))) ++F):=λb d x m=>by
  have:(m::(b++(d++ [x]))) ++F=(m::(b++d)) ++(x::F):=by simp[pS]
  rw[this];refine List.Perm.trans ?_ List.perm_middle.symm;simp[pS]
 refine Yd (n:=n) (f:=f) (g:=g) r k s u j o (z.perm (e _ _ _ _)) hd ?_;intro ψ y q le pt st;exact AC ⟨ψ,y,x,i.trans le,rfl,rfl,pt,st⟩
end
section
variable {t:Int}
def Hs(l:List Bool)(t:Int):Prop:=0≤t∧l[t.toNat]? =some true
def Hr(ls:List (List Bool))(k:Nat)(t:Int):Prop:= ∃l,ls[k]? =some l∧Hs l t
def fz(l:List Bool):Nat:=l.countP λb=> !b
def fzs(ls:List (List Bool)):Nat:=(ls.map fz).sum
theorem bT{l:List Bool}{k:Nat}(h:l[k]? =some false):fz (l.set k true)+1=fz l:=Hd h
theorem Xj:∀ {ls:List (List Bool)}{k:Nat}{a b:List Bool},ls[k]? =some a→fzs (ls.set k b)+fz a=fzs ls+fz b:=by
 intro ls
 induction ls with
 |nil=>intro k a b h;simp at h
 |cons x ls c=>
  intro k a b h;cases k with
  |zero=>
   obtain rfl:x=a:=by simpa using h
   simp only[List.set_cons_zero,fzs,List.map_cons,List.sum_cons];omega
  |succ k=>
   have:=c (k:=k) (a:=a) (b:=b) (by simpa using h)
   simp only[fzs]at this;simp only[List.set_cons_succ,fzs,List.map_cons,List.sum_cons];omega
theorem Wl{l:List Bool}{k:Nat}(h:Hs l t):Hs (l.set k true) t:=by
 refine⟨h.1,?_⟩;rw[pJ];split
 ·next e=>subst e;rw[mZ (nY.1 h.2).1]
 ·exact h.2
theorem UH{l:List Bool}(a:0≤t)(b:t< (l.length:Int)):Hs (l.set t.toNat true) t:=by refine⟨a,?_⟩;rw[pJ,mZ rfl,mZ nJ]
theorem fC{l:List Bool}{k:Nat}(h:Hs (l.set k true) t):Hs l t∨t.toNat=k:=by
 obtain⟨b,a⟩:=h;by_cases e:k=t.toNat
 ·exact .inr e.symm
 ·rw[pM e]at a;exact .inl ⟨b,a⟩
theorem UI{a b:List Bool}(h:a.length=b.length)(H:b.length≤1000000):Ok (Ax a b) λr=>r.2.length=a.length∧(∀t,Hs a t∨Hs b t→Hs r.2 t)∧fz r.2≤fz a∧(r.1=true→fz r.2<fz a)∧(r.1=false→r.2=a)∧ ∀t,Hs r.2 t→Hs a t∨Hs b t:=by
 unfold Ax;refine BK (λj (z:Bool×List Bool)=>z.2.length=a.length∧(∀t,Hs a t→Hs z.2 t)∧(∀t,t< (j:Int)→Hs b t→Hs z.2 t)∧fz z.2≤fz a∧(z.1=true→fz z.2<fz a)∧(z.1=false→z.2=a)∧ ∀t,Hs z.2 t→Hs a t∨Hs b t) nJ ⟨rfl,λt d=>d,λt B g=>by have:=g.1;omega,oW _,(λe=>by cases e),λ_=>rfl,λt h=>.inl h⟩ (λj z D p=>?_) λz p=>?_
 ·obtain⟨i,k,m,q,s,u,n⟩:=p;have o:=bD D;obtain⟨x,E⟩:∃x,b[j] =x:=⟨_,rfl⟩;rw[E]at o;have v:j<z.2.length:=nJ
  have f:=bD v;obtain⟨y,F⟩:∃y,z.2[j] =y:=⟨_,rfl⟩;rw[F]at f;refine AM (Q:=λc=>c=(x && !y)) (AS o ?_) λc C=>?_
  ·cases x
   ·exact AZ rfl (AB rfl)
   ·exact Ay rfl (AS f (AB rfl))
  refine AM (Q:=λ(e:Bool×List Bool)=>e=if(x && !y)=true then(true,z.2.set j true) else z) ?_ λe G=>AB ?_
  ·refine AR (λh=>?_) λh=>?_
   ·rw[C]at h;rw[mZ h];refine Ex nJ nJ (AB ?_);rw[oF]
   ·rw[C]at h;rw[nA (by rw[h];simp)];exact AB rfl
  ·subst G;split
   ·next hxy=>
    rw[Bool.and_eq_true]at hxy;obtain⟨rfl,w⟩:=hxy;obtain rfl:y=false:=by simpa using w
    have I:=bT f;refine⟨by simp[i],λt d=>Wl (k t d),λt B g=>?_,nO,λ_=>nO,(λe=>by cases e),λt h=>?_⟩
    rotate_right
    ·rcases fC h with h | e
     ·exact n t h
     ·exact .inr ⟨h.1,by rw[e];exact o⟩
    by_cases e:t=(j:Int)
    ·subst e
     have:=UH (l:=z.2) (t:=(j:Int)) nJ nJ
     rwa [oF]at this
    ·exact Wl (m t nJ g)
   ·next hxy=>
    refine⟨i,k,λt B g=>?_,q,s,u,n⟩;by_cases e:t=(j:Int)
    ·subst e;have A:=g.2;rw[oF,o]at A;obtain rfl:x=true:=by simpa using A
     refine⟨nJ,?_⟩;rw[oF,f];cases y
     ·simp at hxy
     ·rfl
    ·exact m t nJ g
 ·obtain⟨i,k,m,q,s,u,n⟩:=p;refine AB ⟨i,λt d=>?_,q,s,u,n⟩;rcases d with d | d
  ·exact k t d
  ·have A:=(nY.1 d.2).1
   have:=d.1
   exact m t nJ d
theorem PC{α:Type}{n:Int}{x:α}(a:0≤n)(b:n≤1073741824):EC n x=some (qU n.toNat x):=mZ ⟨a,b⟩
def Bg(nt:Int)(null:List Bool)(first:List (List Bool)):nH→Int→Prop
 | [],_=>False
 |s::l,t=>if s<nt then t=s else Hr first (s - nt).toNat t∨(null[(s - nt).toNat]? =some true∧Bg nt null first l t)
def Bn(nt:Int)(null:List Bool):nH→Prop
 | [] =>True
 |s::l=>nt≤s∧null[(s - nt).toNat]? =some true∧Bn nt null l
structure ShT (N m:Nat) (null:List Bool) (first:List (List Bool)):Prop where
 n:null.length=m
 f:first.length=m
 w:∀l∈first,l.length=N
theorem R5{N m:Nat}{null:List Bool}{first:List (List Bool)}(S:ShT N m null first)(T:N≤1000)(U:m≤1001){seq:nH}(J:∀s∈seq,0≤s∧s< (N:Int)+(m:Int))(V:seq.length≤1000):
 Ok (ML (N:Int) null first seq) λr=>r.1.length=N∧(∀t,Hs r.1 t↔Bg (N:Int) null first seq t)∧(r.2=true↔Bn (N:Int) null seq):=by
 unfold ML;refine AO (PC nJ nJ) ?_;rw[oF];refine Gs (λj (a:List Bool)=>a.length=N∧(∀t,Bg (N:Int) null first seq t↔Hs a t∨Bg (N:Int) null first (seq.drop j) t)∧(Bn (N:Int) null seq↔Bn (N:Int) null (seq.drop j))) (λ(r:List Bool×Bool)=>r.1.length=N∧(∀t,Hs r.1 t↔Bg (N:Int) null first seq t)∧r.2=false∧ ¬Bn (N:Int) null seq) nJ ⟨nP,λt=>⟨.inr,λh=>h.elim (λh=>?_) id⟩,Iff.rfl⟩ (λj a K D=>?_) (λa D=>?_) λb o=>?_
 ·have:=oB h.2
  simp at this
 ·obtain⟨E,p,q⟩:=D;have z:=bD K;obtain⟨s,F⟩:∃s,seq[j] =s:=⟨_,rfl⟩;rw[F]at z;have⟨G,W⟩:=J s (oB z);have hd:=Oq z;refine AS z ?_;by_cases d:s< (N:Int)
  ·have e:∀t,Bg (N:Int) null first (seq.drop j) t↔t=s:=λt=>by rw[hd];unfold Bg;rw[mZ d]
   refine Ay (by rw[mW G,mW d];rfl) (Ex G nJ (BB ⟨by simp[E],λt=>?_,rfl,λA=>?_⟩))
   ·rw[p,e];constructor
    ·intro h;rcases fC h with g | g
     ·exact .inl g
     ·have:=h.1;exact .inr nJ
    ·rintro(h | rfl)
     ·exact Wl h
     ·exact UH G nJ
   ·have:=q.1 A
    rw[hd]at this
    have:=this.1
    omega
  ·refine AZ (by rw[mV d,Bool.and_false]) ?_;have L:bO .i64 (s - (N:Int))=s - (N:Int):=w64 nJ nJ;rw[L];have B:(s - (N:Int)).toNat<m:=nJ
   have c:=bD (l:=first) (i:=(s - (N:Int)).toNat) (by rw[S.f];exact B);have k:=bD (l:=null) (i:=(s - (N:Int)).toNat) (by rw[S.n];exact B);have H:=S.w _ (oB c);obtain⟨row,u⟩:∃row,first[(s - (N:Int)).toNat]'(by rw[S.f];exact B)=row:=⟨_,rfl⟩;obtain⟨C,v⟩:∃C,null[(s - (N:Int)).toNat]'(by rw[S.n];exact B)=C:=⟨_,rfl⟩;rw[u]at c H;rw[v]at k;have M:=S.n;have e:∀t,Bg (N:Int) null first (seq.drop j) t↔Hs row t∨(C=true∧Bg (N:Int) null first (seq.drop (j+1)) t):=λt=>by
    rw[hd]
    conv=>lhs;unfold Bg
    rw[nA d,k];refine or_congr ⟨λ⟨l,I,O⟩=>?_,λh=>⟨row,c,h⟩⟩ (and_congr ⟨λh=>by cases h;rfl,λh=>by rw[h]⟩ Iff.rfl);rw[c]at I;cases I;exact O
   have x:Bn (N:Int) null (seq.drop j)↔C=true∧Bn (N:Int) null (seq.drop (j+1)):=by
    rw[hd]
    conv=>lhs;unfold Bn
    rw[k];exact⟨λh=>⟨by simpa using h.2.1,h.2.2⟩,λh=>⟨nJ,by rw[h.1],h.2⟩⟩
   refine AZ (by rw[mV nJ,mV nJ];rfl) (Cx nJ c (AM (UI nJ nJ) λr P=>Cx nJ k ?_));obtain⟨r1,Q,_,_,_,R⟩:=P;have y:∀t,Hs r.2 t↔Hs a t∨Hs row t:=λt=>⟨R t,Q t⟩;refine AR (λo=>?_) λo=>?_
   ·subst o;refine Bd ⟨nJ,λt=>?_,?_⟩
    ·rw[p,e,y,or_assoc];simp
    ·rw[q,x];simp
   ·subst o;refine BB ⟨nO,λt=>?_,rfl,λA=>?_⟩
    ·rw[p,e];dsimp only;rw[y];simp
    ·rw[q,x]at A;exact Bool.false_ne_true A.1
 ·obtain⟨E,p,q⟩:=D;rw[List.drop_of_length_le (oW _)]at p q;exact AB ⟨E,λt=>by rw[p];unfold Bg;simp,λ_=>q.2 trivial,λ_=>rfl⟩
 ·exact AB ⟨o.1,o.2.1,Iff.intro (λh=>by rw[o.2.2.1]at h;cases h) λh=>(o.2.2.2 h).elim⟩
structure Sd (nt:Int) (R:Rl) (null:List Bool) (first:List (List Bool)):Prop where
 n:∀k:Nat,null[k]? =some true→Nul R (nt+(k:Int))
 f:∀(k:Nat) t,Hr first k t→Fs nt R [nt+(k:Int)] t
theorem bU{nt:Int}{R:Rl}{l:nH}(h:Fs nt R l t)(m:nH):Fs nt R (l++m) t:=by
 induction h with
 |term h=>exact .term h
 |var a b c _=>exact .var a b c
 |skip a _ d=>exact .skip a d
theorem Sd.nul{nt:Int}{R:Rl}{null:List Bool}{first:List (List Bool)}(D:Sd nt R null first):∀ {l:nH},Bn nt null l→ ∀s∈l,Nul R s:=by
 intro l
 induction l with
 |nil=>intro _ s h;cases h
 |cons a l b=>
  rintro⟨e,c,d⟩ s hs;rcases qO.1 hs with rfl | hs
  ·have:=D.n _ c
   rwa [show nt+((s - nt).toNat:Int)=s by omega]at this
  ·exact b d s hs
theorem Sd.fst{nt:Int}{R:Rl}{null:List Bool}{first:List (List Bool)}(D:Sd nt R null first):∀ {l:nH},Bg nt null first l t→Fs nt R l t:=by
 intro l
 induction l with
 |nil=>intro h;exact h.elim
 |cons a l b=>
  intro h;unfold Bg at h;split at h
  ·next hs=>subst h;exact .term hs
  ·next hs=>
   rcases h with h | ⟨c,d⟩
   ·have:=D.f _ t h
    rw[show nt+((a - nt).toNat:Int)=a by omega]at this;exact bU this l
   ·have:=D.n _ c
    rw[show nt+((a - nt).toNat:Int)=a by omega]at this;exact .skip this (b d)
end
section
variable {p:dtP}
theorem bV{α:Type}{o:Option α}{P:α→Prop}(h:Ok (o.bind some) P):Ok o P:=by cases o<;>exact h
def Cl1(p:dtP)(null:List Bool)(first:List (List Bool))(a:Ap):Prop:=
 (∀t,Bg (nT p) null first a.2.1 t→Hr first (a.1 - nT p).toNat t)∧(Bn (nT p) null a.2.1→null[(a.1 - nT p).toNat]? =some true)
def Cl2(p:dtP)(null:List Bool)(first a:List (List Bool))(b:Ap)(j:Nat):Prop:=
 ∀s,b.2.1[j]? =some s→nT p≤s→(∀t,Bg (nT p) null first (b.2.1.drop (j+1)) t→Hr a (s - nT p).toNat t)∧(Bn (nT p) null (b.2.1.drop (j+1))→ ∀t,Hr a (b.1 - nT p).toNat t→Hr a (s - nT p).toNat t)
def UJ(null:List Bool)(first:List (List Bool)):Nat:=fz null+fzs first
theorem gW{N m:Nat}{null a:List Bool}{first:List (List Bool)}(S:ShT N m null first){k:Nat}{l:List Bool}(b:l.length=N)(c:a.length=null.length):ShT N m a (first.set k l):=
 ⟨c.trans S.n,by rw[pI];exact S.f,λx d=>by
  rcases pX d with h | rfl
  ·exact S.w x h
  ·exact b⟩
theorem Wm(H:Sy p){null:List Bool}{first:List (List Bool)}(S:ShT p.1.length (p.2.1.length+1) null first)(D:Sd (nT p) p.2.2.1 null first):
 Ok (R1 p null first) λr=>(ShT p.1.length (p.2.1.length+1) r.2.1 r.2.2∧Sd (nT p) p.2.2.1 r.2.1 r.2.2)∧(r.1=true→UJ r.2.1 r.2.2<UJ null first)∧(r.1=false→r.2=(null,first)∧ ∀c∈p.2.2.1,Cl1 p null first c):=by
 unfold R1;have hT:=H.t1;have hV:=H.v1;have hF:=H.few;refine bV (BK (λj (z:Bool×List Bool×List (List Bool))=>(ShT p.1.length (p.2.1.length+1) z.2.1 z.2.2∧Sd (nT p) p.2.2.1 z.2.1 z.2.2)∧UJ z.2.1 z.2.2≤UJ null first∧(z.1=true→UJ z.2.1 z.2.2<UJ null first)∧(z.1=false→z.2=(null,first)∧ ∀(i:Nat) c,i<j→p.2.2.1[i]? =some c→Cl1 p null first c))
  nJ ⟨⟨S,D⟩,oW _,(λe=>by cases e),λ_=>⟨rfl,λi c o=>nJ⟩⟩ (λj z Z hz=>?_) λx u=>AB ⟨u.1,u.2.2.1,λe=>⟨(u.2.2.2 e).1,λc A=>?_⟩⟩)
 ·obtain⟨⟨y,B⟩,U,V,z4⟩:=hz;have L:=bD Z;obtain⟨c,A⟩:∃c,p.2.2.1[j] =c:=⟨_,rfl⟩;rw[A]at L;have d:=oB L;have⟨l0,l1⟩:=H.left c d;have M:nT p=(p.1.length:Int):=rfl;refine AS L (AM (R5 y nJ nJ (λs hs=>?_) (H.short c d)) λb hb=>?_)
  ·have:=H.right c d s hs
   rw[M]at this;omega
  obtain⟨b1,N,O⟩:=hb;have hw:bO .i64 (c.1 - nT p)=c.1 - nT p:=w64 nJ nJ;rw[hw];obtain⟨k,W⟩:∃k:Nat,c.1 - nT p=(k:Int):=⟨_,(oV nJ).symm⟩;have v:k<p.2.1.length+1:=nJ
  rw[W,oF];have a:=bD (l:=z.2.2) (i:=k) (by rw[y.f];exact v);have m:=bD (l:=z.2.1) (i:=k) (by rw[y.n];exact v);have E:=y.w _ (oB a);obtain⟨row,F⟩:∃row,z.2.2[k]'(by rw[y.f];exact v)=row:=⟨_,rfl⟩;obtain⟨q,G⟩:∃q,z.2.1[k]'(by rw[y.n];exact v)=q:=⟨_,rfl⟩;rw[F]at a E;rw[G]at m;have a0:=y.n;refine AS a (AM (UI nJ nJ) λr hr=>AS m (Ex nJ nJ (AB ?_)));obtain⟨r1,r2,r3,r4,r5,r6⟩:=hr;rw[oF];have a1:=Xj (b:=r.2) a;have I:fz (z.2.1.set k (q || b.2)) ≤fz z.2.1∧((b.2 && !q)=true→fz (z.2.1.set k (q || b.2)) <fz z.2.1)∧((b.2 && !q)=false→z.2.1.set k (q || b.2)=z.2.1):=by
   cases q with
   |true=>
    rw[Bool.true_or,Hg m];exact⟨oW _,λh=>by simp at h,λ_=>rfl⟩
   |false=>
    cases a2:b.2 with
    |true=>
     have:=bT m
     rw[qZ];exact⟨nJ,λ_=>nJ,λh=>by simp at h⟩
    |false=>
     rw[qZ,Hg m];exact⟨oW _,λh=>by simp at h,λ_=>rfl⟩
  have J:c.1=nT p+(k:Int):=nJ
  refine⟨⟨gW y (r1.trans E) nP,λi o=>?_,λi t o=>?_⟩,?_,?_,?_⟩
  ·by_cases e:k=i
   ·subst e;rw[qJ nJ]at o;cases q with
    |true=>exact B.n k m
    |false=>
     rw[←J];exact .rule d (B.nul (O.1 (by simpa using o)))
   ·dsimp only at o;rw[pM e]at o;exact B.n i o
  ·obtain⟨l,C,X⟩:=o;by_cases e:k=i
   ·subst e;dsimp only at C;rw[qJ (nY.1 a).1]at C;cases C;rcases r6 t X with g | g
    ·exact B.f k t ⟨row,a,g⟩
    ·exact .var d J (B.fst ((N t).1 g))
   ·dsimp only at C;rw[pM e]at C;exact B.f i t ⟨l,C,X⟩
  ·unfold UJ at U ⊢;dsimp only;omega
  ·dsimp only;intro e;unfold UJ at U V ⊢;rcases qP _ _ |>.mp e with e | e
   ·rcases qP _ _ |>.mp e with e | e
    ·have:=V e
     omega
    ·have:=r4 e
     omega
   ·have:=I.2.1 e
    omega
  ·dsimp only;intro e;rw[pV,pV]at e;obtain⟨⟨e1,e2⟩,P⟩:=e;have⟨Q,g2⟩:=z4 e1;have K:=r5 e2;rw[K,Hg a,I.2.2 P];refine⟨Q,λi R o T=>?_⟩;rcases oU.1 o with h | rfl
   ·exact g2 i R h T
   ·rw[L]at T;cases T;have Y:z.2.1=null:=nB Prod.fst Q;have gf:z.2.2=first:=nB Prod.snd Q;rw[Y,gf]at N;rw[Y]at O m;rw[gf]at a;unfold Cl1;rw[W,oF];refine⟨λt ht=>⟨row,a,?_⟩,λhn=>?_⟩
    ·have:=r2 t (.inr ((N t).2 ht))
     rwa [K]at this
    ·have:=O.2 hn
     rw[this]at P;rw[m];cases q
     ·simp at P
     ·rfl
 ·obtain⟨i,o⟩:=pD A;exact(u.2.2.2 e).2 i c (nY.1 o).1 o
end
section
variable {p:dtP}
structure Iw (p:dtP) (follow:List (List Bool)) (C:Prop) (z:Bool×List (List Bool)):Prop where
 f:z.2.length=p.2.1.length+1
 w:∀l∈z.2,l.length=p.1.length
 up:∀k t,Hr follow k t→Hr z.2 k t
 le:fzs z.2≤fzs follow
 lt:z.1=true→fzs z.2<fzs follow
 eq:z.1=false→z.2=follow∧C
theorem gX{ls:List (List Bool)}{k:Nat}{a b:List Bool}(h:ls[k]? =some a)(c:∀t,Hs a t→Hs b t){i:Nat}{t:Int}(H:Hr ls i t):Hr (ls.set k b) i t:=by
 obtain⟨l,d,f⟩:=H;by_cases e:k=i
 ·subst e;rw[h]at d;cases d;exact⟨b,by rw[pJ,mZ rfl,mZ (nY.1 h).1],c t f⟩
 ·exact⟨l,by rw[pM e];exact d,f⟩
theorem VX(H:Sy p){null:List Bool}{first a:List (List Bool)}(S:ShT p.1.length (p.2.1.length+1) null first)(hf:a.length=p.2.1.length+1)(hw:∀l∈a,l.length=p.1.length):
 Ok (PA p null first a) (Iw p a (∀c∈p.2.2.1,∀j,Cl2 p null first a c j)):=by
 unfold PA;have hT:=H.t1;have hV:=H.v1;have hF:=H.few;have Z:nT p=(p.1.length:Int):=rfl;refine bV (BK (λi=>Iw p a (∀(B:Nat) c,B<i→p.2.2.1[B]? =some c→ ∀j,Cl2 p null first a c j)) nJ ⟨hf,hw,λ_ _ h=>h,oW _,(λe=>by cases e),λ_=>⟨rfl,λB c L=>nJ⟩⟩ (λi y L D=>?_) λx o=>AB ⟨o.f,o.w,o.up,o.le,o.lt,λe=>⟨(o.eq e).1,λc E=>?_⟩⟩)
 ·have o:=bD L;obtain⟨c,E⟩:∃c,p.2.2.1[i] =c:=⟨_,rfl⟩;rw[E]at o;have u:=oB o;have⟨l0,l1⟩:=H.left c u;have a8:=H.short c u;refine AS o (bV (BK (λj=>Iw p a ((∀(B:Nat) c,B<i→p.2.2.1[B]? =some c→ ∀j,Cl2 p null first a c j)∧ ∀F:Nat,F<j→Cl2 p null first a c F)) nJ ⟨D.f,D.w,D.up,D.le,D.lt,λe=>⟨(D.eq e).1,(D.eq e).2,λF h=>nJ⟩⟩ (λj z hj d=>?_) λx m=>AB ⟨m.f,m.w,m.up,m.le,m.lt,λe=>⟨(m.eq e).1,λB a0 a1 G=>?_⟩⟩))
  ·have v:=bD hj;obtain⟨s,a2⟩:∃s,c.2.1[j] =s:=⟨_,rfl⟩;rw[a2]at v;have⟨s0,s1⟩:=H.right c u s (oB v);refine AS v (AR (λA=>AB ?_) λA=>?_)
   ·have A:=mX A;refine⟨d.f,d.w,d.up,d.le,d.lt,λe=>⟨(d.eq e).1,(d.eq e).2.1,λF h=>?_⟩⟩;rcases oU.1 h with h | rfl
    ·exact(d.eq e).2.2 F h
    ·intro s' M hn;rw[v]at M;cases M;omega
   ·have A:=mY A;have a3:(c.2.1.drop (((j:Nat):Int)+1).toNat)=c.2.1.drop (j+1):=by rw[show(((j:Nat):Int)+1).toNat=j+1 by omega]
    rw[a3];refine AM (R5 S nJ nJ (λx o=>?_) (by rw[List.length_drop];omega)) λb hb=>?_
    ·have:=H.right c u x (List.mem_of_mem_drop o)
     rw[Z]at this;omega
    obtain⟨b1,b2,b3⟩:=hb;have a4:bO .i64 (s - nT p)=s - nT p:=w64 nJ nJ;have a5:bO .i64 (c.1 - nT p)=c.1 - nT p:=w64 nJ nJ;rw[a4,a5];obtain⟨k,hk⟩:∃k:Nat,s - nT p=(k:Int):=⟨_,(oV nJ).symm⟩;obtain⟨N,O⟩:∃k:Nat,c.1 - nT p=(k:Int):=⟨_,(oV nJ).symm⟩;have P:k<p.2.1.length+1:=nJ
    have C:N<p.2.1.length+1:=nJ
    rw[hk,O,oF];have g:=bD (l:=z.2) (i:=k) (by rw[d.f];exact P);have n:=bD (l:=z.2) (i:=N) (by rw[d.f];exact C);have I:=d.w _ (oB g);have R:=d.w _ (oB n);obtain⟨row,T⟩:∃row,z.2[k]'(by rw[d.f];exact P)=row:=⟨_,rfl⟩;obtain⟨U,J⟩:∃row,z.2[N]'(by rw[d.f];exact C)=row:=⟨_,rfl⟩;rw[T]at g I;rw[J]at n R;refine AS g (AM (UI nJ nJ) λr hr=>?_);obtain⟨r1,r2,r3,r4,r5,_⟩:=hr;refine AM (Q:=λ(q:Bool×List Bool)=>q.2.length=p.1.length∧(∀t,Hs r.2 t→Hs q.2 t)∧(b.2=true→k≠N→ ∀t,Hs U t→Hs q.2 t)∧fz q.2≤fz r.2∧(q.1=true→fz q.2<fz r.2)∧(q.1=false→q.2=r.2)) ?_ λq hq=>AB ?_
    ·refine AR (λV=>AS n (AR (λhe=>?_) λhe=>?_)) λV=>AB ⟨r1.trans I,λt h=>h,(λe=>by rw[V]at e;cases e),oW _,(λe=>by cases e),λ_=>rfl⟩
     ·have he:=mX he;exact Bu nJ (AB ⟨r1.trans I,λt h=>h,λ_ a6=>(a6 nJ).elim,oW _,(λe=>by cases e),λ_=>rfl⟩)
     ·refine(UI nJ nJ).mono λq hq=>?_;obtain⟨q1,W,q3,q4,q5,_⟩:=hq;exact⟨nJ,λt h=>W t (.inl h),λ_ _ t h=>W t (.inr h),q3,q4,q5⟩
    obtain⟨q1,W,q3,q4,q5,q6⟩:=hq;have a9:=Xj (b:=q.2) g;have b0:=d.le;refine⟨by rw[pI];exact d.f,λx o=>?_,λk' t h=>gX g (λt h=>W t (r2 t (.inl h))) (d.up k' t h),nO,?_,?_⟩
    ·rcases pX o with h | rfl
     ·exact d.w x h
     ·exact q1
    ·dsimp only;intro e;rcases qP _ _ |>.mp e with e | e
     ·rcases qP _ _ |>.mp e with e | e
      ·have:=d.lt e
       omega
      ·have:=r4 e
       omega
     ·have:=q5 e
      omega
    ·dsimp only;intro e;rw[pV,pV]at e;obtain⟨⟨e1,e2⟩,e3⟩:=e;have⟨g1,g2,g3⟩:=d.eq e1;have h5:=r5 e2;have h6:=(q6 e3).trans h5;rw[h6,Hg g];refine⟨g1,g2,λF h=>?_⟩;rcases oU.1 h with h | rfl
     ·exact g3 F h
     ·intro s' M hn;rw[v]at M;cases M;rw[hk,O,oF,oF];rw[g1]at g n;refine⟨λt ht=>⟨row,g,?_⟩,λa7 t ht=>?_⟩
      ·have:=W t (r2 t (.inr ((b2 t).2 ht)))
       rwa [h6]at this
      ·obtain⟨l,K,X⟩:=ht;by_cases Y:k=N
       ·subst Y;exact⟨l,K,X⟩
       ·rw[n]at K;cases K
        have:=q3 (b3.2 a7) Y t X
        rw[h6]at this;exact⟨row,g,this⟩
  ·rcases oU.1 a1 with h | rfl
   ·exact(m.eq e).2.1 B a0 h G
   ·rw[o]at G;cases G;intro j s h hn;exact(m.eq e).2.2 j (nY.1 h).1 s h hn
 ·obtain⟨i,L⟩:=pD E;exact(o.eq e).2 i c (nY.1 L).1 L
end
section
variable {p:dtP}
theorem bW(H:Sy p):Ok (Cp p) λf=>f.length=p.2.1.length+1∧(∀l∈f,l.length=p.1.length)∧ ∀l∈f,true∉l:=by
 have i:=H.t1;have j:=H.v1;unfold Cp;refine Bz (λ(z:Int×List (List Bool))=>z.1=(z.2.length:Int)∧z.2.length≤p.2.1.length+1∧ ∀l∈z.2,l.length=p.1.length∧true∉l) (λz=>p.2.1.length+1 - z.2.length) (λ(f:List (List Bool))=>f.length=p.2.1.length+1∧ ∀l∈f,l.length=p.1.length∧true∉l) ⟨rfl,nP,λl h=>by cases h⟩ (λz e=>?_) λb c=>AB ⟨c.1,λl a=>(c.2 l a).1,λl a=>(c.2 l a).2⟩;obtain⟨g,k,d⟩:=e;refine AR (λh=>?_) λh=>?_
 ·have h:=mX h;refine AO (PC nJ nJ) (Az nN ⟨_,rfl,.inl ⟨_,rfl,⟨?_,?_,λl a=>?_⟩,?_⟩⟩)
  ·dsimp only;rw[w64 nJ nJ,pQ,g];simp
  ·dsimp only;rw[pQ];simp;omega
  ·rcases pH.1 a with h | h
   ·exact d l h
   ·obtain rfl:l=_:=qC.1 h;simp
  ·dsimp only;rw[pQ];simp;omega
 ·have h:=mY h;exact⟨_,rfl,.inr ⟨_,rfl,nJ,d⟩⟩
structure UK (p:dtP) (null:List Bool) (first:List (List Bool)):Prop where
 sh:ShT p.1.length (p.2.1.length+1) null first
 sd:Sd (nT p) p.2.2.1 null first
 cl:∀ru∈p.2.2.1,Cl1 p null first ru
theorem UK.nul{null:List Bool}{first:List (List Bool)}(X:UK p null first)(H:Sy p){s:Int}(h:Nul p.2.2.1 s):nT p≤s∧null[(s - nT p).toNat]? =some true:=by
 induction h with
 | @rule r c d b=>
  refine⟨(H.left r c).1,(X.cl r c).2 ?_⟩
  have:∀l:nH,(∀s∈l,nT p≤s∧null[(s - nT p).toNat]? =some true)→Bn (nT p) null l:=by
   intro l
   induction l with
   |nil=>intro _;trivial
   |cons a l b=>intro h;exact⟨(h a nP).1,(h a nP).2,b λs e=>h s (pU _ e)⟩
  exact this _ b
theorem UK.bn{null:List Bool}{first:List (List Bool)}(X:UK p null first)(H:Sy p){l:nH}:Bn (nT p) null l↔∀s∈l,Nul p.2.2.1 s:=by
 refine⟨X.sd.nul,?_⟩
 induction l with
 |nil=>intro _;trivial
 |cons a l b=>intro h;exact⟨(X.nul H (h a nP)).1,(X.nul H (h a nP)).2,b λs c=>h s (pU _ c)⟩
theorem UK.bg{null:List Bool}{first:List (List Bool)}(X:UK p null first)(H:Sy p){l:nH}{t:Int}:Bg (nT p) null first l t↔Fs (nT p) p.2.2.1 l t:=by
 refine⟨X.sd.fst,λh=>?_⟩
 induction h with
 |term c=>unfold Bg;rw[mZ c]
 | @var s t l r b d _ a=>
  have g:=(H.left r b).1;unfold Bg;rw[nA nJ,←d];exact .inl ((X.cl r b).1 t a)
 | @skip s t l e _ a=>
  have⟨i,f⟩:=X.nul H e;unfold Bg;rw[nA nJ];exact .inr ⟨f,a⟩
theorem bX(H:Sy p){st:Int}(Q:p.2.2.1[0]? =some (nT p+(p.2.1.length:Int),[st],0)):
 Ok (R4 p) λx=>UK p x.1 x.2.1∧x.2.2.1.length=p.2.1.length+1∧(∀l∈x.2.2.1,l.length=p.1.length)∧ ∀a t,nT p≤a→Fw (nT p) p.2.2.1 a t→Hr x.2.2.1 (a - nT p).toNat t:=by
 have hT:=H.t1;have hV:=H.v1;have R:nT p=(p.1.length:Int):=rfl;unfold R4 PB;have T:bO .i64 ((p.2.1.length:Int)+1)=((p.2.1.length+1:Nat):Int):=by rw[w64 nJ nJ];omega
 rw[T];refine AO (PC nJ nJ) (AM (bW H) λM B=>?_);rw[oF];obtain⟨N,C,U⟩:=B;refine Bz (λ(z:Bool×Int×List Bool×List (List Bool))=>(ShT p.1.length (p.2.1.length+1) z.2.2.1 z.2.2.2∧Sd (nT p) p.2.2.1 z.2.2.1 z.2.2.2)∧(z.1=false→ ∀n∈p.2.2.1,Cl1 p z.2.2.1 z.2.2.2 n)) (λz=>2 *UJ z.2.2.1 z.2.2.2+cond z.1 1 0) (λ(z:Int×List Bool×List (List Bool))=>UK p z.2.1 z.2.2) ⟨⟨⟨nP,N,C⟩,λk h=>?_,λk t h=>?_⟩,λe=>by cases e⟩ (λz m=>?_) λz m=>?_
 ·have:=oB h
  simp at this
 ·obtain⟨l,V,W⟩:=h;exact(U l (oB V) (oB W.2)).elim
 ·obtain⟨q,X⟩:=m;refine AR (λh=>AM (Wm H q.1 q.2) λr c=>?_) λh=>?_
  ·obtain⟨r1,Y,r3⟩:=c;refine⟨_,rfl,.inl ⟨_,rfl,⟨r1,λe=>?_⟩,?_⟩⟩
   ·have⟨D,E⟩:=r3 e;rw[D];exact E
   ·dsimp only;rw[h];cases d:r.1 with
    |true=>
     have:=Y d
     simp only[cond_true];omega
    |false=>
     rw[(r3 d).1];simp
  ·exact⟨_,rfl,.inr ⟨_,rfl,q.1,q.2,X h⟩⟩
 ·have S:=m.sh;have O:p.2.1.length<M.length:=nJ
  have i:=bD O;obtain⟨row,F⟩:∃row,M[p.2.1.length] =row:=⟨_,rfl⟩;rw[F]at i;have G:=C row (oB i);refine AS i (Ex nJ nJ ?_);have I:Hs (row.set (0:Int).toNat true) 0:=UH nJ nJ;refine Bz (λ(y:Bool×List (List Bool))=>y.2.length=p.2.1.length+1∧(∀l∈y.2,l.length=p.1.length)∧Hr y.2 p.2.1.length 0∧(y.1=false→ ∀n∈p.2.2.1,∀j,Cl2 p z.2.1 z.2.2 y.2 n j)) (λy=>2 *fzs y.2+cond y.1 1 0) (λ(y:List (List Bool))=>y.length=p.2.1.length+1∧(∀l∈y,l.length=p.1.length)∧Hr y p.2.1.length 0∧ ∀n∈p.2.2.1,∀j,Cl2 p z.2.1 z.2.2 y n j) ⟨by rw[pI];exact N,λl Z=>?_,⟨_,by rw[pJ,mZ rfl,mZ O],I⟩,λe=>by cases e⟩ (λy J=>?_) λy J=>AB ?_
  ·rcases pX Z with h | rfl
   ·exact C l h
   ·rw[pI];exact G
  ·obtain⟨s,u,v,A⟩:=J;refine AR (λh=>AM (VX H S s u) λr c=>?_) λh=>?_
   ·refine⟨_,rfl,.inl ⟨_,rfl,⟨c.f,c.w,c.up _ _ v,λe=>?_⟩,?_⟩⟩
    ·have⟨D,E⟩:=c.eq e;rw[D];exact E
    ·rw[h];cases d:r.1 with
     |true=>
      have:=c.lt d
      simp only[cond_true];omega
     |false=>
      rw[(c.eq d).1];simp
   ·exact⟨_,rfl,.inr ⟨_,rfl,s,u,v,A h⟩⟩
  ·obtain⟨s,u,v,A⟩:=J;refine⟨m,s,u,?_⟩;dsimp only;intro a t P K
   induction K with
   | @zero r c=>
    rw[Q]at c;cases c;dsimp only;rw[show(nT p+(p.2.1.length:Int) - nT p).toNat=p.2.1.length by omega];exact v
   | @first r b g a t c o hf=>
    have L:r.2.1[b.length]? =some a:=by rw[o];simp
    have hd:r.2.1.drop (b.length+1)=g:=by rw[o];simp
    exact((A r c b.length) a L P).1 t (by rw[hd];exact(m.bg H).2 hf)
   | @left r b g a t c o hg _ ih=>
    have L:r.2.1[b.length]? =some a:=by rw[o];simp
    have hd:r.2.1.drop (b.length+1)=g:=by rw[o];simp
    exact((A r c b.length) a L P).2 (by rw[hd];exact(m.bn H).2 hg) t (ih (H.left r c).1)
end
end Go.Proofs.YtfnppeejaimnbaaGreatDoor
namespace Go.Proofs.YtfnppeejaimnbaaGreatDoor
open Go Go.Eng
section
variable {φ:AD}{h:AH}{F:List Chk}
theorem Br:Fy hM 143 143 146 3:=⟨rE,.inl rE,⟨t146,nU,rfl,⟨_,rfl,rfl⟩,nQ,nQ⟩,nQ⟩
noncomputable def CF(l_0:List Av)(x_1:Av):Option (List Av×Bool):=(loop (σ:=Int) (β:=Int) 0 λa=>(cond (decide (a< (l_0.length:Int))) ((idx l_0 a).bind λd=>cond (decide (d.1<x_1.1)) (some true) ((idx l_0 a).bind λe=>cond (e.1==x_1.1) ((idx l_0 a).bind λf=>cond (decide (f.2.1<x_1.2.1)) (some true) ((idx l_0 a).bind λg=>cond (g.2.1==x_1.2.1) ((idx l_0 a).bind λh=>some (decide (h.2.2<x_1.2.2))) (some false))) (some false))) (some false)).bind λo=>cond o (some (oP (bO .i64 (a+1)))) (some (oM a))).bind λc=>(cond (decide (c< (l_0.length:Int))) ((idx l_0 c).bind λb=>some (((b.1==x_1.1) && ((b.2.1==x_1.2.1) && true)) && ((b.2.2==x_1.2.2) && true))) (some false)).bind λi=>cond i (some (l_0,false)) ((cut l_0 0 c).bind λj=>(cut l_0 c (l_0.length:Int)).bind λk=>(app ([]:List Av) j).bind λl=>(app l ([(x_1.1,x_1.2.1,x_1.2.2)]:List Av)).bind λm=>(app m k).bind λn=>some (n,true))
theorem Dd{l_0:Slc}{s:List Av}{A:Int×Int×Int×Unit}(e:mE BA φ l_0 s)(V:St φ F h){r:(List Av×Bool)}(hd:CF s (A.1,A.2.1,A.2.2.1)=some r):
 nX hM 68 [sv l_0,.agg #[lN A.1,lN A.2.1,lN A.2.2.1]] h (An λv W=>∃ψ:AD,∃y:Slc×Bool×Unit,∃L:List Av,Sub φ ψ∧v=((.tuple mC):Sh).val y∧(L,y.2.1)=r∧mE BA ψ y.1 L∧St ψ F W):=by
 refine AT mixed func68 (MK ..) ?_;have x:l_0.2.1=oL s:=e.length;refine AU (vs:=[.int .i64 A.1,.int .i64 A.2.1,.int .i64 A.2.2.1]) V λr1 dl X=>?_;have⟨Y,Z,hd⟩:=bS hd;refine Af (λy B g=>∃ψ:AD,Sub φ ψ∧y.1=g∧St ψ (cf r1 A::F) B) (g:=Y) ?_ ?_
 ·refine Bx Z (λy B g=>∃ψ:AD,Sub φ ψ∧y.1=g∧St ψ (cf r1 A::F) B) rfl ⟨φ,sb,rfl,X⟩ ?_
  ·rintro z3 dm _ _ ⟨f,dn,rfl,d⟩ i b7;have⟨b8,c,i⟩:=bS i;refine AY (λy B g=>∃ψ:AD,Sub f ψ∧y.1=g∧St ψ (cf r1 A::F) B) (g:=b8) ?_ ?_
   ·refine mP c (by rw[x] <;>rfl) (λc=>?_) (λc=>?_)
    ·refine Ik XA e c d λdp c=>AA d rfl<|mP c rfl (λc=>?_) (λc=>?_)
     ·exact lG rfl ⟨f,sb,iS c,d⟩
     refine Ik XA e c d λds c=>AA d rfl<|mP c rfl (λc=>?_) (λc=>?_)
     ·refine ixS XB e c d λdx c=>AA d rfl<|mP c rfl (λc=>?_) (λc=>?_)
      ·exact lG rfl ⟨f,sb,iS c,d⟩
      refine ixS XB e c d λdy c=>AA d rfl<|mP c rfl (λc=>?_) (λc=>?_)
      ·refine ixS ce e c d λb9 c=>AA d rfl ?_;exact lG rfl ⟨f,sb,iS c,d⟩
      exact lG rfl ⟨f,sb,iS c,d⟩
     exact lG rfl ⟨f,sb,iS c,d⟩
    exact lG rfl ⟨f,sb,iS c,d⟩
   rintro z4 e0 ⟨M,e1,rfl,N⟩;refine mP i rfl (λi=>?_) (λi=>?_)
   ·obtain rfl:=iS i;exact lH rfl rfl ⟨M,sb,rfl,N⟩
   obtain rfl:=iS i;obtain rfl:=b7 _ rfl;exact AJ (lI rfl ⟨M,sb,rfl,N⟩)
 rintro z2 e2 ⟨z,e3,rfl,m⟩;have⟨ba,k,hd⟩:=bS hd;refine AY (λy B g=>∃ψ:AD,Sub z ψ∧y.1=g∧St ψ (cf r1 A::F) B) (g:=ba) ?_ ?_
 ·refine mP k (by rw[x] <;>rfl) (λk=>?_) (λk=>?_)
  ·refine ZG e k m λa0 k=>AA m rfl<|AA m rfl<|AA m rfl ?_;exact lG rfl ⟨z,sb,iS k,m⟩
  exact lG rfl ⟨z,sb,iS k,m⟩
 rintro g0 e4 ⟨G,e5,rfl,o⟩;refine mP hd rfl (λhd=>?_) (λhd=>?_)
 ·exact AC ⟨G,(l_0,false,()),s,sb,rfl,iS hd,e.up,o.tail⟩
 have⟨H,bb,hd⟩:=bS hd;obtain⟨bd,u⟩:=(e.up (ψ:=G)).cut (sz:=3) bb rfl;refine Ai bd ?_;have I:=u.length;refine AA o rfl<|AA o rfl<|AA o rfl ?_;have⟨J,bf,hd⟩:=bS hd;obtain⟨O,q⟩:=(e.up (ψ:=G)).cut (sz:=3) bf rfl;rw[←x]at O q;refine Ai O ?_;have K:=q.length;refine DP ?_ ?_
 ·refine AU (vs:=[]) o λg1 e6 p=>AP (oG (b:=r1) (j:=0) p.at1 rfl)<|AP (oG (b:=r1) (j:=1) p.at1 rfl)<|AP (oG (b:=r1) (j:=2) p.at1 rfl)<|DP ?_ ?_
  ·have⟨e7,bg,bi⟩:=u.heap p.sub;have bj:=pR (r:=BA) (l:=([]:List Av)) (n:=0) p .nil rfl nQ;have⟨e8,bl,hd⟩:=bS hd;refine AV (ms:=H) Br bj rfl bi bg I.symm bl ?_;intro g2 e9 w;refine AP (oG (b:=r1) (j:=0) w.at1 rfl)<|AP (oG (b:=r1) (j:=1) w.at1 rfl)<|AP (oG (b:=r1) (j:=2) w.at1 rfl)<|AU (vs:=[.int .i64 A.1,.int .i64 A.2.1,.int .i64 A.2.2.1]) w λg3 ea P=>?_;have⟨ed,bn,hd⟩:=bS hd;refine AV (ms:=([(A.1,A.2.1,A.2.2.1)]:List Av)) Br P.tail rfl (oQ P) (.cons (a:=[_,_,_]) ⟨[_],_,rfl,rfl,⟨[_],_,rfl,rfl,rfl⟩⟩ .nil) rfl bn ?_;intro g4 ee al;have⟨ef,bp,bq⟩:=q.heap al.sub;have⟨bs,bt,hd⟩:=bS hd;refine AV (ms:=J) Br al rfl bq bp K.symm bt ?_;intro C eg bx;have⟨bz,el,c0,c1⟩:=oA (t:=C) bx;exact AC ⟨bz,(C,true,()),bs,sb,rfl,iS hd,c0,c1.tail⟩
  ·refine AU (vs:=[.int .i64 A.1,.int .i64 A.2.1,.int .i64 A.2.2.1]) p λg5 em ap=>?_;have⟨en,c2,c3⟩:=u.heap ap.sub;have c4:=pR (r:=BA) (l:=([]:List Av)) (n:=0) ap.at1 .nil rfl nQ;have⟨eo,c5,hd⟩:=bS hd;refine AV (ms:=H) Br c4 rfl c3 c2 I.symm c5 ?_;intro g6 er Q;have⟨es,c6,hd⟩:=bS hd;refine AV (ms:=([(A.1,A.2.1,A.2.2.1)]:List Av)) Br Q.at1.tail rfl (oQ Q.at1) (.cons (a:=[_,_,_]) ⟨[_],_,rfl,rfl,⟨[_],_,rfl,rfl,rfl⟩⟩ .nil) rfl c6 ?_;intro g7 ev R;have⟨ew,c7,c8⟩:=q.heap R.sub;have⟨c9,ch,hd⟩:=bS hd;refine AV (ms:=J) Br R rfl c8 c7 K.symm ch ?_;intro D ex cl;have⟨cm,ez,cp,cs⟩:=oA (t:=D) cl;exact AC ⟨cm,(D,true,()),c9,sb,rfl,iS hd,cp,cs.tail⟩
 ·refine AU (vs:=[.int .i64 A.1,.int .i64 A.2.1,.int .i64 A.2.2.1]) o λg8 f0 cw=>AU (vs:=[]) cw λg9 f1 S=>?_;have⟨f2,cx,d0⟩:=u.heap S.sub;have d1:=pR (r:=BA) (l:=([]:List Av)) (n:=0) S .nil rfl nQ;have⟨f3,d2,hd⟩:=bS hd;refine AV (ms:=H) Br d1 rfl d0 cx I.symm d2 ?_;intro h0 f4 T;have⟨f5,d3,hd⟩:=bS hd;refine AV (ms:=([(A.1,A.2.1,A.2.2.1)]:List Av)) Br T.at1.tail rfl (oQ T.at1) (.cons (a:=[_,_,_]) ⟨[_],_,rfl,rfl,⟨[_],_,rfl,rfl,rfl⟩⟩ .nil) rfl d3 ?_;intro h1 f6 U;have⟨f7,d4,d5⟩:=q.heap U.sub;have⟨d6,d7,hd⟩:=bS hd;refine AV (ms:=J) Br U rfl d5 d4 K.symm d7 ?_;intro E f8 d8;have⟨d9,f9,dd,dk⟩:=oA (t:=E) d8;exact AC ⟨d9,(E,true,()),d6,sb,rfl,iS hd,dd,dk.tail⟩
noncomputable def CQ(f_0:Q0)(c:As)(a:nH):Option (List Bool×Bool):=
 (EC (c.1.length:Int) false).bind λt3=>
 (C6 (σ:=List Bool) (β:=(List Bool×Bool)) 0 (a.length:Int) t3 λb l=>
  ((((idx a b).bind λm=>
  cond (decide (m≥ 0))
  ((idx a b).bind λn=>
   some (decide (n< (c.1.length:Int))))
  (some false)).bind λr=>
  cond r
  ((idx a b).bind λo=>
   (DQ l o true).bind λp=>
   some (oM (p,false)))
  ((idx a b).bind λd=>
   (cond (decide ((bO .i64 (d - (c.1.length:Int))) < 0))
   (some true)
   (some (decide ((bO .i64 (d - (c.1.length:Int))) ≥ (f_0.1.length:Int))))).bind λq=>
   cond q
   (some (oP l))
   ((idx f_0.2.1 (bO .i64 (d - (c.1.length:Int)))).bind λe=>
    (Ax l e).bind λf=>
    (idx f_0.1 (bO .i64 (d - (c.1.length:Int)))).bind λg=>
    cond (!g)
    (some (oM (f.2,false)))
    (some (oP f.2))))):Option (AX (List Bool) (List Bool×Bool))).bind λh=>match h with
  |.next s=>
   some (oP s)
  |.done i=>some (oM i)).bind λj=>match j with
 |.next t=>
  some (t,true)
 |.done k=>some k
theorem Cy{D:nG}{u:Q0}{A:Pl6}{n:As}{B:Slc}{o:nH}(p:Pt W6 φ D u)(O:G8 φ A n)(e:mE (oE .i64) φ B o)(P:St φ F h){r:(List Bool×Bool)}(hd:CQ u n o=some r):
 nX hM 114 [lP D,aG A,sv B] h (An λv Q=>∃ψ:AD,∃y:Slc×Bool×Unit,∃w:List Bool,Sub φ ψ∧v=((.tuple mC):Sh).val y∧(w,y.2.1)=r∧mE oI ψ y.1 w∧St ψ F Q):=by
 refine AT mixed func114 (EK ..) ?_;have d:A.1.2.1=oL n.1:=O.k0.length;have z:B.2.1=oL o:=e.length;refine D5 (t:=A) P λr1 d1 a0=>AA a0 rfl ?_;have⟨R,al,hd⟩:=bS hd;refine FW (r:=oI) (x:=false) Py a0 rfl (by rw[d]) al ?_;intro t3 d2 ap;have⟨d3,S,hd⟩:=bS hd;refine BQ S (λT y C g=>∃ψ:AD,∃G:List Bool,Sub φ ψ∧y.1=T∧G=g∧St ψ (cR 4 oI t3 G::Wq2 r1 A::F) C) rfl ⟨φ,R,sb,rfl,rfl,ap.at1.at1⟩ ?_ ?_ ?_
 ·rintro _ U d4 _ _ ⟨j,q,d5,rfl,rfl,k⟩ f d6 V W H;refine Ad (dT z V) ?_;have⟨X,a,f⟩:=bS f;refine Af (λy C g=>∃ψ:AD,∃I:List Bool,Sub j ψ∧oP I=g∧St ψ (cR 4 oI t3 I::Wq2 r1 A::F) C) (g:=X) ?_ ?_
  ·have⟨Y,b,a⟩:=bS a;refine AY (λy C g=>∃ψ:AD,Sub j ψ∧y.1=g∧St ψ (cR 4 oI t3 q::Wq2 r1 A::F) C) (g:=Y) ?_ ?_
   ·refine gx e b k λd7 b=>mP b rfl (λb=>?_) (λb=>?_)
    ·refine gx e b k λb5 b=>?_;have Z:=k.at1.at1;obtain rfl:=iS b;exact lG rfl ⟨j,sb,(by rw[d]),Z⟩
    exact lG rfl ⟨j,sb,iS b,k.at1.at1⟩
   rintro z7 d8 ⟨s,d9,rfl,c⟩;refine mP a rfl (λa=>?_) (λa=>?_)
   ·refine gx e a c λdd a=>?_;have⟨b7,J,a⟩:=bS a;have⟨dk,K,b8⟩:=c.there J;refine AI _ K (Ai b8 (FH c J rfl K ?_));intro dl b9;have⟨ba,dm,bb,bd⟩:=oA (t:=t3) b9;obtain rfl:=iS a;obtain rfl:=iS f;obtain rfl:=H _ rfl;obtain rfl:=iS hd;exact Ah (Ak (Ah (AC ⟨ba,(t3,false,()),b7,sb,rfl,rfl,bb,bd.tail⟩)))
   refine gx e a c λbf a=>?_;have⟨bg,i,a⟩:=bS a;refine AY (λy C g=>∃ψ:AD,Sub s ψ∧y.1=g∧St ψ (cR 4 oI t3 q::Wq2 r1 A::F) C) (g:=bg) ?_ ?_
   ·refine mP i (by rw[d] <;>rfl) (λi=>?_) (λi=>?_)
    ·have bi:=c.at1;exact lG rfl ⟨s,sb,iS i,bi.at1⟩
    refine Ta W7 p c λbj bl=>?_;have bn:=bl.length;have bp:=c.at1.at1;obtain rfl:=iS i;exact lG rfl ⟨s,sb,(by rw[d,bn]),bp⟩
   rintro f0 dn ⟨bq,dp,rfl,l⟩;refine mP a rfl (λa=>?_) (λa=>?_)
   ·have bs:=l.at1;exact lI rfl ⟨bq,q,sb,iS a,bs.at1⟩
   refine pfR cd p l λds bt=>?_;have⟨dx,L,a⟩:=bS a;rw[←d]at L;refine TZ bt L (oN sb l.sub) λdy bx=>?_;have⟨e0,bz,a⟩:=bS a;refine AK (JX bx.up l bz) ?_;rintro _ e1 ⟨c0,E,M,e2,rfl,rfl,m⟩;refine⟨E,rfl,Ta W7 p m λe3 c1=>?_⟩;have⟨e4,N,a⟩:=bS a;rw[←d]at N;refine NR c1 N (oN sb m.sub)<|mP a rfl (λa=>?_) (λa=>?_)
   ·have⟨c2,e5,c3,c4⟩:=oA (t:=t3) m;obtain rfl:=iS a;obtain rfl:=iS f;obtain rfl:=H _ rfl;obtain rfl:=iS hd;exact Ah (Ak (Ah (AC ⟨c2,(t3,false,()),M,sb,rfl,rfl,c3,c4.tail⟩)))
   exact lJ rfl ⟨c0,M,sb,iS a,m.at1.at1⟩
  rintro z6 e6 ⟨c5,c6,e7,rfl,c7⟩;obtain rfl:=iS f;exact lH rfl rfl ⟨c5,c6,sb,W,rfl,c7.at1.at1⟩
 ·rintro _ U e8 _ ⟨c8,c9,e9,rfl,rfl,ch⟩ cl cm;subst cm;refine AW (dF z cl)<|AJ (lI rfl ⟨_,rfl,_,c8,c9,sb,rfl,rfl,ch.at1.at1⟩)
 rintro z4 ea ⟨_,rfl,_,ed,cp,ee,_,rfl,cs⟩;have⟨cw,ef,cx,d0⟩:=oA (t:=t3) cs;exact AC ⟨cw,(t3,true,()),cp,sb,rfl,iS hd,cx,d0.tail⟩
noncomputable def CR(p_0:As)(s:Q0)(g:List Av):Option (List Av):=(app ([]:List Av) g).bind λt3=>(app ([]:List Av) g).bind λt5=>(loop (σ:=(Int×List Av×List Av)) (β:=List Av) (0,t5,t3) λe=>cond (decide (e.1< (e.2.1.length:Int))) (((idx e.2.1 e.1).bind λc=>(BY p_0 (c.1,c.2.1)).bind λh=>cond (decide (h< (p_0.1.length:Int))) (some (e.2.1,e.2.2)) ((idx p_0.2.2.1 c.1).bind λi=>(cut i.2.1 (bO .i64 (c.2.1+1)) (i.2.1.length:Int)).bind λj=>(app ([]:nH) j).bind λt=>(app t ([c.2.2]:nH)).bind λu=>(CQ s p_0 u).bind λk=>(forS (σ:=(List Av×List Av)) 0 (p_0.2.2.1.length:Int) (e.2.1,e.2.2) λa f=>((idx p_0.2.2.1 a).bind λl=>cond (l.1 !=h) (some (f.1,f.2)) ((forS (σ:=(List Av×List Av)) 0 (k.1.length:Int) (f.1,f.2) λb d=>(idx k.1 b).bind λm=>(cond m ((CF d.2 (a,0,b)).bind λn=>(cond n.2 ((app d.1 ([(a,0,b)]:List Av)).bind λv=>some v) (some d.1)).bind λw=>some (w,n.1)) (some (d.1,d.2))).bind λo=>some (o.1,o.2)).bind λp=>some (p.1,p.2))).bind λq=>some (q.1,q.2)).bind λr=>some (r.1,r.2))).bind λx=>some (oP ((bO .i64 (e.1+1)),x.1,x.2))) (some (oM e.2.2))).bind λy=>some y
theorem FO{p_0:Pl6}{d_p_0:As}{L:nG}{c3:Q0}{H:Slc}{M:List Av}(e:G8 φ p_0 d_p_0)(bg:Pt W6 φ L c3)(bi:mE BA φ H M)(s0:St φ F h){r:(List Av)}(hd:CR d_p_0 c3 M=some r):
 nX hM 67 [aG p_0,lP L,sv H] h (An (mO φ BA r F)):=by
 refine AT mixed func67 (I5 ..) ?_;have g4:p_0.1.2.1=oL d_p_0.1:=e.k0.length;have I:p_0.2.2.1.2.1=oL d_p_0.2.2.1:=e.k2.length;have c5:H.2.1=oL M:=bi.length;refine D5 (t:=p_0) s0 λr1 ny g5=>AU (vs:=[]) g5 λr2 nz c6=>?_;have⟨o0,g6,g7⟩:=bi.heap c6.sub;have g8:=pR (r:=BA) (l:=([]:List Av)) (n:=0) c6 .nil rfl nQ;have⟨g9,gc,hd⟩:=bS hd;refine AV (ms:=M) Br g8 rfl g7 g6 c5.symm gc ?_;intro t3 o1 gd;refine AU (vs:=[]) gd λr4 o2 c7=>?_;have⟨o3,gf,gg⟩:=bi.heap c7.sub;have gi:=pR (r:=BA) (l:=([]:List Av)) (n:=0) c7 .nil rfl nQ;have⟨gj,gk,hd⟩:=bS hd;refine AV (ms:=M) Br gi rfl gg gf c5.symm gk ?_;intro t5 o4 gl;have⟨bj,o5,gn,go⟩:=oA (t:=t3) gl.at1;have⟨gp,gr,hd⟩:=bS hd;refine Af (λy x g=>∃ψ:AD,∃c8:List Av,Sub bj ψ∧c8=g∧mE BA ψ y.2.2.1 c8∧St ψ (Wq2 r1 p_0::F) x) (g:=gp) ?_ ?_
 ·refine Bx gr (λy x g=>∃ψ:AD,∃c9:List Av,∃ch:List Av,Sub bj ψ∧(y.1,c9,ch)=g∧mE BA ψ y.2.2.1 ch∧St ψ (cR 146 BA y.2.1 c9::Wq2 r1 p_0::F) x) rfl ⟨bj,gj,g9,sb,rfl,gn,go.at1.at1⟩ ?_
  ·rintro z7 o6 _ _ ⟨cl,b5,N,o7,rfl,O,b6⟩ u gs;have gv:=b6.rowLen;refine mP u (by rw[gv] <;>rfl) (λu=>?_) (λu=>?_)
   ·have⟨gw,d,u⟩:=bS u;refine Af (λy x g=>∃ψ:AD,∃cm:List Av,∃cp:List Av,Sub cl ψ∧(cm,cp)=g∧mE BA ψ y.2.1 cp∧St ψ (cR 146 BA y.1 cm::Wq2 r1 p_0::F) x) (g:=gw) ?_ ?_
    ·refine jA b6 d λc d=>AU (vs:=[.int .i64 (0:Int),.int .i64 (0:Int),.int .i64 (0:Int)]) b6 λv o8 h0=>AQ h0 rfl rfl λo9 h1=>AQ h1 rfl rfl λoa h2=>AQ h2 rfl rfl λob b7=>BS (t:=p_0) b7.at2<|AA b7 rfl<|AA b7 rfl ?_;have⟨oc,h3,d⟩:=bS d;refine AK (Cu (o:=(c.1,c.2.1,())) e.up b7 h3) ?_;rintro _ od ⟨cs,t0,oe,rfl,rfl,f⟩;refine⟨t0,rfl,AA f.at2 rfl<|mP d (by rw[g4] <;>rfl) (λd=>?_) (λd=>?_)⟩
     ·have h4:=f.at1;exact lI rfl ⟨cs,b5,N,sb,iS d,O.up,h4.at1.tail.at1.at1⟩
     refine AA f.at2 rfl<|AA f rfl ?_;have⟨og,h5,d⟩:=bS d;obtain⟨oh,oi,h6,h7,h8,P⟩:=(e.k2.up (ψ:=cs)).get h5;refine AI _ h6 (Ai h7 ?_);obtain⟨_,_,rfl,rfl,⟨_,_,rfl,⟨hf,rfl,cw⟩,he⟩⟩:=h8;have hg:=cw.length;obtain rfl:=he;refine AF (by rw[Aj];exact(AG (oN sb f.sub) (P 1 _ rfl))) rfl<|AA f rfl ?_;have⟨bl,hh,d⟩:=bS d;have⟨cx,Q⟩:=cw.cut (sz:=1) hh rfl;rw[←hg]at cx Q;refine Ai cx ?_;have bn:=Q.length;refine AA f rfl<|DP ?_ ?_
     ·refine GP f λu8 oj ok s=>AP (oG (b:=v) (j:=2) s.at1 rfl)<|AP (oG (b:=v) (j:=1) s.at1 rfl)<|AP (by rw[Aj];exact(AG (oN sb s.sub) (P 1 _ rfl)))<|AP (oG (b:=v) (j:=0) s.at1 rfl)<|AP (oG (b:=r1) (j:=2) s.at3 rfl)<|DP ?_ ?_
      ·have⟨ol,hi,hj⟩:=Q.heap s.sub;have hk:=pR (r:=(oE .i64)) (l:=([]:nH)) (n:=0) s .nil rfl nQ;have⟨om,hl,d⟩:=bS d;refine AV (ms:=bl) BR hk rfl hj hi bn.symm hl ?_;intro u9 on d0;refine AP (oG (b:=v) (j:=2) d0.at1 rfl)<|AU (vs:=[.int .i64 c.2.2]) d0 λv0 oo d1=>?_;have⟨op,hm,d⟩:=bS d;refine AV (ms:=([c.2.2]:nH)) BR d1.tail rfl (oQ d1) (.cons (a:=[_]) rfl .nil) rfl hm ?_;intro t1 oq d2;refine BS (t:=p_0) d2.at3 ?_;have⟨os,ot,hn,ho⟩:=oA (t:=t1) d2;have⟨ou,hp,d⟩:=bS d;refine AK (Cy bg.up e.up hn ho hp) ?_;rintro _ ov ⟨d3,t2,ow,ox,rfl,rfl,d4,hq⟩;refine⟨t2,rfl,?_⟩;have d5:=d4.length;have⟨oy,hr,d⟩:=bS d;refine BD hr (λhs y x g=>∃ψ:AD,∃d6:List Av,∃d7:List Av,Sub d3 ψ∧y.1=hs∧(d6,d7)=g∧mE BA ψ y.2.2.1 d7∧St ψ (cR 146 BA y.2.1 d6::cW 146 v [.int .i64 c.1,.int .i64 c.2.1,.int .i64 c.2.2]::Wq2 r1 p_0::F) x) rfl ⟨d3,b5,N,sb,rfl,rfl,O.up,hq.at1.at2.at2.at2⟩ ?_ ?_ ?_
       ·rintro _ C oz _ _ ⟨b8,d8,d9,p0,rfl,rfl,dd,R⟩ bp p1 ht hu;refine AA R.at2 rfl<|Ad (dT I ht) ?_;have⟨hv,i,bp⟩:=bS bp;refine Af (λy x g=>∃ψ:AD,∃dk:List Av,∃dl:List Av,Sub b8 ψ∧(dk,dl)=g∧mE BA ψ y.2.1 dl∧St ψ (cR 146 BA y.1 dk::cW 146 v [.int .i64 c.1,.int .i64 c.2.1,.int .i64 c.2.2]::Wq2 r1 p_0::F) x) (g:=hv) ?_ ?_
        ·refine AA R.at2 rfl<|Ik Jk e.k2 i R λp2 i=>mP i rfl (λi=>?_) (λi=>?_)
         ·have hw:=R.at2;exact lI rfl ⟨b8,d8,d9,sb,iS i,dd,hw.at2.at2⟩
         have⟨p3,hx,i⟩:=bS i;refine BD hx (λhy y x g=>∃ψ:AD,∃dm:List Av,∃dn:List Av,Sub b8 ψ∧y.1=hy∧(dm,dn)=g∧mE BA ψ y.2.2.1 dn∧St ψ (cR 146 BA y.2.1 dm::cW 146 v [.int .i64 c.1,.int .i64 c.2.1,.int .i64 c.2.2]::Wq2 r1 p_0::F) x) rfl ⟨b8,d8,d9,sb,rfl,rfl,dd,R.at2.at2.at2⟩ ?_ ?_ ?_
         ·rintro _ D p4 _ _ ⟨dp,ds,hz,p5,rfl,rfl,dx,bq⟩ S p6 i0 i1;refine Ad (dT d5 i0)<|gx d4 S bq λp7 S=>?_;have⟨i2,k,S⟩:=bS S;refine AY (λy x g=>∃ψ:AD,∃dy:List Av,∃e0:List Av,Sub dp ψ∧(dy,e0)=g∧mE BA ψ y.2.1 e0∧St ψ (cR 146 BA y.1 dy::cW 146 v [.int .i64 c.1,.int .i64 c.2.1,.int .i64 c.2.2]::Wq2 r1 p_0::F) x) (g:=i2) ?_ ?_
          ·refine mP k rfl (λk=>?_) (λk=>?_)
           ·refine AU (vs:=[.int .i64 (0:Int),.int .i64 (0:Int),.int .i64 (0:Int)]) bq λt4 p8 i3=>AQ i3 rfl rfl λp9 i4=>AQ i4 rfl rfl λpa i5=>AQ i5 rfl rfl λpb b9=>AA b9 rfl<|AA b9 rfl<|AA b9 rfl ?_;have⟨pc,i6,k⟩:=bS k;refine AK (Dd (A:=(C.1,(0:Int),D.1,())) dx b9 i6) ?_;rintro _ pd ⟨bs,t6,i7,pe,rfl,rfl,i8,al⟩;refine⟨t6,rfl,?_⟩;have⟨i9,w,k⟩:=bS k;refine AY (λy x g=>∃ψ:AD,∃e1:List Av,Sub bs ψ∧e1=g∧St ψ (cR 146 BA y.1 e1::cW 146 t4 [.int .i64 C.1,.int .i64 (0:Int),.int .i64 D.1]::cW 146 v [.int .i64 c.1,.int .i64 c.2.1,.int .i64 c.2.2]::Wq2 r1 p_0::F) x) (g:=i9) ?_ ?_
            ·refine mP w rfl (λw=>?_) (λw=>?_)
             ·refine AA al rfl<|AA al rfl<|AA al rfl<|AU (vs:=[.int .i64 C.1,.int .i64 (0:Int),.int .i64 D.1]) al λv1 pf e2=>?_;have⟨ih,ir,w⟩:=bS w;refine AV (ms:=([(C.1,(0:Int),D.1)]:List Av)) Br e2.tail.at1 rfl (oQ e2) (.cons (a:=[_,_,_]) ⟨[_],_,rfl,rfl,⟨[_],_,rfl,rfl,rfl⟩⟩ .nil) rfl ir ?_;intro v2 pg it;exact lG rfl ⟨bs,ih,sb,iS w,it.at3.at3.at3.at3⟩
             exact lG rfl ⟨bs,ds,sb,iS w,al.at1.at3.at3.at3.at3⟩
            rintro v3 ph ⟨ix,j0,pi,rfl,j1⟩;exact lG rfl ⟨ix,j0,i7,sb,iS k,i8.up,j1.at1.tail.at2.at2.at2⟩
           exact lG rfl ⟨dp,ds,hz,sb,iS k,dx,bq.at2.at2.at2⟩
          rintro v4 pj ⟨j2,j3,j4,pk,rfl,j5,j6⟩;obtain rfl:=iS S;exact lH rfl rfl ⟨j2,j3,j4,sb,i1,rfl,j5,j6.at2.at2.at2⟩
         ·rintro _ D pl ⟨j7,j8,j9,pm,rfl,rfl,ja,jb⟩ jc;refine AW (dF d5 jc)<|AJ (lI rfl ⟨_,j7,j8,j9,sb,rfl,rfl,ja,jb.at2.at2.at2⟩)
         rintro v5 pn ⟨_,jd,je,jf,po,_,rfl,jg,jh⟩;exact lJ rfl ⟨jd,je,jf,sb,iS i,jg,jh.at2.at2.at2⟩
        rintro v6 pp ⟨ji,jj,jk,pq,rfl,jl,jm⟩;obtain rfl:=iS bp;exact lH rfl rfl ⟨ji,jj,jk,sb,hu,rfl,jl,jm.at2.at2.at2⟩
       ·rintro _ C pr ⟨jn,jo,jp,ps,rfl,rfl,jq,e3⟩ jr;refine AA e3.at2 rfl<|AW (dF I jr)<|AJ (lI rfl ⟨_,jn,jo,jp,sb,rfl,rfl,jq,e3.at2.at2.at2⟩)
       rintro v7 pt ⟨_,js,jt,ju,pu,_,rfl,jv,jw⟩;exact lJ rfl ⟨js,jt,ju,sb,iS d,jv,jw.at1.tail.at1.at1⟩
      ·refine GP s λv8 pv pw J=>AP (oG (b:=v) (j:=1) J.at2 rfl)<|AP (by rw[Aj];exact(AG (oN sb J.sub) (P 1 _ rfl)))<|AP (oG (b:=v) (j:=0) J.at2 rfl)<|AP (oG (b:=r1) (j:=2) J.at4 rfl) ?_;have⟨px,jx,jy⟩:=Q.heap J.sub;have jz:=pR (r:=(oE .i64)) (l:=([]:nH)) (n:=0) J.at1 .nil rfl nQ;have⟨py,k1,d⟩:=bS d;refine AV (ms:=bl) BR jz rfl jy jx bn.symm k1 ?_;intro v9 pz e4;have⟨q0,k3,d⟩:=bS d;refine AV (ms:=([c.2.2]:nH)) BR e4.at1.tail rfl (oQ e4.at1) (.cons (a:=[_]) rfl .nil) rfl k3 ?_;intro t7 q1 e5;refine BS (t:=p_0) e5.at3 ?_;have⟨q2,q3,k4,k5⟩:=oA (t:=t7) e5;have⟨q4,k6,d⟩:=bS d;refine AK (Cy bg.up e.up k4 k5 k6) ?_;rintro _ q5 ⟨e6,t8,q6,q7,rfl,rfl,e7,k7⟩;refine⟨t8,rfl,?_⟩;have e8:=e7.length;have⟨q8,k8,d⟩:=bS d;refine BD k8 (λk9 y x g=>∃ψ:AD,∃e9:List Av,∃ea:List Av,Sub e6 ψ∧y.1=k9∧(e9,ea)=g∧mE BA ψ y.2.2.1 ea∧St ψ (cR 146 BA y.2.1 e9::cW 146 v [.int .i64 c.1,.int .i64 c.2.1,.int .i64 c.2.2]::Wq2 r1 p_0::F) x) rfl ⟨e6,b5,N,sb,rfl,rfl,O.up,k7.at1.at2.at2.at2⟩ ?_ ?_ ?_
       ·rintro _ E q9 _ _ ⟨ba,ed,ee,qa,rfl,rfl,ef,ap⟩ bt qb ka kb;refine AA ap.at2 rfl<|Ad (dT I ka) ?_;have⟨kc,m,bt⟩:=bS bt;refine Af (λy x g=>∃ψ:AD,∃eg:List Av,∃el:List Av,Sub ba ψ∧(eg,el)=g∧mE BA ψ y.2.1 el∧St ψ (cR 146 BA y.1 eg::cW 146 v [.int .i64 c.1,.int .i64 c.2.1,.int .i64 c.2.2]::Wq2 r1 p_0::F) x) (g:=kc) ?_ ?_
        ·refine AA ap.at2 rfl<|Ik Jk e.k2 m ap λqc m=>mP m rfl (λm=>?_) (λm=>?_)
         ·have kd:=ap.at2;exact lI rfl ⟨ba,ed,ee,sb,iS m,ef,kd.at2.at2⟩
         have⟨qd,ke,m⟩:=bS m;refine BD ke (λkf y x g=>∃ψ:AD,∃em:List Av,∃en:List Av,Sub ba ψ∧y.1=kf∧(em,en)=g∧mE BA ψ y.2.2.1 en∧St ψ (cR 146 BA y.2.1 em::cW 146 v [.int .i64 c.1,.int .i64 c.2.1,.int .i64 c.2.2]::Wq2 r1 p_0::F) x) rfl ⟨ba,ed,ee,sb,rfl,rfl,ef,ap.at2.at2.at2⟩ ?_ ?_ ?_
         ·rintro _ G qe _ _ ⟨eo,er,kg,qf,rfl,rfl,es,bx⟩ T qg kh ki;refine Ad (dT e8 kh)<|gx e7 T bx λqh T=>?_;have⟨kj,o,T⟩:=bS T;refine AY (λy x g=>∃ψ:AD,∃ev:List Av,∃ew:List Av,Sub eo ψ∧(ev,ew)=g∧mE BA ψ y.2.1 ew∧St ψ (cR 146 BA y.1 ev::cW 146 v [.int .i64 c.1,.int .i64 c.2.1,.int .i64 c.2.2]::Wq2 r1 p_0::F) x) (g:=kj) ?_ ?_
          ·refine mP o rfl (λo=>?_) (λo=>?_)
           ·refine AU (vs:=[.int .i64 (0:Int),.int .i64 (0:Int),.int .i64 (0:Int)]) bx λt9 qi kk=>AQ kk rfl rfl λqj kl=>AQ kl rfl rfl λqk km=>AQ km rfl rfl λql bb=>AA bb rfl<|AA bb rfl<|AA bb rfl ?_;have⟨qm,kn,o⟩:=bS o;refine AK (Dd (A:=(E.1,(0:Int),G.1,())) es bb kn) ?_;rintro _ qn ⟨bz,u0,ko,qo,rfl,rfl,kp,U⟩;refine⟨u0,rfl,?_⟩;have⟨kq,z,o⟩:=bS o;refine AY (λy x g=>∃ψ:AD,∃ex:List Av,Sub bz ψ∧ex=g∧St ψ (cR 146 BA y.1 ex::cW 146 t9 [.int .i64 E.1,.int .i64 (0:Int),.int .i64 G.1]::cW 146 v [.int .i64 c.1,.int .i64 c.2.1,.int .i64 c.2.2]::Wq2 r1 p_0::F) x) (g:=kq) ?_ ?_
            ·refine mP z rfl (λz=>?_) (λz=>?_)
             ·refine AA U rfl<|AA U rfl<|AA U rfl<|AU (vs:=[.int .i64 E.1,.int .i64 (0:Int),.int .i64 G.1]) U λw0 qp ez=>?_;have⟨kr,ks,z⟩:=bS z;refine AV (ms:=([(E.1,(0:Int),G.1)]:List Av)) Br ez.tail.at1 rfl (oQ ez) (.cons (a:=[_,_,_]) ⟨[_],_,rfl,rfl,⟨[_],_,rfl,rfl,rfl⟩⟩ .nil) rfl ks ?_;intro w1 qq kt;exact lG rfl ⟨bz,kr,sb,iS z,kt.at3.at3.at3.at3⟩
             exact lG rfl ⟨bz,er,sb,iS z,U.at1.at3.at3.at3.at3⟩
            rintro w2 qr ⟨ku,kv,qs,rfl,kw⟩;exact lG rfl ⟨ku,kv,ko,sb,iS o,kp.up,kw.at1.tail.at2.at2.at2⟩
           exact lG rfl ⟨eo,er,kg,sb,iS o,es,bx.at2.at2.at2⟩
          rintro w3 qt ⟨kx,ky,kz,qu,rfl,l0,l1⟩;obtain rfl:=iS T;exact lH rfl rfl ⟨kx,ky,kz,sb,ki,rfl,l0,l1.at2.at2.at2⟩
         ·rintro _ G qv ⟨l2,l3,l4,qw,rfl,rfl,l5,l6⟩ l7;refine AW (dF e8 l7)<|AJ (lI rfl ⟨_,l2,l3,l4,sb,rfl,rfl,l5,l6.at2.at2.at2⟩)
         rintro w4 qx ⟨_,l8,l9,la,qy,_,rfl,lb,lc⟩;exact lJ rfl ⟨l8,l9,la,sb,iS m,lb,lc.at2.at2.at2⟩
        rintro w5 qz ⟨ld,le,lf,r0,rfl,lg,lh⟩;obtain rfl:=iS bt;exact lH rfl rfl ⟨ld,le,lf,sb,kb,rfl,lg,lh.at2.at2.at2⟩
       ·rintro _ E r3 ⟨li,lj,lk,r5,rfl,rfl,ll,f0⟩ lm;refine AA f0.at2 rfl<|AW (dF I lm)<|AJ (lI rfl ⟨_,li,lj,lk,sb,rfl,rfl,ll,f0.at2.at2.at2⟩)
       rintro w6 r6 ⟨_,ln,lo,lp,r7,_,rfl,lq,lr⟩;exact lJ rfl ⟨ln,lo,lp,sb,iS d,lq,lr.at1.tail.at1.at1⟩
     ·refine GP f λw7 r8 r9 V=>AP (oG (b:=v) (j:=1) V.at1 rfl)<|AP (by rw[Aj];exact(AG (oN sb V.sub) (P 1 _ rfl)))<|AP (oG (b:=v) (j:=0) V.at1 rfl)<|AP (oG (b:=r1) (j:=2) V.at3 rfl)<|GP V λw8 ra rb K=>AP (oG (b:=v) (j:=1) K.at2 rfl)<|AP (by rw[Aj];exact(AG (oN sb K.sub) (P 1 _ rfl)))<|AP (oG (b:=v) (j:=0) K.at2 rfl)<|AP (oG (b:=r1) (j:=2) K.at4 rfl) ?_;have⟨rc,ls,lt⟩:=Q.heap K.sub;have lu:=pR (r:=(oE .i64)) (l:=([]:nH)) (n:=0) K .nil rfl nQ;have⟨rd,lv,d⟩:=bS d;refine AV (ms:=bl) BR lu rfl lt ls bn.symm lv ?_;intro w9 re f1;have⟨rf,lw,d⟩:=bS d;refine AV (ms:=([c.2.2]:nH)) BR f1.at1.tail rfl (oQ f1.at1) (.cons (a:=[_]) rfl .nil) rfl lw ?_;intro W rg f2;refine BS (t:=p_0) f2.at3 ?_;have⟨rh,ri,lx,ly⟩:=oA (t:=W) f2;have⟨rj,lz,d⟩:=bS d;refine AK (Cy bg.up e.up lx ly lz) ?_;rintro _ rk ⟨f3,X,rl,rm,rfl,rfl,f4,m0⟩;refine⟨X,rfl,?_⟩;have f5:=f4.length;have⟨rn,m1,d⟩:=bS d;refine BD m1 (λm2 y x g=>∃ψ:AD,∃f6:List Av,∃f7:List Av,Sub f3 ψ∧y.1=m2∧(f6,f7)=g∧mE BA ψ y.2.2.1 f7∧St ψ (cR 146 BA y.2.1 f6::cW 146 v [.int .i64 c.1,.int .i64 c.2.1,.int .i64 c.2.2]::Wq2 r1 p_0::F) x) rfl ⟨f3,b5,N,sb,rfl,rfl,O.up,m0.at1.at2.at2.at2⟩ ?_ ?_ ?_
      ·rintro _ A ro _ _ ⟨bd,f8,f9,rp,rfl,rfl,fa,Y⟩ c0 rq m3 m4;refine AA Y.at2 rfl<|Ad (dT I m3) ?_;have⟨m5,p,c0⟩:=bS c0;refine Af (λy x g=>∃ψ:AD,∃fd:List Av,∃fl:List Av,Sub bd ψ∧(fd,fl)=g∧mE BA ψ y.2.1 fl∧St ψ (cR 146 BA y.1 fd::cW 146 v [.int .i64 c.1,.int .i64 c.2.1,.int .i64 c.2.2]::Wq2 r1 p_0::F) x) (g:=m5) ?_ ?_
       ·refine AA Y.at2 rfl<|Ik Jk e.k2 p Y λrr p=>mP p rfl (λp=>?_) (λp=>?_)
        ·have m6:=Y.at2;exact lI rfl ⟨bd,f8,f9,sb,iS p,fa,m6.at2.at2⟩
        have⟨rs,m7,p⟩:=bS p;refine BD m7 (λm8 y x g=>∃ψ:AD,∃fn:List Av,∃fo:List Av,Sub bd ψ∧y.1=m8∧(fn,fo)=g∧mE BA ψ y.2.2.1 fo∧St ψ (cR 146 BA y.2.1 fn::cW 146 v [.int .i64 c.1,.int .i64 c.2.1,.int .i64 c.2.2]::Wq2 r1 p_0::F) x) rfl ⟨bd,f8,f9,sb,rfl,rfl,fa,Y.at2.at2.at2⟩ ?_ ?_ ?_
        ·rintro _ B rt _ _ ⟨fr,fs,m9,ru,rfl,rfl,fv,c1⟩ Z rv ma mb;refine Ad (dT f5 ma)<|gx f4 Z c1 λrx Z=>?_;have⟨mc,q,Z⟩:=bS Z;refine AY (λy x g=>∃ψ:AD,∃fz:List Av,∃g0:List Av,Sub fr ψ∧(fz,g0)=g∧mE BA ψ y.2.1 g0∧St ψ (cR 146 BA y.1 fz::cW 146 v [.int .i64 c.1,.int .i64 c.2.1,.int .i64 c.2.2]::Wq2 r1 p_0::F) x) (g:=mc) ?_ ?_
         ·refine mP q rfl (λq=>?_) (λq=>?_)
          ·refine AU (vs:=[.int .i64 (0:Int),.int .i64 (0:Int),.int .i64 (0:Int)]) c1 λc4 ry md=>AQ md rfl rfl λrz me=>AQ me rfl rfl λs1 mf=>AQ mf rfl rfl λs2 bf=>AA bf rfl<|AA bf rfl<|AA bf rfl ?_;have⟨s3,mg,q⟩:=bS q;refine AK (Dd (A:=(A.1,(0:Int),B.1,())) fv bf mg) ?_;rintro _ s4 ⟨c2,h9,mh,s5,rfl,rfl,mi,b4⟩;refine⟨h9,rfl,?_⟩;have⟨mj,a0,q⟩:=bS q;refine AY (λy x g=>∃ψ:AD,∃g1:List Av,Sub c2 ψ∧g1=g∧St ψ (cR 146 BA y.1 g1::cW 146 c4 [.int .i64 A.1,.int .i64 (0:Int),.int .i64 B.1]::cW 146 v [.int .i64 c.1,.int .i64 c.2.1,.int .i64 c.2.2]::Wq2 r1 p_0::F) x) (g:=mj) ?_ ?_
           ·refine mP a0 rfl (λa0=>?_) (λa0=>?_)
            ·refine AA b4 rfl<|AA b4 rfl<|AA b4 rfl<|AU (vs:=[.int .i64 A.1,.int .i64 (0:Int),.int .i64 B.1]) b4 λu1 s6 g2=>?_;have⟨mk,ml,a0⟩:=bS a0;refine AV (ms:=([(A.1,(0:Int),B.1)]:List Av)) Br g2.tail.at1 rfl (oQ g2) (.cons (a:=[_,_,_]) ⟨[_],_,rfl,rfl,⟨[_],_,rfl,rfl,rfl⟩⟩ .nil) rfl ml ?_;intro u2 s7 mm;exact lG rfl ⟨c2,mk,sb,iS a0,mm.at3.at3.at3.at3⟩
            exact lG rfl ⟨c2,fs,sb,iS a0,b4.at1.at3.at3.at3.at3⟩
           rintro u3 s8 ⟨mn,mo,s9,rfl,mp⟩;exact lG rfl ⟨mn,mo,mh,sb,iS q,mi.up,mp.at1.tail.at2.at2.at2⟩
          exact lG rfl ⟨fr,fs,m9,sb,iS q,fv,c1.at2.at2.at2⟩
         rintro u4 sa ⟨mq,mr,mu,sc,rfl,mv,mw⟩;obtain rfl:=iS Z;exact lH rfl rfl ⟨mq,mr,mu,sb,mb,rfl,mv,mw.at2.at2.at2⟩
        ·rintro _ B sd ⟨mx,my,mz,se,rfl,rfl,n0,n1⟩ n2;refine AW (dF f5 n2)<|AJ (lI rfl ⟨_,mx,my,mz,sb,rfl,rfl,n0,n1.at2.at2.at2⟩)
        rintro u5 sf ⟨_,n3,n4,n5,sg,_,rfl,n6,n7⟩;exact lJ rfl ⟨n3,n4,n5,sb,iS p,n6,n7.at2.at2.at2⟩
       rintro u6 sh ⟨n8,n9,na,si,rfl,nb,nc⟩;obtain rfl:=iS c0;exact lH rfl rfl ⟨n8,n9,na,sb,m4,rfl,nb,nc.at2.at2.at2⟩
      ·rintro _ A sj ⟨nd,nf,ng,sk,rfl,rfl,nh,g3⟩ ni;refine AA g3.at2 rfl<|AW (dF I ni)<|AJ (lI rfl ⟨_,nd,nf,ng,sb,rfl,rfl,nh,g3.at2.at2.at2⟩)
      rintro u7 sl ⟨_,nj,nk,nl,sm,_,rfl,nm,nn⟩;exact lJ rfl ⟨nj,nk,nl,sb,iS d,nm,nn.at1.tail.at1.at1⟩
    rintro z8 sn ⟨np,nq,nr,so,rfl,ns,nt⟩;obtain rfl:=iS u;exact lH rfl rfl ⟨np,nq,nr,sb,rfl,ns,nt.at1.at1⟩
   obtain rfl:=iS u;obtain rfl:=gs _ rfl;exact AJ (lI rfl ⟨cl,N,sb,rfl,O,b6.tail⟩)
 rintro z6 sp ⟨nu,nv,sq,rfl,nw,nx⟩;exact AC ⟨nu,z6.2.2.1,nv,sb,rfl,iS hd,nw,nx.tail⟩
noncomputable def C5(a_0:List Av)(b_1:List Av):Option Bool:=
 cond ((a_0.length:Int) !=(b_1.length:Int))
 (some false)
 ((C6 (σ:=Unit) (β:=Bool) 0 (a_0.length:Int) () λa f=>
  (idx a_0 a).bind λb=>
  (idx b_1 a).bind λc=>
  cond (!(((b.1==c.1) && ((b.2.1==c.2.1) && true)) && ((b.2.2==c.2.2) && true)))
  (some (oM false))
  (some (oP ()))).bind λd=>match d with
  |.next g=>
   some true
  |.done e=>some e)
theorem LI{a_0:Slc}{c:List Av}{b_1:Slc}{d:List Av}(f:mE BA φ a_0 c)(i:mE BA φ b_1 d)(v:St φ F h){r:Bool}(hd:C5 c d=some r):
 nX hM 69 [sv a_0,sv b_1] h (An (mM φ r F)):=by
 refine AT mixed func69 (LE ..) ?_;have e:a_0.2.1=oL c:=f.length;have k:b_1.2.1=oL d:=i.length;refine mP hd (by rw[e,k] <;>rfl) (λhd=>?_) (λhd=>?_)
 ·exact AC ⟨φ,false,sb,rfl,iS hd,v⟩
 have⟨z,l,hd⟩:=bS hd;refine BQ l (λm y A g=>∃ψ:AD,Sub φ ψ∧y.1=m∧()=g∧St ψ F A) rfl ⟨φ,sb,rfl,rfl,v⟩ ?_ ?_ ?_
 ·rintro _ B a0 _ _ ⟨j,C,rfl,rfl,b⟩ a D n o p;refine Ad (dT e n)<|ZG f a b λE a=>ZG i a b λG a=>mP a rfl (λa=>?_) (λa=>?_)
  ·obtain rfl:=iS a;obtain rfl:=p _ rfl;obtain rfl:=iS hd;exact Ak (Ah (AC ⟨j,false,sb,rfl,rfl,b⟩))
  obtain rfl:=iS a;exact lH rfl rfl ⟨j,sb,o,rfl,b⟩
 ·rintro _ B H _ ⟨q,I,rfl,rfl,s⟩ t u;subst u;refine AW (dF e t)<|AJ (lI rfl ⟨_,rfl,_,q,sb,rfl,rfl,s⟩)
 rintro J K ⟨_,rfl,_,w,L,_,rfl,x⟩;exact AC ⟨w,true,sb,rfl,iS hd,x⟩
noncomputable def Ca(l_0:Hm)(a:Int):Option nH:=(cond (decide (a< 0)) (some true) (some (decide (a≥ (l_0.2.2.2.2.2.2.1.2.2.2.2.2.2.2.1.length:Int))))).bind λi=>cond i (some ([]:nH)) ((loop (σ:=(Int×nH)) (β:=nH) (0,([]:nH)) λc=>(idx l_0.2.2.2.2.2.2.1.2.2.2.2.2.2.2.1 a).bind λd=>cond (decide (c.1< (d.length:Int))) ((idx l_0.2.2.2.2.2.2.1.2.2.2.2.2.2.2.1 a).bind λe=>(idx e c.1).bind λb=>(idx l_0.2.2.1 b.1).bind λf=>(cond (b.2==(f.2.1.length:Int)) ((app c.2 ([b.1]:nH)).bind λg=>some g) (some c.2)).bind λh=>some (oP ((bO .i64 (c.1+1)),h))) (some (oM c.2))).bind λj=>some j)
theorem HY{l_0:nG}{m:Hm}{n:Int}(j:Pt OP φ l_0 m)(A:St φ F h){r:nH}(hd:Ca m n=some r):
 nX hM 70 [lP l_0,lN n] h (An (mO φ (oE .i64) r F)):=by
 refine AT mixed func70 (HV ..) ?_;have⟨x,f,hd⟩:=bS hd;refine AY (λy v g=>∃ψ:AD,Sub φ ψ∧y.1=g∧St ψ F v) (g:=x) ?_ ?_
 ·refine mP f rfl (λf=>?_) (λf=>?_)
  ·exact lG rfl ⟨φ,sb,iS f,A⟩
  refine pfR Tf j A λbj z=>pfR V2 z A λa0 D=>?_;have E:=D.length;obtain rfl:=iS f;exact lG rfl ⟨φ,sb,(by rw[E]),A⟩
 rintro z1 bl ⟨i,bn,rfl,o⟩;refine mP hd rfl (λhd=>?_) (λhd=>?_)
 ·exact AC ⟨i,mQ,[],sb,rfl,iS hd,(qH (oE .i64) i),o⟩
 have⟨G,H,hd⟩:=bS hd;refine Af (λy v g=>∃ψ:AD,∃p:nH,Sub i ψ∧p=g∧St ψ (cR 3 (oE .i64) y.2.1 p::F) v) (g:=G) ?_ ?_
 ·refine Bx H (λy v g=>∃ψ:AD,∃q:nH,Sub i ψ∧(y.1,q)=g∧St ψ (cR 3 (oE .i64) y.2.1 q::F) v) rfl ⟨i,[],sb,rfl,(o.nil 3 (oE .i64))⟩ ?_
  ·rintro z7 bp _ _ ⟨k,s,bq,rfl,c⟩ b I;refine pfR Tf j c λbs J=>pfR V2 J c λbt K=>gxS K b c λbx bz L b=>?_;have M:=L.length;refine mP b (by rw[M] <;>rfl) (λb=>?_) (λb=>?_)
   ·refine pfR Tf j c λc0 N=>pfR V2 N c λc1 al=>gxS al b c λc2 c3 ap b=>QQ ap b c λl b=>AU (vs:=[.int .i64 (0:Int),.int .i64 (0:Int)]) c λB c4 O=>AQ O rfl rfl λc5 P=>AQ P rfl rfl λc6 d=>AA d rfl<|pfR XC j d λc7 Q=>AA d rfl<|ixR Gf Q b d λc8 c9 R b=>?_;have S:=R.length;have⟨T,e,b⟩:=bS b;refine AY (λy v g=>∃ψ:AD,∃u:nH,Sub k ψ∧u=g∧St ψ (cR 3 (oE .i64) y.1 u::cW 116 B [.int .i64 l.1,.int .i64 l.2]::F) v) (g:=T) ?_ ?_
    ·refine mP e (by rw[S] <;>rfl) (λe=>?_) (λe=>?_)
     ·refine AA d rfl<|AU (vs:=[.int .i64 l.1]) d λU ch w=>?_;have⟨V,W,e⟩:=bS e;refine AV (ms:=([l.1]:nH)) BR w.tail.at1 rfl (oQ w) (.cons (a:=[_]) rfl .nil) rfl W ?_;intro X cl Y;exact lG rfl ⟨k,V,sb,iS e,Y.at1.at1⟩
     exact lG rfl ⟨k,s,sb,iS e,d.at1.at1.at1⟩
    rintro Z cm ⟨b8,b9,cp,rfl,ba⟩;obtain rfl:=iS b;exact lH rfl rfl ⟨b8,b9,sb,rfl,ba.at1.tail⟩
   obtain rfl:=iS b;obtain rfl:=I _ rfl;exact AJ (lI rfl ⟨k,s,sb,rfl,c⟩)
 rintro C cs ⟨cw,bb,cx,rfl,bd⟩;have⟨bf,d0,bg,bi⟩:=oA (t:=C.2.1) bd;exact AC ⟨bf,C.2.1,bb,sb,rfl,iS hd,bg,bi⟩
noncomputable def CJ(l_0:Hm)(a:Int)(b:Int):Option nH:=(cond (decide (a< 0)) (some true) (cond (decide (a≥ (l_0.2.2.2.2.2.2.2.length:Int))) (some true) (cond (decide (b< 0)) (some true) (some (decide (b≥ (l_0.2.2.1.length:Int))))))).bind λf=>cond f (some ([]:nH)) ((idx l_0.2.2.2.2.2.2.2 a).bind λc=>(idx c b).bind λd=>(Do d).bind λe=>some e)
theorem IK{l_0:nG}{d:Hm}{e:Int}{v:Int}(c:Pt OP φ l_0 d)(A:St φ F h){r:nH}(hd:CJ d e v=some r):
 nX hM 72 [lP l_0,lN e,lN v] h (An (mO φ (oE .i64) r F)):=by
 refine AT mixed func72 (IH ..) ?_;have⟨i,a,hd⟩:=bS hd;refine AY (λy C g=>∃ψ:AD,Sub φ ψ∧y.1=g∧St ψ F C) (g:=i) ?_ ?_
 ·refine mP a rfl (λa=>?_) (λa=>?_)
  ·exact lG rfl ⟨φ,sb,iS a,A⟩
  refine pfR XD c A λz j=>?_;have k:=j.length;refine mP a (by rw[k] <;>rfl) (λa=>?_) (λa=>?_)
  ·exact lG rfl ⟨φ,sb,iS a,A⟩
  refine mP a rfl (λa=>?_) (λa=>?_)
  ·exact lG rfl ⟨φ,sb,iS a,A⟩
  refine pfR XC c A λl m=>?_;have n:=m.length;obtain rfl:=iS a;exact lG rfl ⟨φ,sb,(by rw[n]),A⟩
 rintro D a0 ⟨f,E,rfl,b⟩;refine mP hd rfl (λhd=>?_) (λhd=>?_)
 ·exact AC ⟨f,mQ,[],sb,rfl,iS hd,(qH (oE .i64) f),b⟩
 refine pfR XD c b λG o=>gxS o hd b λH I p hd=>gxS p hd b λJ K q hd=>?_;have⟨L,s,hd⟩:=bS hd;refine AK (LA q.up b s) ?_;rintro _ M ⟨t,B,u,N,rfl,rfl,w,x⟩;exact⟨B,rfl,AC ⟨t,B,u,sb,rfl,iS hd,w,x⟩⟩
end
end Go.Proofs.YtfnppeejaimnbaaGreatDoor
namespace Go.Proofs.YtfnppeejaimnbaaGreatDoor
open Go Go.Eng Dg
section
variable {φ ψ φ0:AD}{h:AH}{F:List Chk}{p_0:Slc×Slc×Slc×Slc×Slc×Slc×Unit}{d0:List nI}{d1:List nI}{d2:List Ap}{d3:nH}{d4:nH}{d5:List nI}
theorem ii(n:Chk)(B D G:List Chk):(D++(B++(n::G))).Perm (n::(B++(D++G))):=
 (pT _ _ _).trans ((pG B pP).trans pP)
theorem ij(n:Chk)(B D G:List Chk):(D++(n::(B++G))).Perm (n::(B++(D++G))):=
 List.perm_middle.trans (oD _ (pT _ _ _))
theorem ik(n:Chk)(B D G:List Chk):(n::(D++(B++G))).Perm (n::(B++(D++G))):=
 oD _ (pT _ _ _)
theorem Ye(k0:mE pO φ p_0.1 d0)(m:mE pO φ p_0.2.1 d1)(K:mE BL φ p_0.2.2.1 d2)(L:mE (oE .i64) φ p_0.2.2.2.1 d3)(M:mE (oE .i64) φ p_0.2.2.2.2.1 d4)(N:mE pO φ p_0.2.2.2.2.2.1 d5)(O:St φ F h){r:QN}(hd:R4 (d0,d1,d2,d3,d4,d5)=some r):
 nX hM 66 [.agg #[.slice p_0.1.1 p_0.1.2.1 p_0.1.2.2,.slice p_0.2.1.1 p_0.2.1.2.1 p_0.2.1.2.2,.slice p_0.2.2.1.1 p_0.2.2.1.2.1 p_0.2.2.1.2.2,.slice p_0.2.2.2.1.1 p_0.2.2.2.1.2.1 p_0.2.2.2.1.2.2,.slice p_0.2.2.2.2.1.1 p_0.2.2.2.2.1.2.1 p_0.2.2.2.2.1.2.2,.slice p_0.2.2.2.2.2.1.1 p_0.2.2.2.2.2.1.2.1 p_0.2.2.2.2.2.1.2.2]] h
  (An λv B=>∃ψ:AD,∃y:nG,∃l:QN,Sub φ ψ∧v=lR.val y∧l=r∧Pt bQ ψ y l∧St ψ F B):=by
 have k:PlK φ p_0 (d0,d1,d2,d3,d4,d5):=⟨k0,m,K,L,M,N⟩;obtain⟨t,P⟩:∃t,p_0=t:=⟨_,rfl⟩;rw[P]at k ⊢;refine A9 mixed func66 ?_;rw[ND];unfold Ic;unfold R4 at hd;have⟨null,Q,hd⟩:=bS hd;have⟨V,c,hd⟩:=bS hd;refine AU (vs:=plV t) O ?_;intro r1 W C;have⟨R,o,E,C⟩:=rU C;have S:t.2.1.2.1=d1.length:=k.k1.length;have p:∀ {ψ:AD} {Γ:List Chk} {B:AH},Sub R ψ→St ψ Γ B→ ∀j v,(plV t)[j]? =some v→Bb B ⟨r1,j,none⟩=some v:=λ{ψ Γ B} le st=>Ie (E.mono le) st;have w:=p (pK _) C;have m:=k.mono o;refine AF (w 1 _ rfl) rfl<|FN w<|FN w ?_;have mk:EC (bO .i64 ((t.2.1.2.1:Int)+1)) false=some null:=by rw[S];exact Q
 refine DP ?_ ?_
 ·refine FW (r:=oI) (x:=false) J9 C rfl rfl mk ?_;intro n H s;have d:=p (pK _) s
  repeat refine AP (d _ _ rfl) ?_
  refine AK (Jb m s c) ?_;rintro _ T ⟨U,f,us,a,rfl,q,G,A⟩;refine⟨f,rfl,?_⟩;have z:=p a A
  repeat refine AP (z _ _ rfl) ?_
  refine AK (Jb (m.mono a) A c) ?_;rintro _ I ⟨J,g,vs,b,rfl,e,D,u⟩;refine⟨g,rfl,?_⟩;have i:=p (a.trans b) u
  repeat refine AP (i _ _ rfl) ?_
  exact bR (n:=n) (f:=f) (g:=g) (E.mono (a.trans b)) (m.mono (a.trans b)) (o.trans (a.trans b)) (G.mono b) D q e hd (u.perm (ii _ _ _ _))
 ·refine AK (Jb m C c) ?_;rintro _ T ⟨U,f,us,a,rfl,q,G,A⟩;refine⟨f,rfl,?_⟩;have z:=p a A
  repeat refine AP (z _ _ rfl) ?_
  refine DP ?_ ?_
  ·refine FW (r:=oI) (x:=false) J9 A rfl rfl mk ?_;intro n H s;have d:=p a s
   repeat refine AP (d _ _ rfl) ?_
   refine AK (Jb (m.mono a) s c) ?_;rintro _ I ⟨J,g,vs,b,rfl,e,D,u⟩;refine⟨g,rfl,?_⟩;have i:=p (a.trans b) u
   repeat refine AP (i _ _ rfl) ?_
   exact bR (n:=n) (f:=f) (g:=g) (E.mono (a.trans b)) (m.mono (a.trans b)) (o.trans (a.trans b)) (G.mono b) D q e hd (u.perm (ij _ _ _ _))
  ·refine AK (Jb (m.mono a) A c) ?_;rintro _ I ⟨J,g,vs,b,rfl,e,D,u⟩;refine⟨g,rfl,?_⟩;have i:=p (a.trans b) u
   repeat refine AP (i _ _ rfl) ?_
   refine FW (r:=oI) (x:=false) J9 u rfl rfl mk ?_;intro n H s;have d:=p (a.trans b) s
   repeat refine AP (d _ _ rfl) ?_
   exact bR (n:=n) (f:=f) (g:=g) (E.mono (a.trans b)) (m.mono (a.trans b)) (o.trans (a.trans b)) (G.mono b) D q e hd (s.perm (ik _ _ _ _))
end
end Go.Proofs.YtfnppeejaimnbaaGreatDoor
