/- The parts Ref13 to LawsK, put together. Conditions: each tells its own. -/
import Derived.Test.YtfnppeejaimnbaaGreatDoorKt5
import Derived.Test.YtfnppeejaimnbaaGreatDoorKt2
import Derived.Test.YtfnppeejaimnbaaGreatDoorKt3
import Derived.KernelRfl
import Derived.Test.YtfnppeejaimnbaaGreatDoorKt4
set_option linter.unusedVariables false
set_option maxRecDepth 100000
set_option maxHeartbeats 4000000
open List renaming getElem?_eq_getElem → bD,mem_of_getElem? → bO,getElem?_eq_some_iff → eE,getElem?_of_mem → nZ,range → oA,getElem?_set_self → oC,mem_singleton → oD,eq_nil_of_length_eq_zero → oE,length_map → oF,getElem?_append_left → oJ,eq_of_mem_replicate → oM,append_assoc → oN,getElem?_set_ne → oR,getElem?_map → oT,length_set → oU,mem_append → oV,map_append → oW,mem_cons_of_mem → oY,mem_of_mem_drop → oZ,length_append → pC,getElem?_eq_none → pE,perm_append_comm_assoc → pF,take_add_one → pG,getElem?_append_right → pI,mem_or_eq_of_mem_set → pK,getElem?_range → pL,getElem?_cons_zero → pN,length_range → pR,take_of_length_le → pS,length_cons → pU,nil_append → pX,append_nil → pY,dropLast_concat_getLast → pZ,mem_filter → qB,range_succ → qC,mem_cons_self → qH,replicate → qJ,length → qM,perm_middle → qP,take_length → qQ,getElem_mem → qR,pairwise_singleton → qS,mem_map → qV,length_nil → qZ,mem_range → rC,mem_append_left → rD,pairwise_append → rE,mem_cons → rJ,any_eq_false → rO,append_inj' → rP,mem_flatMap → rQ,any_eq_true → rR
open Go.IntKind renaming wrap → hC
open Go.Eng.Ro renaming SliceIs → hM,list → oB,int → oG,slc → pT,bool → qT,str → rG
open Option renaming bind_some → mE,bind → pJ,isNone → qO
open Nat renaming lt_succ_iff_lt_or_eq → nY,eq_zero_or_pos → pM,zero_le → pO,lt_or_ge → pQ,le_refl → qL,le_trans → qX,mul_le_mul → rF,add_sub_cancel → rL
open Int renaming eq_ofNat_of_zero_le → oH,toNat_natCast → oI,toNat_of_nonneg → pA,not_lt → qD,le_refl → qN,lt_or_le → qY
open Go.Eng.St renaming freezeRow → oK,unpair → pD,cells → pP,unro → rH,cell → rI,ro → rZ,lit → sE,get → sF
open Go.Eng.Sub renaming trans → oL,refl → pV
open Go.Proofs.Tryz renaming prog → oO,underlying151 → rK,underlying147 → rM
open Go.Eng.AX renaming next → oP,done → oS
open Go.Eng.Ok renaming eq → oQ
open Bool renaming eq_iff_iff → oX,false_ne_true → qG
open List.Perm renaming append_right → pB,cons → pH,append_left → rA,refl → rU,swap → rV
open Prod renaming ext → pW,ext_iff → qU
open Decidable renaming em → rN
open Iff renaming rfl → rS
open Go.Eng.Np renaming none → rT
open Go.Eng.Ro.SliceIs renaming nil → rX
open Go.Proofs.YtfnppeejaimnbaaGreatDoor.Lt renaming irrefl → rY,nodup → sC,trans → sD
open Go.Proofs.YtfnppeejaimnbaaGreatDoor.Pth renaming app → sB
open Go.Proofs.Tryz
namespace Go.Proofs.YtfnppeejaimnbaaGreatDoor
open Go Go.Eng Dg
theorem il:Fy oO 151 151 154 1:=⟨rK,.inl rK,⟨t154,nU,rfl,⟨_,rfl,rfl⟩,nQ,nQ⟩,nQ⟩
abbrev One:Type:=Av
abbrev L3:Type:=List (List (List Bool))
noncomputable def UL(nt nr:Int):Option (List (List Bool)):=forS 0 nr ([]:List (List Bool)) λ_ l=>(EC nt false).bind λrow=>app l [row]
noncomputable def PD(nt nr nk:Int):Option L3:=forS 0 nk ([]:L3) λ_ L=>(UL nt nr).bind λl=>app L [l]
noncomputable def Qp(rs:List Ap)(pl:nH)(i:Int)(x:One)(L:L3):Option L3:=(idx pl i).bind λq=>(cond (decide (q≥0)) ((idx rs x.1).bind λr=>some (x.2.1==(r.2.1.length:Int))) (some false)).bind λb=>cond b ((idx L q).bind λl=>(idx l x.1).bind λrow=>(DQ row x.2.2 true).bind λa=>some (L.set q.toNat (l.set x.1.toNat a))) (some L)
noncomputable def PE(rs:List Ap)(pl:nH)(al:List (List One))(L:L3):Option L3:=forS 0 (al.length:Int) L λi L=>(idx al i).bind λrow=>forS 0 (row.length:Int) L λj L=>(idx row j).bind λx=>Qp rs pl i x L
noncomputable def PG(p:As)(A:QR)(pl:nH)(al:List (List One)):Option (Option Hm):=(PD (p.1.length:Int) (p.2.2.1.length:Int) (A.2.2.2.2.2.2.1.length:Int)).bind λL=>(PE p.2.2.1 pl al L).bind λL=>some (some (p.1,p.2.1,p.2.2.1,p.2.2.2.1,p.2.2.2.2.1,p.2.2.2.2.2,A,L))
def r3:List (List Slc)→L3→List Chk
 |u::us,l::L=>rB u l++r3 us L
 |_,_=>[]
theorem dz:∀ {us:List (List Slc)}{L:L3},us.length=L.length→ ∀(u:List Slc) (l:List (List Bool)),r3 (us++ [u]) (L++ [l])=r3 us L++rB u l:=by
 intro us
 induction us with
 |nil=>intro L h u l;cases L with
  |nil=>simp[r3]
  |cons _ _=>cases h
 |cons a us c=>intro L h u l;cases L with
  |nil=>cases h
  |cons b L=>show rB a b++r3 (us++ [u]) (L++ [l])=_;rw[c (by simpa using h)];simp[r3]
theorem bY:∀ {us:List (List Slc)}{L:L3}{k:Nat}{u:List Slc}{l:List (List Bool)},us[k]? =some u→L[k]? =some l→ ∃rest,(r3 us L).Perm (rB u l++rest)∧ ∀l',(r3 us (L.set k l')).Perm (rB u l'++rest):=by
 intro us
 induction us with
 |nil=>intro L k u l h;simp at h
 |cons a us e=>
  intro L k u l d c;cases L with
  |nil=>simp at c
  |cons b L=>
   cases k with
   |zero=>
    simp only[pN,Option.some.injEq]at d c;subst d c;exact⟨r3 us L,rU _,λl'=>rU _⟩
   |succ k=>
    obtain⟨rest,f,g⟩:=e (by simpa using d) (by simpa using c);exact⟨rB a b++rest,(rA _ f).trans (pF _ _ _),λl'=>(rA (rB a b) (g l')).trans (pF _ _ _)⟩
theorem Yf{us:List (List Slc)}{L:L3}{k j:Nat}{u:List Slc}{l:List (List Bool)}{s:Slc}{row:List Bool}(b:us[k]? =some u)(c:L[k]? =some l)(d:u[j]? =some s)(e:l[j]? =some row):∃rest,(r3 us L).Perm (cR 4 qT s row::rest)∧ ∀a,(r3 us (L.set k (l.set j a))).Perm (cR 4 qT s a::rest):=by have⟨r1,f,g⟩:=bY b c;have⟨h,i,m⟩:=P3 d e;exact⟨h++r1,f.trans (pB _ i),λa=>(g _).trans (pB _ (m a))⟩
theorem St.freeze3:∀ {us:List (List Slc)}{L:L3}{φ:AD}{h:AH}{F:List Chk},us.length=L.length→(∀(k:Nat) u l,us[k]? =some u→L[k]? =some l→u.length=l.length)→St φ (r3 us L++F) h→
 ∃ψ,Sub φ ψ∧(∀(k:Nat) u l,us[k]? =some u→L[k]? =some l→ ∀(i:Nat) s r,u[i]? =some s→l[i]? =some r→hM qT ψ s r)∧St ψ F h:=by
 intro us
 induction us with
 |nil=>
  intro L φ h F f _ H;cases L with
  |nil=>exact⟨φ,pV _,λk u l h=>by simp at h,H⟩
  |cons _ _=>cases f
 |cons a us m=>
  intro L φ h F f j H;cases L with
  |nil=>cases f
  |cons b L=>
   obtain⟨x,g,n,o⟩:=St.freezeRows (ts:=a) (ls:=b) (j 0 a b rfl rfl) (by simpa[r3]using H);obtain⟨p,c,q,t⟩:=m (by simpa using f) (λk u l d e=>j (k+1) u l (by simpa using d) (by simpa using e)) o;refine⟨p,g.trans c,λk u l d e=>?_,t⟩;cases k with
   |zero=>
    simp only[pN,Option.some.injEq]at d e;subst d e;exact λi s r v w=>(n i s r v w).mono c
   |succ k=>exact q k u l (by simpa using d) (by simpa using e)
theorem Yg{φ:AD}:∀ {us:List (List Slc)}{L:L3}{vs:List Value},us.length=L.length→(∀(k:Nat) u l,us[k]? =some u→L[k]? =some l→u.length=l.length∧ ∀(i:Nat) s r,u[i]? =some s→l[i]? =some r→hM qT φ s r)→(oB pT).All φ vs us→(oB (oB qT)).All φ vs L:=by
 intro us
 induction us with
 |nil=>intro L vs c _ H;cases L with
  |nil=>cases H;exact .nil
  |cons _ _=>cases c
 |cons a us f=>
  intro L vs c d H;cases L with
  |nil=>cases c
  |cons b L=>
   cases H with
   | @cons x v _ _ g h=>
    obtain⟨s,rfl,j⟩:=g;have⟨e,m⟩:=d 0 a b rfl rfl;exact Ro.All.cons (a:=[_]) ⟨s,rfl,KA e m j⟩ (f (by simpa using c) (λk u l n o=>d (k+1) u l (by simpa using n) (by simpa using o)) h)
theorem VY{φ:AD}{o:Slc}{us:List (List Slc)}{L:L3}(a:us.length=L.length)(b:∀(k:Nat) u l,us[k]? =some u→L[k]? =some l→u.length=l.length∧ ∀(i:Nat) s r,u[i]? =some s→l[i]? =some r→hM qT φ s r)(H:hM (oB pT) φ o us):hM (oB (oB qT)) φ o L:=by obtain⟨c,d,e,f,vs,g,h⟩:=H;exact⟨a.symm.trans c,d,e,λj=>oE (by rw[←a,f j];rfl),vs,Yg a b g,h⟩
section
variable {φ ψ φ0:AD}{h:AH}{F:List Chk}{t:Slc×Slc×Slc×Slc×Slc×Slc×Unit}{p:dtP}{r1:Nat}{a_1:nG}{A:QR}{pl al:Slc}{dpl:nH}{dal:List (List One)}
theorem Yh(b7:Sub φ0 φ)(k:PlK φ t p)(ka:Pt QS φ a_1 A)(kp:hM (oG .i64) φ pl dpl)(kl:hM (oB BA) φ al dal){r:Option Hm}(s0:St φ (cW 32 r1 (plV t)::F) h)(hd:PG p A dpl dal=some r):
 (Wg r1 a_1 pl al).wp oO (NP (An λv R=>∃ψ:AD,∃y:nG,∃l:Option Hm,Sub φ0 ψ∧v=lR.val y∧l=r∧Np OP ψ y l∧St ψ F R)) h:=by
 unfold Wg;unfold PG at hd;have⟨L0,a7,hd⟩:=bS hd;have⟨L1,a8,hd⟩:=bS hd;obtain rfl:=iS hd;have⟨φ1,S,cB,s1⟩:=St.blk s0;have hc:∀ {ψ:AD} {Γ:List Chk} {R:AH},Sub φ1 ψ→St ψ Γ R→ ∀j v,(plV t)[j]? =some v→Bb R ⟨r1,j,none⟩=some v:=λ{ψ Γ R} le st=>Ie (cB.mono le) st;have n0:t.1.2.1=p.1.length:=k.k0.length;have n2:t.2.2.1.2.1=p.2.2.1.length:=k.k2.length;refine FN (hc (pV _) s1)<|AU (vs:=[sv t.1,sv t.2.1,sv t.2.2.1,sv t.2.2.2.1,sv t.2.2.2.2.1,sv t.2.2.2.2.2.1,.pointer a_1,.slice none 0 0]) s1 λI P s2=>?_;obtain⟨aA,vA,eA,⟨_,_,rfl,⟨_,rfl,_⟩,_,_,rfl,⟨_,rfl,_⟩,_,_,rfl,⟨_,rfl,_⟩,_,_,rfl,⟨_,rfl,_⟩,_,_,rfl,⟨_,rfl,_⟩,_,_,rfl,⟨_,rfl,_⟩,_,_,rfl,⟨tK,rfl,kK⟩,_⟩,cA⟩:=ka.mono S;have s3:=(s2.nil 154 (oB pT)).at1;refine Af (λ(z:Int×Unit) w (g:L3)=>∃(ψ:AD) (us:List (List Slc)) (o:Slc),Sub φ1 ψ∧us.length=g.length∧(∀(k:Nat) u l,us[k]? =some u→g[k]? =some l→u.length=l.length)∧St ψ (cW 153 I [sv t.1,sv t.2.1,sv t.2.2.1,sv t.2.2.2.1,sv t.2.2.2.2.1,sv t.2.2.2.2.2.1,.pointer a_1,sv o]::cR 154 (oB pT) o us::(r3 us g++F)) w) (g:=L0) ?_ ?_
 ·unfold PD at a7;refine By a7 (λi (z:Int×Unit) w g=>z.1=i∧ ∃(ψ:AD) (us:List (List Slc)) (o:Slc),Sub φ1 ψ∧us.length=g.length∧(∀(k:Nat) u l,us[k]? =some u→g[k]? =some l→u.length=l.length)∧St ψ (cW 153 I [sv t.1,sv t.2.1,sv t.2.2.1,sv t.2.2.2.1,sv t.2.2.2.2.1,sv t.2.2.2.2.2.1,.pointer a_1,sv o]::cR 154 (oB pT) o us::(r3 us g++F)) w) rfl ⟨rfl,φ1,[],DC,pV _,rfl,λk u l h=>by simp at h,s3⟩ ?_ ?_
  ·rintro _ ⟨i,_⟩ w g e ⟨rfl,ψ,us,o,le,c,d,st⟩ T h0 hlt hw;dsimp only at c d st T h0 hlt hw ⊢;refine AI _ eA<|AF (AG (le.trans st.sub) (cA.at 6 rfl)) rfl<|Ad (by rw[kK.length];exact mW hlt) ?_;have⟨l0,a9,T⟩:=bS T;refine Af (λ(z:Int×Slc×Unit) w (l:List (List Bool))=>∃(L:AD) (G:List Slc),Sub ψ L∧G.length=l.length∧St L (cR 100 pT z.2.1 G::(rB G l++(cW 153 I [sv t.1,sv t.2.1,sv t.2.2.1,sv t.2.2.2.1,sv t.2.2.2.2.1,sv t.2.2.2.2.2.1,.pointer a_1,sv o]::cR 154 (oB pT) o us::(r3 us g++F)))) w) (g:=l0) ?_ ?_
   ·unfold UL at a9;refine By a9 (λi (z:Int×Slc×Unit) w l=>z.1=i∧ ∃(L:AD) (G:List Slc),Sub ψ L∧G.length=l.length∧St L (cR 100 pT z.2.1 G::(rB G l++(cW 153 I [sv t.1,sv t.2.1,sv t.2.2.1,sv t.2.2.2.1,sv t.2.2.2.2.1,sv t.2.2.2.2.2.1,.pointer a_1,sv o]::cR 154 (oB pT) o us::(r3 us g++F)))) w) rfl ⟨rfl,ψ,[],pV _,rfl,St.nil _ _ st⟩ ?_ ?_
    ·rintro _ ⟨kk,zl,_⟩ w2 l e2 ⟨rfl,ψ2,G,D,C,s⟩ J b0 b1 M;dsimp only at C s J b0 b1 M ⊢;refine AF (hc (le.trans D) s 2 _ rfl) rfl<|Ad (by rw[n2];exact mW b1)<|AF (hc (le.trans D) s 0 _ rfl) rfl ?_;have⟨row,b8,J⟩:=bS J;refine FW (r:=qT) (x:=false) J9 s rfl rfl (by rw[n0];exact b8) ?_;intro t6 h3 s3;refine AU (vs:=[sv t6]) s3 ?_;intro r7 h4 s4;obtain⟨X,rfl⟩:=Hu J C t6;refine AV (ms:=[t6]) fB (s4.at2) rfl (pP s4) (.cons (a:=[_]) rfl .nil) rfl X ?_;intro t8 h5 s5;refine lH rfl rfl ⟨M,ψ2,G++ [t6],D,by simp[C],?_⟩;dsimp only;rw[Xi C,oN];exact s5.at1.tail.perm (pH _ (qP (l₁:=rB G l)).symm)
    ·rintro _ ⟨kk,zl,_⟩ w2 ⟨rfl,ψ2,G,D,C,s⟩ hge;dsimp only at C s hge ⊢;refine AF (hc (le.trans D) s 2 _ rfl) rfl<|AW (by rw[n2];exact mV (qD.2 hge))<|AJ (lI rfl ⟨ψ2,G,D,C,s⟩)
   ·rintro⟨zk,zl,_⟩ w2 ⟨ψ2,G,D,C,s⟩;dsimp only at C s ⊢;have⟨Y,Z,b9,c0⟩:=oK (t:=zl) s;have b2:=c0.perm (qP (l₁:=rB G l0));refine AA b2 rfl<|AU (vs:=[sv zl]) b2 ?_;intro c2 h5 s5;have s6:St Y (cR 154 (oB pT) o us::cW 154 c2 [sv zl]::cW 153 I [sv t.1,sv t.2.1,sv t.2.2.1,sv t.2.2.2.1,sv t.2.2.2.2.1,sv t.2.2.2.2.2.1,.pointer a_1,sv o]::(rB G l0++(r3 us g++F))) h5:=
     s5.perm ((pH _ (pH _ (qP (l₁:=rB G l0)))).trans ((pH _ (rV _ _ _)).trans (rV _ _ _)))
    obtain⟨X,rfl⟩:=Hu T c G;refine AV (ms:=[G]) il s6 rfl (pP s5) (.cons (a:=[_]) ⟨zl,rfl,b9⟩ .nil) rfl X ?_;intro c4 h7 s7;refine AQ s7.at2 rfl rfl λh8 s8=>lH rfl rfl ⟨hw,Y,us++ [G],c4,(le.trans D).trans Z,by simp[c],?_,?_⟩
    ·intro k u l Q P;rcases pQ k us.length with g' | g'
     ·rw[oJ g']at Q;rw[oJ nJ]at P;exact d k u l Q P
     ·rw[pI g']at Q;rw[pI nJ]at P;obtain⟨q,hq⟩:∃q,k - us.length=q:=⟨_,rfl⟩;rw[hq]at Q;rw[←c,hq]at P;cases q with
      |zero=>
       simp only[pN,Option.some.injEq]at Q P;subst Q P;exact C
      |succ q=>simp at Q
    ·rw[dz c,oN];refine(s8.at2.tail.perm ?_);exact pH _ (pH _ (pF _ _ _))
  ·rintro _ ⟨i,_⟩ w ⟨rfl,ψ,us,o,le,c,d,st⟩ hge;dsimp only at c d st hge ⊢;refine AI _ eA<|AF (AG (le.trans st.sub) (cA.at 6 rfl)) rfl<|AW (by rw[kK.length];exact mV (qD.2 hge))<|AJ (lI rfl ⟨ψ,us,o,le,c,d,st⟩)
 rintro⟨zi,_⟩ w ⟨ψ1,us,o,D,c,d,st⟩;have⟨ψ2,Z,ko,c6⟩:=oK (t:=o) st.at1;have⟨Y,a0,cL,s⟩:=St.blk c6;have N:=(D.trans Z).trans a0;have c7:∀ {ψ:AD} {Γ:List Chk} {R:AH},Sub Y ψ→St ψ Γ R→Bb R ⟨I,7,none⟩=some (sv o):=λ{ψ Γ R} le st=>by
  have:=AG st.sub ((cL.mono le).at 7 rfl)
  rwa [EN,Nat.zero_add]at this
 refine Af (λ(z:Int×Unit) w (g:L3)=>∃ψ:AD,Sub Y ψ∧us.length=g.length∧(∀(k:Nat) u l,us[k]? =some u→g[k]? =some l→u.length=l.length)∧St ψ (r3 us g++F) w) (g:=L1) ?_ ?_
 ·unfold PE at a8;refine By a8 (λi (z:Int×Unit) w g=>z.1=i∧ ∃ψ:AD,Sub Y ψ∧us.length=g.length∧(∀(k:Nat) u l,us[k]? =some u→g[k]? =some l→u.length=l.length)∧St ψ (r3 us g++F) w) rfl ⟨rfl,Y,pV _,c,d,s⟩ ?_ ?_
  ·rintro _ ⟨i,_⟩ w g e ⟨rfl,ψ,le,c,d,st⟩ T h0 hlt hw;dsimp only at c d st T h0 hlt hw ⊢;refine Ad (by rw[kl.length];exact mW hlt) ?_;have⟨row,b3,T⟩:=bS T;refine Af (λ(z:Int×Unit) w (g:L3)=>∃L:AD,Sub ψ L∧us.length=g.length∧(∀(k:Nat) u l,us[k]? =some u→g[k]? =some l→u.length=l.length)∧St L (r3 us g++F) w) (g:=e) ?_ ?_
   ·refine By T (λj (z:Int×Unit) w g=>z.1=j∧ ∃L:AD,Sub ψ L∧us.length=g.length∧(∀(k:Nat) u l,us[k]? =some u→g[k]? =some l→u.length=l.length)∧St L (r3 us g++F) w) rfl ⟨rfl,ψ,pV _,c,d,st⟩ ?_ ?_
    ·rintro _ ⟨j,_⟩ w2 U e2 ⟨rfl,V,B,m,f,s5⟩ J b0 b1 M;dsimp only at m f s5 J b0 b1 M ⊢;have b4:=N.trans (le.trans B);have E:=S.trans b4;obtain⟨a1,c1,e1,q1,⟨tr,rfl,kr⟩,K⟩:=(kl.mono E).get b3;refine AI _ e1 (Ai q1 ?_);refine AF (AG s5.sub (K 0 _ rfl)) rfl<|Ad (by rw[kr.length];exact mW b1)<|AI _ e1 (Ai q1 ?_);refine AF (AG s5.sub (K 0 _ rfl)) rfl ?_;have⟨x,hx,n⟩:=bS J;obtain⟨x1,x2,x3⟩:=x;obtain⟨a3,c3,e3,q3,⟨_,_,rfl,rfl,⟨_,_,rfl,rfl,rfl⟩⟩,a2⟩:=kr.get hx;refine AI _ e3 (Ai q3 ?_);refine AF (AG s5.sub (a2 0 _ rfl)) rfl<|AF (by rw[Aj];exact AG s5.sub (a2 1 _ rfl)) rfl<|AF (by rw[Aj];exact AG s5.sub (a2 2 _ rfl)) rfl<|AU (vs:=[.int .i64 (0:Int),.int .i64 (0:Int),.int .i64 (0:Int)]) s5 λb5 h6 s6=>AQ s6 rfl rfl λh7 s7=>AQ s7 rfl rfl λh8 s8=>AQ s8 rfl rfl λh9 s9=>?_;unfold Qp at n;have⟨q,hq,n⟩:=bS n;have⟨b,hb,n⟩:=bS n;refine AY (λ(z:Bool×Unit) w g=>z.1=g∧St V (cW 146 b5 [.int .i64 x1,.int .i64 x2,.int .i64 x3]::(r3 us U++F)) w) (g:=b) ?_ ?_
     ·refine NR (a:=.int .i64) (kp.mono E) hq s9.sub<|mP hb rfl (λhb=>?_) (λhb=>?_)
      ·have⟨ru,c8,hb⟩:=bS hb;obtain rfl:=iS hb;refine AA s9 rfl<|AF (hc b4 s9 2 _ rfl) rfl<|AA s9 rfl ?_;obtain⟨D1,d8,c9,d0,⟨_,_,rfl,q2,⟨_,_,rfl,⟨u,rfl,ku⟩,q5⟩⟩,K⟩:=(k.k2.mono E).get c8;refine AI _ c9 (Ai d0 ?_);obtain rfl:=q2;refine AF (by rw[Aj];exact AG s9.sub (K 1 _ rfl)) rfl<|lG rfl ⟨by rw[ku.length],s9⟩
      ·obtain rfl:=iS hb;exact lG rfl ⟨rfl,s9⟩
     rintro⟨zb,_⟩ w3 ⟨rfl,H⟩;refine AY (λ(z:Unit) w (g:L3)=>us.length=g.length∧(∀(k:Nat) u l,us[k]? =some u→g[k]? =some l→u.length=l.length)∧St V (r3 us g++F) w) (g:=e2) ?_ ?_
     ·refine mP n rfl (λn=>?_) (λn=>?_)
      ·have⟨l,hl,n⟩:=bS n;have⟨d9,b6,n⟩:=bS n;obtain⟨d1,O,n⟩:=bS n;obtain rfl:=iS n;dsimp only at b6 O ⊢;have⟨y0,y1,y2⟩:=B9 hl;have⟨y3,y4,y5⟩:=B9 b6;have hu:us[q.toNat]? =some us[q.toNat]:=bD nJ;have C:=f _ _ _ hu y2;have hs:us[q.toNat][x1.toNat]? =some us[q.toNat][x1.toNat]:=bD nJ;have d2:idx us q=some us[q.toNat]:=by unfold idx;rw[mZ y0];exact hu
       have d3:idx us[q.toNat] x1=some us[q.toNat][x1.toNat]:=by unfold idx;rw[mZ y3];exact hs
       refine AF (c7 (le.trans B) H) rfl<|NR (a:=.int .i64) (kp.mono E) hq H.sub<|TZ (ko.mono (a0.trans (le.trans B))) d2 H.sub λu ku=>AA H rfl ?_;obtain⟨a5,c5,e5,q5,r5,d4⟩:=(ku.mono (pV _)).get d3;refine AI _ e5 (Ai q5 ?_);obtain rfl:=r5;refine AF (AG H.sub (d4 0 _ rfl)) rfl<|AA H rfl ?_;have⟨rest,p1,p2⟩:=Yf hu y2 hs y5;have W:=H.tail.perm (pB F p1);have⟨a6,e6,q6⟩:=St.there W O;refine AI _ e6 (Ai q6 (FH W O rfl e6 ?_));intro e0 d5;exact lG rfl ⟨by rw[oU];exact m,λk u l g1 U=>by
        rw[List.getElem?_set]at U;split at U
        ·rename_i e
         subst e;rw[mZ nJ]at U;rw[hu]at g1;cases g1;cases U;rw[oU];exact C
        ·exact f k u l g1 U,d5.perm (pB F (p2 d1)).symm⟩
      ·obtain rfl:=iS n;exact lG rfl ⟨m,f,H.tail⟩
     rintro _ w4 ⟨g1,U,W⟩;exact lH rfl rfl ⟨M,V,B,g1,U,W⟩
    ·rintro _ ⟨j,_⟩ w2 ⟨rfl,V,B,m,f,s5⟩ hge;dsimp only at m f s5 hge ⊢;have E:=S.trans (N.trans (le.trans B));obtain⟨a1,c1,e1,q1,⟨tr,rfl,kr⟩,K⟩:=(kl.mono E).get b3;refine AI _ e1 (Ai q1 ?_);refine AF (AG s5.sub (K 0 _ rfl)) rfl<|AW (by rw[kr.length];exact mV (qD.2 hge))<|AJ (lI rfl ⟨V,B,m,f,s5⟩)
   ·rintro⟨zj,_⟩ w2 ⟨V,B,m,f,s5⟩;exact lH rfl rfl ⟨hw,V,le.trans B,m,f,s5⟩
  ·rintro _ ⟨i,_⟩ w ⟨rfl,ψ,le,c,d,st⟩ hge;refine AW (by rw[kl.length];exact mV (qD.2 hge))<|AJ (lI rfl ⟨ψ,le,c,d,st⟩)
 rintro⟨zi,_⟩ w ⟨ψ4,B,c,d,st⟩;have⟨V,a4,kb,d6⟩:=St.freeze3 c d st;have d7:=a0.trans (B.trans a4);have E:=S.trans (N.trans (B.trans a4));have k':=k.mono E;have kL:=VY c (λk u l Q P=>⟨d k u l Q P,kb k u l Q P⟩) (ko.mono d7);refine AC ⟨V,some ⟨I,0,none⟩,some _,b7.trans E,rfl,rfl,⟨_,_,rfl,?_,cL.mono (B.trans a4)⟩,d6⟩;exact⟨[_],_,rfl,⟨_,rfl,k'.k0⟩,[_],_,rfl,⟨_,rfl,k'.k1⟩,[_],_,rfl,⟨_,rfl,k'.k2⟩,[_],_,rfl,⟨_,rfl,k'.k3⟩,[_],_,rfl,⟨_,rfl,k'.k4⟩,[_],_,rfl,⟨_,rfl,k'.k5⟩,[_],_,rfl,⟨_,rfl,ka.mono E⟩,_,rfl,kL⟩
end
def LtO(x y:One):Prop:=x.1<y.1∨x.1=y.1∧(x.2.1<y.2.1∨x.2.1=y.2.1∧x.2.2<y.2.2)
theorem LtO.irr(x:One):¬LtO x x:=by unfold LtO;omega
theorem LtO.tr{x y z:One}(a:LtO x y)(b:LtO y z):LtO x z:=by unfold LtO at *;omega
theorem LtO.tri(x y:One)(e:¬LtO x y)(d:x≠y):LtO y x:=by
 have:¬(x.1=y.1∧x.2.1=y.2.1∧x.2.2=y.2.2):=λ⟨a,b,c⟩=>d (pW a (pW b c))
 unfold LtO at *;omega
theorem im(l m:List One)(h:l.length≤9223372036854775807):C5 l m=some (decide (l=m)):=by
 unfold C5;refine VU (α:=Int×Int×Int) (e:=λx y=>((x.1==y.1) && ((x.2.1==y.2.1) && true)) && ((x.2.2==y.2.2) && true)) ?_ ?_ ?_ l m h
 ·exact λx y=>by rw[qU,qU];simp[and_assoc]
 ·rfl
 ·exact λ_=>rfl
theorem io{l:List One}(k:l.Pairwise LtO)(n:l.length≤1000000000)(x:One):Ok (CF l x) λr=>r.1.Pairwise LtO∧(∀y,y∈r.1↔y∈l∨y=x)∧((x∈l∧r.1=l∧r.2=false)∨(x∉l∧r.1.length=l.length+1∧r.2=true)):=by
 unfold CF;refine(Xg LtO.irr (λf c=>LtO.tr f c) LtO.tri k n (x:=x) (λm b=>(m,b)) (λi=>?_) λi=>?_).mono λr o=>?_
 ·refine AR (λd=>?_) λd=>AB ⟨nP,λ⟨y,j,_⟩=>?_⟩
  ·have a:=bD (show i<l.length by have:=mX d;omega);obtain⟨z,p⟩:∃z,l[i]'(eE.1 a).1=z:=⟨_,rfl⟩;rw[p]at a;have e:(∃y,l[i]? =some y∧LtO y x)↔LtO z x:=⟨λ⟨y,f,c⟩=>by rw[a]at f;cases f;exact c,λh=>⟨z,a,h⟩⟩;rw[e];unfold LtO;refine AS a (AR (λh=>AB ⟨λ_=>.inl (mX h),λ_=>rfl⟩) λh=>AS a (AR (λc=>AS a (AR (λg=>AB ⟨λ_=>.inr ⟨by simpa using c,.inl (mX g)⟩,λ_=>rfl⟩) λg=>AS a (AR (λq=>AS a (AB ?_)) λq=>AB ?_))) λc=>AB ?_)) <;>simp at *<;>omega
  ·have:=mY d
   rw[pE nJ]at j;cases j
 ·refine AR (λd=>?_) λd=>AB ⟨nP,λe=>?_⟩
  ·have a:=bD (show i<l.length by have:=mX d;omega);refine AS a (AB ?_);rw[a,Option.some.injEq,qU,qU];simp[and_assoc]
  ·have:=mY d
   rw[pE nJ]at e;cases e
 ·obtain⟨m,b,rfl,f,c,g⟩:=o;exact⟨f,c,g⟩
theorem bZ(f:Q0)(p:dtP)(seq:nH):CQ f p seq=ML (nT p) f.1 f.2.1 seq:=by
 unfold CQ ML;refine nB (pJ (EC (nT p) false)) (funext λo=>congr (nB pJ (nB (C6 (σ:=List Bool) (β:=List Bool×Bool) 0 (seq.length:Int) o) (funext λi=>funext λz=>?_))) (funext λs=>by cases s<;>rfl))
 show _=(idx seq i).bind λs=>cond (decide (s≥0) && decide (s< (p.1.length:Int))) _ (cond (decide (hC .i64 (s - (p.1.length:Int)) <0) || _) _ ((idx f.2.1 (hC .i64 (s - (p.1.length:Int)))).bind _));cases idx seq i with
 |none=>rfl
 |some s=>
  have a:∀w:Int,∀k:Bool→Option (AX (List Bool) (List Bool×Bool)),(∀b,k b=cond b (some (oP z)) ((idx f.2.1 w).bind λrow=>(Ax z row).bind λr=>(idx f.1 w).bind λb=>cond (!b) (some (.done (r.2,false))) (some (.next r.2))))→(((cond (decide (w<0)) (some true) (some (decide (w≥ (f.1.length:Int))))).bind k).bind λe=>match e with
   |.next z=>some (oP z)
   |.done q=>some (oS q))=cond (decide (w<0) || decide (w≥ (f.1.length:Int))) (some (.next z)) ((idx f.2.1 w).bind λrow=>(Ax z row).bind λr=>(idx f.1 w).bind λb=>cond b (some (.next r.2)) (some (.done (r.2,false)))):=λw k c=>by
   have g:((k false).bind λe=>match e with
    |.next z=>some (oP z)
    |.done q=>some (oS q))=(idx f.2.1 w).bind λrow=>(Ax z row).bind λr=>(idx f.1 w).bind λb=>cond b (some (.next r.2)) (some (.done (r.2,false))):=by
    rw[c];cases idx f.2.1 w with
    |none=>rfl
    |some row=>
     show((pJ (Ax z row) _).bind _)=pJ (Ax z row) _;cases Ax z row with
     |none=>rfl
     |some r=>
      show((pJ (idx f.1 w) _).bind _)=pJ (idx f.1 w) _;cases idx f.1 w with
      |none=>rfl
      |some b=>cases b<;>rfl
   have d:((k true).bind λe=>match e with
    |.next z=>some (oP z)
    |.done q=>some (oS q))=some (.next z):=by rw[c];rfl
   cases decide (w<0) with
   |true=>exact d
   |false=>cases decide (w≥ (f.1.length:Int)) with
    |true=>exact d
    |false=>exact g
  show(((cond (decide (s≥0)) (some (decide (s< (p.1.length:Int)))) (some false)).bind _).bind _)=cond (decide (s≥0) && decide (s< (p.1.length:Int))) _ _;cases decide (s≥0) with
  |false=>exact a _ _ λb=>rfl
  |true=>
   cases decide (s< (p.1.length:Int)) with
   |false=>exact a _ _ λb=>rfl
   |true=>
    show((pJ (DQ z s true) _).bind _)=pJ (DQ z s true) _;cases DQ z s true<;>rfl
end Go.Proofs.YtfnppeejaimnbaaGreatDoor
namespace Go.Proofs.YtfnppeejaimnbaaGreatDoor
open Go Go.Eng
structure GrK (R:Rl) (K o:List Item):Prop where
 up:o.Pairwise Lt
 has:∀x∈K,x∈o
 cl:∀x∈o,Cl R K x
theorem GrK.ok{R:Rl}{K o:List Item}(H:GrK R K o)(a:∀x∈K,OkI R x):∀x∈o,OkI R x:=λx b=>(H.cl x b).ok a
theorem QO{p:RP}(V:VPp p){K:List Item}(G:Kv p.2.2.1 K):BU p K=some (clo p K):=by
 have⟨_,X,a0,_⟩:=GZ V G;have d:∀ {o:List Item},GrK p.2.2.1 K o→o.length≤10100:=λH=>GY V (H.ok G.ok) (sC H.up);have hR:=V.few;have hK:=GY V G.ok (sC G.up);refine oQ ?_;unfold BU;refine Az nN ?_;rw[pX];have O:∀o:List Item,GrK p.2.2.1 K o→(∀(j:Nat) x,o[j]? =some x→ ∀(k:Nat) r,p.2.2.1[k]? =some r→r.1=beh p.2.2.1 x→((k:Int),(0:Int))∈o)→o=clo p K:=λo H a=>by
  refine R0 rY (λI C=>sD I C) H.up X.up λx=>?_;rw[X.mem];refine⟨H.cl x,λh=>?_⟩
  induction h with
  |base h=>exact H.has _ h
  |step _ I C ih=>
   obtain⟨j,J⟩:=nZ ih;exact a j _ J _ _ I C
 refine Bz (λ(z:Bool×List Item)=>GrK p.2.2.1 K z.2∧(z.1=false→ ∀(j:Nat) x,z.2[j]? =some x→ ∀(k:Nat) r,p.2.2.1[k]? =some r→r.1=beh p.2.2.1 x→((k:Int),(0:Int))∈z.2)) (λz=>(10100 - z.2.length) *2+(if z.1 then 1 else 0)) (λo=>o=clo p K) ⟨⟨G.up,λ_ h=>h,λ_ h=>.base h⟩,nP⟩ (λz u=>?_) λo Y=>AB Y;obtain⟨more,o⟩:=z;obtain⟨H,a⟩:=u;dsimp only at H a ⊢;refine AR (λq=>?_) λq=>BB (O o H (a q));subst q;have Y:=d H;refine Bz (λ(z:Int×Bool×List Item)=>∃i:Nat,z.1=(i:Int)∧GrK p.2.2.1 K z.2.2∧((z.2.1=true∧o.length<z.2.2.length)∨(z.2.1=false∧z.2.2=o∧i≤o.length∧ ∀(j:Nat) x,j<i→o[j]? =some x→ ∀(k:Nat) r,p.2.2.1[k]? =some r→r.1=beh p.2.2.1 x→((k:Int),(0:Int))∈o)))
  (λz=>if z.2.1 then 0 else o.length+1 - z.1.toNat) (λb=>GrK p.2.2.1 K b.2∧((b.1=true∧o.length<b.2.length)∨(b.1=false∧b.2=o∧ ∀(j:Nat) x,o[j]? =some x→ ∀(k:Nat) r,p.2.2.1[k]? =some r→r.1=beh p.2.2.1 x→((k:Int),(0:Int))∈o))) ⟨0,rfl,H,.inr ⟨rfl,rfl,pO _,λj x h=>nJ⟩⟩ (λz u=>?_) λb v=>?_
 ·obtain⟨i',m,o2⟩:=z;obtain⟨i,I,w,f⟩:=u;dsimp only at I w f ⊢;subst I;have P:=d w;rcases f with⟨rfl,f⟩|⟨rfl,rfl,hi,hcl⟩
  ·
   refine AM (Q:=λc=>c=false) (AR (λ_=>AB rfl) λ_=>AB rfl) λc a=>?_;subst a;exact AZ rfl (BB ⟨w,.inl ⟨rfl,f⟩⟩)
  ·rcases pQ i o2.length with hlt | hge
   ·refine AM (Q:=λc=>c=true) (Ay (mW nJ) (AB rfl)) λc a=>?_;subst a;have M:=bD hlt;obtain⟨x,R⟩:∃x,o2[i] =x:=⟨_,rfl⟩;rw[R]at M;have L:=bO M;refine Ay rfl (AS M (AO (KZ (H.ok G.ok x L)) ?_));refine BK (λk (z:Bool×List Item)=>GrK p.2.2.1 K z.2∧((z.1=true∧o2.length<z.2.length)∨(z.1=false∧z.2=o2∧ ∀(l:Nat) r,l<k→p.2.2.1[l]? =some r→r.1=beh p.2.2.1 x→((l:Int),(0:Int))∈o2))) nJ ⟨H,.inr ⟨rfl,rfl,λl r h=>nJ⟩⟩ (λk z hk u=>?_) λz u=>?_
    ·obtain⟨m,S⟩:=z;obtain⟨A,f⟩:=u;dsimp only at A f ⊢;have a1:=d A;have B:=bD hk;obtain⟨r,T⟩:∃r,p.2.2.1[k] =r:=⟨_,rfl⟩;rw[T]at B;refine AS B<|AM (Q:=λ(z:Bool×List Item)=>GrK p.2.2.1 K z.2∧((z.1=true∧o2.length<z.2.length)∨(z.1=false∧z.2=o2∧ ∀(l:Nat) r,l<k+1→p.2.2.1[l]? =some r→r.1=beh p.2.2.1 x→((l:Int),(0:Int))∈o2))) (AR (λa=>?_) λa=>AB ⟨A,?_⟩) λz u=>AB u
     ·have a:r.1=beh p.2.2.1 x:=by simpa using a
      refine AM (Xh A.up nJ ((k:Int),(0:Int))) λN h4=>?_;obtain⟨u1,Z,u3⟩:=h4;have H4:GrK p.2.2.1 K N:=⟨u1,λy D=>(Z y).2 (.inl (A.has y D)),λy D=>((Z y).1 D).elim (A.cl y) λe=>by rw[e];exact .step (H.cl x L) B a⟩;have a2:S.length≤N.length:=by rcases u3 with⟨_,rfl⟩|⟨_,e⟩ <;>omega
      refine AM (Q:=λc=>c=true∧(o2.length<N.length)∨(c=false∧N=S∧m=false∧((k:Int),(0:Int))∈S)) (AR (λq=>AB (.inl ⟨rfl,?_⟩)) λq=>AB ?_) λc a=>AB ?_
      ·rcases f with⟨_,h⟩|⟨h,_⟩
       ·omega
       ·rw[q]at h;cases h
      ·rcases u3 with⟨s,rfl⟩|⟨_,e⟩
       ·exact .inr ⟨mV nJ,rfl,q,s⟩
       ·refine .inl ⟨mW nJ,?_⟩;rcases f with⟨_,h⟩|⟨_,h,_⟩
        ·omega
        ·rw[←h];omega
      ·refine⟨H4,?_⟩;rcases a with⟨E,h⟩|⟨E,e4,U,s⟩
       ·exact .inl ⟨E,h⟩
       ·subst e4;rcases f with⟨h,_⟩|⟨_,rfl,h⟩
        ·rw[U]at h;cases h
        ·refine .inr ⟨E,rfl,λl W F t v=>?_⟩;rcases nY.1 F with g | rfl
         ·exact h l W g t v
         ·exact s
     ·have a:r.1≠beh p.2.2.1 x:=by simpa using a
      rcases f with h | ⟨h,h',h''⟩
      ·exact .inl h
      ·refine .inr ⟨h,h',λl W F t v=>?_⟩;rcases nY.1 F with g | rfl
       ·exact h'' l W g t v
       ·rw[B]at t;cases t;exact nC v a
    ·obtain⟨A,f⟩:=u;refine Bd ⟨⟨i+1,by rw[w64 nJ nJ];omega,A,?_⟩,?_⟩
     ·rcases f with h | ⟨h,h',h''⟩
      ·exact .inl h
      ·refine .inr ⟨h,h',hlt,λj y J D k r B v=>?_⟩;rcases nY.1 J with g | rfl
       ·exact hcl j y g D k r B v
       ·rw[M]at D;cases D;exact h'' k r (eE.1 B).1 B v
     ·dsimp only;rw[w64 (n:=(i:Int)+1) nJ nJ];rw[nA (show ¬((false:Bool)=true) from qG)]
      split<;>omega
   ·refine AM (Q:=λc=>c=false) (AZ (mV nJ) (AB rfl)) λc a=>?_;subst a;refine AZ rfl (BB ⟨w,.inr ⟨rfl,rfl,λj y J=>hcl j y (by have:=(eE.1 J).1;omega) J⟩⟩)
 ·obtain⟨m,o2⟩:=b;obtain⟨w,C⟩:=v;dsimp only at w C ⊢;have P:=d w;refine Bd ⟨⟨w,λq=>?_⟩,?_⟩
  ·rcases C with⟨h,_⟩|⟨_,rfl,h⟩
   ·have q:m=false:=q;rw[q]at h;cases h
   ·exact h
  ·dsimp only;rw[mZ rfl];rcases C with⟨rfl,h⟩|⟨rfl,rfl,_⟩
   ·rw[mZ rfl];omega
   ·rw[nA nP];omega
def Bgn(nT:Int)(R:Rl)(l:nH)(t u:Int):Prop:=Fs nT R l u∨((∀s∈l,Nul R s)∧u=t)
inductive Can (nT:Int) (R:Rl):nH→Nat→Nat→Int→Prop
 |start:Can nT R [] 0 0 0
 |clos {l:nH} {k d j:Nat} {r r':Ap} {s t u:Int} :Can nT R l k d t→R[k]? =some r→r.2.1[d]? =some s→R[j]? =some r'→r'.1=s→Bgn nT R (r.2.1.drop (d+1)) t u→Can nT R l j 0 u
 |step {l:nH} {k d:Nat} {r:Ap} {s t:Int} :Can nT R l k d t→R[k]? =some r→r.2.1[d]? =some s→Can nT R (l++ [s]) k (d+1) t
section
variable {nT:Int}{R:Rl}{S:Nat→Prop}{K:Nat→List Item}{Tr:Nat→Int→Nat→Prop}
theorem Pth.snoc1{l:nH}{n m:Nat}{s:Int}(h:Pth Tr n (l++ [s]) m):∃q,Pth Tr n l q∧Tr q s m:=by obtain⟨q,b,c,d,a⟩:=sB.1 h;have a:c=m:=a;subst a;exact⟨q,b,d⟩
theorem R6(G:Gr nT R)(A:Aut R S K Tr){l:nH}{k d:Nat}{t:Int}(h:Can nT R l k d t):∀ {n:Nat},Pth Tr 0 l n→It R K n k d:=by
 induction h with
 |start=>intro n a;have a:0=n:=a;subst a;exact .base ((A.zero _).2 rfl)
 |clos _ b c g i _ e=>intro n a;exact Aut.clos (e a) b c g i
 |step _ b c e=>
  intro n a;obtain⟨q,f,j⟩:=a.snoc1;have⟨m,o,p⟩:=A.step G (A.at0 A.s0 f) (e f) b c;rw[A.fn j o];exact p
theorem gY(G:Gr nT R)(A:Aut R S K Tr){l:nH}{u:Int}(h:Fs nT R l u):∀ {m k d:Nat}{r:Ap},S m→It R K m k d→R[k]? =some r→r.2.1.drop d=l→Rdd nT R K Tr m u:=by
 have hd:∀ {d:Nat} {r:Ap} {s:Int} {l:nH},r.2.1.drop d=s::l→r.2.1[d]? =some s∧r.2.1.drop (d+1)=l:=λ{d r s l} h=>by
  have a:(r.2.1.drop d)[0]? =some s:=by rw[h];rfl
  rw[List.getElem?_drop,Nat.add_zero]at a;refine⟨a,?_⟩
  have:=Oq a
  rw[h]at this;exact(List.cons.inj this).2.symm
 induction h with
 |term p=>
  intro m k d r e f b c;have⟨q,a,_⟩:=A.step G e f b (hd c).1;exact .term a p
 | @var s t l x g v _ i=>
  intro m k d r e f b c;obtain⟨j,n⟩:=nZ g;exact i e (Aut.clos f b (hd c).1 n v) n nP
 |skip o _ i=>
  intro m k d r e f b c;have⟨q,a,w⟩:=A.step G e f b (hd c).1;exact .next a (o.var G) o (i (A.st a).2.1 w b (hd c).2)
theorem UM(G:Gr nT R)(A:Aut R S K Tr){l:nH}{k d:Nat}{t:Int}(h:Can nT R l k d t):(∃n,Pth Tr 0 l n)→(k=0→t=0)∧(0<k→ ∀(f:nH) (q:Nat) (r:Ap),R[k]? =some r→l=f++r.2.1.take d→Pth Tr 0 f q→Fol nT R K Tr q r.1 t):=by
 induction h with
 |start=>intro _;exact⟨λ_=>rfl,λh=>nC h nJ⟩
 | @clos l k d j r Y s t u F b c H I i x=>
  intro ⟨n,hn⟩;obtain⟨y,B⟩:=x ⟨n,hn⟩;have Z:0<j:=by
   rcases pM j with rfl | g
   ·exact nC (I ▸ c) (RV G H b)
   ·exact g
  refine⟨λe=>nJ,λ_ f q J a o p=>?_⟩;rw[H]at a;cases a;rw[List.take_zero,pY]at o;subst o;have v:=R6 G A F p;have C:=A.at0 A.s0 p;have⟨m,w,L⟩:=A.step G C v b c;rw[I];rcases i with i | ⟨i,rfl⟩
  ·exact .read w (gY G A i (A.st w).2.1 L b rfl)
  ·rcases pM k with rfl | D
   ·obtain⟨z,st,N,O,e3,e4,e5⟩:=G.zero;rw[N]at b;cases b;have hd:d=0:=by
     rw[O]at c;cases d with
     |zero=>rfl
     |succ d=>simp at c
    subst hd;rw[y rfl];exact .read w (.fin L)
   ·have⟨P,Q,r3,M,T,U,V,W,_⟩:=A.behind G p v;rw[b]at M;cases M;exact .incl w b (Hx c) i W V (B D P Q r b T U)
 | @step l k d r s t F b c x=>
  intro ⟨n,hn⟩;obtain⟨X,E,_⟩:=hn.snoc1;obtain⟨y,B⟩:=x ⟨X,E⟩;refine⟨y,λD f q J a o p=>B D f q J a ?_ p⟩;rw[b]at a;cases a;have e:r.2.1.take (d+1)=r.2.1.take d++ [s]:=by rw[pG,c];rfl
  rw[e,←oN]at o;exact(rP o rfl).1
theorem gZ(G:Gr nT R)(A:Aut R S K Tr){l:nH}{k s:Nat}{r:Ap}{t:Int}(b:R[k]? =some r)(h:Can nT R l k r.2.1.length t)(c:Pth Tr 0 l s):Lk nT R K Tr s k t:=by
 have a:=R6 G A h c;have⟨i,j⟩:=UM G A h ⟨s,c⟩;rcases pM k with rfl | hk
 ·obtain⟨z,st,n,o,_⟩:=G.zero;rw[n]at b;cases b;rw[o]at a;exact .inl ⟨rfl,i rfl,a⟩
 ·obtain⟨p,q,w,d,e,u,f,x,_⟩:=A.behind G c a;rw[b]at d;cases d;rw[qQ]at e f;have g:=j hk p q r b (by rw[qQ];exact e) u;obtain⟨m,v⟩:=g.tr;exact .inr ⟨hk,q,m,r,b,v,f,g⟩
theorem ga{x:Int}(h:Pro nT R x):¬Nul R x→ ∀l,∃u,Fs nT R (x::l) u:=by
 induction h with
 |term p i=>intro _ l;exact⟨_,.term i⟩
 | @rule r e _ j=>
  intro k l;have b:∀m:nH,(∀s∈m,s∈r.2.1)→(¬ ∀s∈m,Nul R s)→ ∃u,Fs nT R m u:=by
   intro m
   induction m with
   |nil=>intro _ h;exact nC (λs a=>by cases a) h
   |cons y m c=>
    intro f n;by_cases g:Nul R y
    ·obtain⟨u,d⟩:=c (λs a=>f s (oY _ a)) λo=>n λs a=>by
      rcases rJ.1 a with rfl | a
      ·exact g
      ·exact o s a
     exact⟨u,.skip g d⟩
    ·exact j y (f y (qH ..)) g m
  have⟨u,d⟩:=b r.2.1 (λs h=>h) λg=>k (.rule e g);exact⟨u,.var e rfl d⟩
theorem bc(G:Gr nT R){r:Ap}(i:r∈R)(d:Nat)(t:Int):∃u,Bgn nT R (r.2.1.drop d) t u:=by
 have c:∀m:nH,(∀s∈m,s∈r.2.1)→ ∃u,Bgn nT R m t u:=by
  intro m
  induction m with
  |nil=>intro _;exact⟨t,.inr ⟨nP,rfl⟩⟩
  |cons y m f=>
   intro h;by_cases g:Nul R y
   ·have⟨u,a⟩:=f λs b=>h s (oY _ b);rcases a with a | ⟨a,e⟩
    ·exact⟨u,.inl (.skip g a)⟩
    ·exact⟨u,.inr ⟨λs b=>by
      rcases rJ.1 b with rfl | b
      ·exact g
      ·exact a s b,e⟩⟩
   ·have⟨u,a⟩:=ga (G.pro r i y (h y (qH ..))) g m;exact⟨u,.inl a⟩
 exact c _ λs b=>oZ b
theorem UN(G:Gr nT R)(A:Aut R S K Tr):∀(N:Nat) (l:nH) (n:Nat),l.length=N→Pth Tr 0 l n→ ∀x,Cl R (K n) x→ ∃(k d:Nat) (t:Int),x=((k:Int),(d:Int))∧Can nT R l k d t:=by
 intro N
 induction N with
 |zero=>
  intro l n g b x o
  have:l= []:=oE g
  subst this;have b:0=n:=b;subst b
  induction o with
  |base h=>rw[(A.zero _).1 h];exact⟨0,0,0,rfl,.start⟩
  | @step y j p _ i m v=>
   obtain⟨k,d,t,rfl,c⟩:=v;obtain⟨r,a,f⟩:=Ga G m.symm (by have:=G.left p (bO i);have:=G.pos;omega);have⟨u,w⟩:=bc G (bO a) (d+1) t;exact⟨j,0,u,rfl,.clos c a f i rfl w⟩
 |succ N z=>
  intro l n g b x o;obtain⟨l',s,rfl⟩:∃l' s,l=l'++ [s]:=⟨l.dropLast,l.getLast (by intro e;subst e;simp at g),(pZ _).symm⟩;obtain⟨q,i,m⟩:=b.snoc1;have B:=(A.st m).2.2.2
  induction o with
  |base h=>
   obtain⟨y,D,E,rfl⟩:=(A.into m).1 h;obtain⟨k,d,t,rfl,c⟩:=z l' q (by simpa using g) i y D;have⟨r,a,f⟩:=Ga G E B;exact⟨k,d+1,t,nP,.step c a f⟩
  | @step y j p _ C F v=>
   obtain⟨k,d,t,rfl,c⟩:=v;obtain⟨r,a,f⟩:=Ga G F.symm (by have:=G.left p (bO C);have:=G.pos;omega);have⟨u,w⟩:=bc G (bO a) (d+1) t;exact⟨j,0,u,rfl,.clos c a f C rfl w⟩
theorem eB(G:Gr nT R)(A:Aut R S K Tr){m:Nat}(l:S m){x:Item}(h:Cl R (K m) x):∀ {k d:Nat}{r:Ap}{t:Int},x=((k:Int),(d:Int))→R[k]? =some r→Fs nT R (r.2.1.drop d) t→ ∃(k' d':Nat) (c:Ap),((k':Int),(d':Int))∈K m∧R[k']? =some c∧Fs nT R (c.2.1.drop d') t:=by
 induction h with
 |base h=>intro k d r t e f g;subst e;exact⟨k,d,r,h,f,g⟩
 | @step y j c n i o p=>
  intro k d r t e f g;obtain⟨rfl,rfl⟩:j=k∧d=0:=by
   have q:=nB (·.1) e;have s:=nB (·.2) e;dsimp only at q s;omega
  rw[i]at f;cases f;obtain⟨v,d2,rfl,_,w,a,_⟩:=A.form l n;obtain⟨r3,b,u⟩:=Ga G o.symm (by have:=G.left c (bO i);have:=G.pos;omega);rw[a]at b;cases b;exact p rfl a (by rw[Oq u];exact .var (bO i) rfl (by simpa using g))
theorem be(G:Gr nT R)(A:Aut R S K Tr){m:Nat}{t:Int}(h:Rdd nT R K Tr m t):∀ {n:Nat}{a:Int},Tr n a m→ ∃(k d:Nat) (r:Ap),It R K n k d∧R[k]? =some r∧r.2.1[d]? =some a∧(Fs nT R (r.2.1.drop (d+1)) t∨(k=0∧d=0∧t=0)):=by
 have up:∀ {m n:Nat} {a:Int} {k d:Nat} {r:Ap} {t:Int},Tr n a m→It R K m k d→R[k]? =some r→Fs nT R (r.2.1.drop d) t→ ∃(k d:Nat) (r:Ap),It R K n k d∧R[k]? =some r∧r.2.1[d]? =some a∧(Fs nT R (r.2.1.drop (d+1)) t∨(k=0∧d=0∧t=0)):=λ{m n a k d r t} e hi i hf=>by
  have⟨s,f,C,D⟩:=A.st e;obtain⟨x,E,F,j,l,u⟩:=eB G A f hi rfl i hf;obtain⟨y,H,I,z⟩:=(A.into e).1 j;obtain⟨J,d2,rfl,g,_⟩:=A.form s H;have⟨L,b,p⟩:=Ga G I D;have M:=nB (·.1) z;have N:=nB (·.2) z;dsimp only at M N;obtain rfl:x=J:=nJ
  obtain rfl:E=d2+1:=nJ
  rw[l]at b;cases b;exact⟨x,d2,F,g,l,p,.inl u⟩
 induction h with
 | @term m q t o B=>
  intro n a e;have⟨f,_,_,v⟩:=A.st o;have⟨y,j,l⟩:=A.some_ o;obtain⟨k,d,rfl,g,r,i,_⟩:=A.form f j;have⟨L,b,p⟩:=Ga G l v;rw[i]at b;cases b;exact up e g i (by rw[Oq p];exact .term B)
 | @fin m o=>
  intro n a e;have⟨O,r,i,p⟩:=A.back G e o;exact⟨0,0,r,O,i,p,.inr ⟨rfl,rfl,rfl⟩⟩
 | @next m q c t o B P _ Q=>
  intro n a e;obtain⟨k,d,r,j,l,u,w⟩:=Q o;rcases w with w | ⟨rfl,rfl,_⟩
  ·exact up e j l (by rw[Oq u];exact .skip P w)
  ·exact nC j (XU G A (A.st e).2.1 (A.st e).2.2.1)
theorem TF{l:nH}{k:Nat}{r:Ap}{t:Int}(d:R[k]? =some r)(h:Can nT R l k 0 t):∀(b g:nH),r.2.1=b++g→Can nT R (l++b) k b.length t:=by
 have a:∀n,n≤r.2.1.length→Can nT R (l++r.2.1.take n) k n t:=by
  intro n
  induction n with
  |zero=>intro _;simpa using h
  |succ n f=>
   intro i;have c:=bD (show n<r.2.1.length by omega);rw[pG,c,←oN];exact .step (f nJ) d c
 intro b g e
 have:=a b.length (by rw[e,pC];omega)
 rwa [e,List.take_left]at this
theorem eC(G:Gr nT R)(A:Aut R S K Tr){n:Nat}{a t:Int}(h:Fol nT R K Tr n a t):∃(l:nH) (k d:Nat) (r:Ap) (u:Int),Pth Tr 0 l n∧Can nT R l k d u∧R[k]? =some r∧r.2.1[d]? =some a∧Bgn nT R (r.2.1.drop (d+1)) u t:=by
 induction h with
 | @read n m a t o c=>
  have⟨k,d,r,C,p,x,s⟩:=be G A c o;have⟨l,i⟩:=A.reach (A.st o).1;obtain⟨y,B,u,e,f⟩:=UN G A _ l n rfl i _ C;have j:=nB (·.1) e;have v:=nB (·.2) e;dsimp only at j v;obtain rfl:y=k:=nJ
  obtain rfl:B=d:=nJ
  rcases s with s | ⟨rfl,rfl,rfl⟩
  ·exact⟨l,y,B,r,u,i,f,p,x,.inl s⟩
  ·obtain⟨z,st,j,v,_⟩:=G.zero;rw[j]at p;cases p;refine⟨l,0,0,r,u,i,f,j,x,.inr ⟨?_,((UM G A f ⟨n,i⟩).1 rfl).symm⟩⟩;rw[v];simp
 | @incl n m q k a t r b g o c w D N E _ F=>
  obtain⟨l,k0,d0,O,u,H,I,J,L,M⟩:=F;have f:=TF c (Can.clos I J L c rfl M) b (a::g) w;refine⟨l++b,k,b.length,r,t,sB.2 ⟨q,H,E⟩,f,c,by rw[w];simp,.inr ⟨?_,rfl⟩⟩;rw[w];simpa using D
theorem bh(G:Gr nT R)(A:Aut R S K Tr){s k:Nat}{t:Int}(i:S s)(h:Lk nT R K Tr s k t):∃(l:nH) (r:Ap),R[k]? =some r∧Pth Tr 0 l s∧Can nT R l k r.2.1.length t:=by
 rcases h with⟨rfl,rfl,h⟩|⟨hk,n,m,r,b,y,j,o⟩
 ·have⟨l,c⟩:=A.reach i;have⟨k,d,u,e,a⟩:=UN G A _ l s rfl c _ h;have f:=nB (·.1) e;have g:=nB (·.2) e;dsimp only at f g;obtain rfl:k=0:=nJ
  obtain rfl:d=1:=nJ
  obtain⟨z,st,f,g,_⟩:=G.zero
  have:=(UM G A a ⟨s,c⟩).1 rfl
  subst this;exact⟨l,z,f,c,by rw[g];exact a⟩
 ·have⟨l,k0,d0,B,u,p,q,v,w,x⟩:=eC G A o;have a:=TF b (Can.clos q v w b rfl x) r.2.1 [] nP;exact⟨l++r.2.1,r,b,sB.2 ⟨n,p,j⟩,a⟩
end
end Go.Proofs.YtfnppeejaimnbaaGreatDoor
namespace Go.Proofs.YtfnppeejaimnbaaGreatDoor
open Go Go.Eng Dg
inductive ClO (nT:Int) (R:Rl) (K:List One):One→Prop
 |base {x:One} :x∈K→ClO nT R K x
 |step {k d j:Nat} {r r':Ap} {s u t:Int} :ClO nT R K ((k:Int),(d:Int),u)→R[k]? =some r→r.2.1[d]? =some s→R[j]? =some r'→r'.1=s→Bgn nT R (r.2.1.drop (d+1)) u t→ClO nT R K ((j:Int),0,t)
def OkO(p:dtP)(x:One):Prop:=OkI p.2.2.1 (x.1,x.2.1)∧0≤x.2.2∧x.2.2<nT p
section
variable {p:dtP}
theorem R7(S:Sy p){l:nH}{t:Int}(h:Fs (nT p) p.2.2.1 l t):(∀s∈l,0≤s)→0≤t∧t<nT p:=by
 induction h with
 |term a=>intro h;exact⟨h _ nP,a⟩
 |var c _ _ b=>intro _;exact b λs a=>(S.right _ c s a).1
 |skip _ _ b=>intro h;exact b λs a=>h s (oY _ a)
theorem gb(S:Sy p){u:Int}(i:u<nT p){t:Int}:∀ {l:nH},Fs (nT p) p.2.2.1 (l++ [u]) t↔Bgn (nT p) p.2.2.1 l u t:=by
 have j:∀ {s:Int},Nul p.2.2.1 s→nT p≤s:=λh=>by cases h with
  |rule b _=>exact(S.left _ b).1
 intro l
 induction l with
 |nil=>
  constructor
  ·intro h;cases h with
   |term _=>exact .inr ⟨nP,rfl⟩
   |var b d _=>have:=(S.left _ b).1;omega
   |skip h _=>have:=j h;omega
  ·rintro(h | ⟨_,rfl⟩)
   ·cases h
   ·exact .term i
 |cons a l f=>
  constructor
  ·intro h;cases h with
   |term h=>exact .inl (.term h)
   |var b d h=>exact .inl (.var b d h)
   |skip g k=>
    rcases f.1 k with h | ⟨h,e⟩
    ·exact .inl (.skip g h)
    ·exact .inr ⟨λs c=>by
      rcases rJ.1 c with rfl | c
      ·exact g
      ·exact h s c,e⟩
  ·rintro(h | ⟨h,rfl⟩)
   ·exact bU h _
   ·exact .skip (h a nP) (f.2 (.inr ⟨λs c=>h s (oY _ c),rfl⟩))
theorem ClO.ok(S:Sy p){K:List One}(b:∀x∈K,OkO p x){x:One}(h:ClO (nT p) p.2.2.1 K x):OkO p x:=by
 induction h with
 |base h=>exact b _ h
 | @step k d j r c s u t _ e l f m a g=>
  refine⟨⟨nO,nO,c,by simpa using f,nP⟩,?_⟩;rcases a with a | ⟨_,rfl⟩
  ·exact R7 S a λs i=>(S.right _ (bO e) s (oZ i)).1
  ·exact g.2
theorem Jc(V:VPp p)(S:Sy p){l:List One}(h:∀x∈l,OkO p x)(f:l.Pairwise LtO):l.length≤10100000:=by
 have g:l.Nodup:=List.nodup_iff_pairwise_ne.2 (f.imp λ{a b} h e=>by subst e;exact LtO.irr _ h)
 have:=List.Nodup.length_le_of_subset (l₂:=(oA 100).flatMap λa=>(oA 101).flatMap λb=>(oA 1000).map λc=>(((a:Nat):Int),((b:Nat):Int),((c:Nat):Int))) g (λx i=>by
  obtain⟨⟨j,k,r,d,m⟩,n,o⟩:=h x i
  have:=V.short r (bO d)
  have:=(eE.1 d).1
  have:=V.few
  have q:nT p≤1000:=by have:=S.t1.2;unfold nT;omega
  dsimp only at j k m this;refine rQ.2 ⟨x.1.toNat,rC.2 nJ,rQ.2 ⟨x.2.1.toNat,rC.2 nJ,qV.2 ⟨x.2.2.toNat,rC.2 nJ,?_⟩⟩⟩;exact pW nO (pW nO nO))
 refine qX this ?_;simp only[List.length_flatMap,oF,pR,List.map_const',List.sum_replicate_nat];omega
structure GwO (p:dtP) (K todo out:List One):Prop where
 up:out.Pairwise LtO
 eq:∀x,x∈out↔x∈todo
 len:todo.length=out.length
 has:∀x∈K,x∈todo
 cl:∀x∈todo,ClO (nT p) p.2.2.1 K x
def Ext{α:Type}(l m:List α):Prop:= ∀(j:Nat) y,l[j]? =some y→m[j]? =some y
theorem Ext.trans{α:Type}{l m n:List α}(h:Ext l m)(g:Ext m n):Ext l n:=λj y e=>g j y (h j y e)
theorem Ext.mem{α:Type}{l m:List α}(h:Ext l m){x:α}(a:x∈l):x∈m:=by obtain⟨j,e⟩:=nZ a;exact bO (h j x e)
theorem Ext.snoc{α:Type}(l m:List α):Ext l (l++m):=λj y e=>by
 rw[oJ (eE.1 e).1];exact e
variable {K:List One}
theorem GwO.few(V:VPp p)(S:Sy p)(c:∀x∈K,OkO p x){a b:List One}(H:GwO p K a b):b.length≤10100000:=Jc V S (λx d=>(H.cl x ((H.eq x).1 d)).ok S c) H.up
theorem GwO.add(V:VPp p)(S:Sy p)(g:∀x∈K,OkO p x){a b:List One}(H:GwO p K a b){y:One}(i:ClO (nT p) p.2.2.1 K y):
 Ok ((CF b y).bind λt=>(cond t.2 ((app a [y]).bind λt=>some t) (some a)).bind λz=>some (z,t.1)) λr=>GwO p K r.1 r.2∧Ext a r.1∧y∈r.1:=by
 have l:=H.few V S g;have m:=H.len;refine AM (io H.up nJ y) λt j=>?_;obtain⟨t1,t2,t3⟩:=j;rcases t3 with⟨e,f,c⟩|⟨e,f,c⟩
 ·rw[c,f];exact AB ⟨H,λ_ _ h=>h,(H.eq y).1 e⟩
 ·rw[c];refine AM (Q:=λz=>z=a++ [y]) (Az nN (AB rfl)) λz k=>AB ?_;subst k;refine⟨⟨t1,λx=>?_,nN,λx d=>rD _ (H.has x d),λx d=>?_⟩,Ext.snoc _ _,nP⟩
  ·rw[t2,H.eq,oV,oD]
  ·rcases oV.1 d with h | h
   ·exact H.cl x h
   ·rw[oD.1 h];exact i
theorem QP(V:VPp p)(S:Sy p){f:Q0}(X:UK p f.1 f.2.1)(hu:K.Pairwise LtO)(P:∀x∈K,OkO p x):Ok (CR p f K) λo=>o.Pairwise LtO∧ ∀x,x∈o↔ClO (nT p) p.2.2.1 K x:=by
 have b6:=Jc V S P hu;have hR:=V.few;have hT:=S.t1;have hV:=S.v1;have a5:nT p=(p.1.length:Int):=rfl;unfold CR;refine Az nN (Az nN ?_);rw[pX];refine Bz (λ(z:Int×List One×List One)=>∃i:Nat,z.1=(i:Int)∧i≤z.2.1.length∧GwO p K z.2.1 z.2.2∧ ∀(k d j:Nat) r a s u t,(∃F:Nat,F<i∧z.2.1[F]? =some ((k:Int),(d:Int),u))→p.2.2.1[k]? =some r→r.2.1[d]? =some s→p.2.2.1[j]? =some a→a.1=s→Bgn (nT p) p.2.2.1 (r.2.1.drop (d+1)) u t→((j:Int),0,t)∈z.2.1)
  (λz=>10100001 - z.1.toNat) (λo=>o.Pairwise LtO∧ ∀x,x∈o↔ClO (nT p) p.2.2.1 K x) ⟨0,rfl,pO _,⟨hu,λ_=>rS,rfl,λ_ h=>h,λ_ h=>.base h⟩,λk d j r a s u t ⟨F,h,_⟩=>nJ⟩ (λz w=>?_) λo ho=>AB ho
 obtain⟨i_,c,b7⟩:=z;obtain⟨i,h1,R,H,hc⟩:=w;dsimp only at h1 R H hc ⊢;subst h1;have hf:=H.few V S P;have hl:=H.len;refine AR (λT=>?_) λT=>BB ⟨H.up,λx=>⟨λh=>H.cl x ((H.eq x).1 h),λh=>(H.eq x).2 ?_⟩⟩
 ·have T:=mX T;have U:=bD (show i<c.length by omega);obtain⟨x,a6⟩:∃x,c[i]'nJ=x:=⟨_,rfl⟩;rw[a6]at U;have W:=bO U;have a7:=(H.cl x W).ok S P;obtain⟨⟨x0,x1,r,C,hd⟩,u0,u1⟩:=a7;dsimp only at x0 x1 C hd;obtain⟨k,Y⟩:∃k:Nat,x.1=(k:Int):=⟨_,(pA x0).symm⟩;obtain⟨d,A⟩:∃d:Nat,x.2.1=(d:Int):=⟨_,(pA x1).symm⟩;have I:x=((k:Int),(d:Int),x.2.2):=pW Y (pW A rfl);obtain⟨u,Z⟩:∃u,x.2.2=u:=⟨_,rfl⟩;rw[Z]at I u0 u1;rw[Y,oI]at C;rw[A,oI]at hd;have b8:=V.short r (bO C);refine AM (Q:=λ(z:List One×List One)=>GwO p K z.1 z.2∧Ext c z.1∧ ∀(j:Nat) a s t,r.2.1[d]? =some s→p.2.2.1[j]? =some a→a.1=s→Bgn (nT p) p.2.2.1 (r.2.1.drop (d+1)) u t→((j:Int),0,t)∈z.1) ?_ λz w=>?_
  ·refine AS U (AO (KZ (p:=p) (x:=(x.1,x.2.1)) ⟨x0,x1,r,by rw[Y];exact C,by dsimp only;rw[A];exact hd⟩) ?_);have hb:beh p.2.2.1 (x.1,x.2.1)=(r.2.1[d]?).getD (-1):=by rw[Y,A];exact Oo _ k d C
   refine AR (λl=>AB ⟨H,λ_ _ h=>h,λj a s t G m n _=>?_⟩) λl=>?_
   ·have l:=mX l;rw[hb,G]at l
    have:=(S.left a (bO m)).1
    simp at l;omega
   ·have l:=mY l;obtain⟨s,hs⟩:∃s,r.2.1[d]? =some s:=by
     cases g:r.2.1[d]? with
     |some s=>exact⟨s,rfl⟩
     |none=>rw[hb,g]at l;simp at l;omega
    have b9:=(eE.1 hs).1;have a8:beh p.2.2.1 (x.1,x.2.1)=s:=by rw[hb,hs];rfl
    rw[a8,Y];refine AS C ?_;rw[A,w64 nJ nJ];have a0:cut r.2.1 (((d:Nat):Int)+1) (r.2.1.length:Int)=some (r.2.1.drop (d+1)):=by
     unfold cut;rw[mZ ⟨nJ,nJ,nJ⟩,oI,qQ,show(((d:Nat):Int)+1).toNat=d+1 by omega]
    refine AO a0<|Az nN (Az nN ?_);rw[pX,Z,bZ];refine AM (R5 X.sh nJ nJ (λs' a9=>?_) nN) λb b0=>?_
    ·rcases oV.1 a9 with h | h
     ·have:=S.right r (bO C) s' (oZ h)
      rw[a5]at this;omega
     ·rw[oD.1 h];omega
    obtain⟨b1,b2,_⟩:=b0;have a1:∀t,Hs b.1 t↔Bgn (nT p) p.2.2.1 (r.2.1.drop (d+1)) u t:=λt=>(b2 t).trans ((X.bg S).trans (gb S u1));refine BK (λj' (z:List One×List One)=>GwO p K z.1 z.2∧Ext c z.1∧ ∀(j:Nat) a t,j<j'→p.2.2.1[j]? =some a→a.1=s→Bgn (nT p) p.2.2.1 (r.2.1.drop (d+1)) u t→((j:Int),0,t)∈z.1) nJ ⟨H,λ_ _ h=>h,λj a t h=>nJ⟩ (λj z hj w=>?_) λz w=>AB ⟨w.1,w.2.1,λj a s' t G m n B=>w.2.2 j a t (eE.1 m).1 m (by rw[hs]at G;cases G;exact n) B⟩;obtain⟨H1,E1,c1⟩:=w;have D:=bD hj;obtain⟨a,b3⟩:∃a,p.2.2.1[j] =a:=⟨_,rfl⟩;rw[b3]at D;refine AM (Q:=λ(z:List One×List One)=>GwO p K z.1 z.2∧Ext c z.1∧ ∀(i:Nat) a t,i<j+1→p.2.2.1[i]? =some a→a.1=s→Bgn (nT p) p.2.2.1 (r.2.1.drop (d+1)) u t→((i:Int),0,t)∈z.1) (AS D ?_) λz w=>AB w;refine AR (λa2=>AB ⟨H1,E1,λi q t R m n B=>?_⟩) λJ=>?_
    ·rcases nY.1 R with g | rfl
     ·exact c1 i q t g m n B
     ·rw[D]at m;cases m;rw[n]at a2;simp at a2
    ·have J:a.1=s:=by simpa using J
     refine BK (λt' (L:List One×List One)=>GwO p K L.1 L.2∧Ext z.1 L.1∧ ∀t:Int,t< (t':Int)→Hs b.1 t→((j:Int),0,t)∈L.1) nJ ⟨H1,λ_ _ h=>h,λt h g=>by have:=g.1;omega⟩ (λt L ht v=>?_) λL v=>AB ⟨v.1,E1.trans v.2.1,λi q t R m n B=>?_⟩
     ·obtain⟨M,N,c2⟩:=v;have hg:=bD ht;obtain⟨bt,b4⟩:∃bt,b.1[t] =bt:=⟨_,rfl⟩;rw[b4]at hg;refine AS hg (AM (Q:=λ(O:List One×List One)=>GwO p K O.1 O.2∧Ext L.1 O.1∧(bt=true→((j:Int),0,(t:Int))∈O.1)) (AR (λh=>?_) λh=>AB ⟨M,λ_ _ h=>h,λe=>by rw[h]at e;cases e⟩) λO E=>AB ⟨E.1,N.trans E.2.1,λt' h' g'=>?_⟩)
      ·refine(M.add V S P (y:=((j:Int),0,(t:Int))) (.step (by rw[←I];exact H.cl x W) C hs D J ((a1 _).1 ⟨nJ,by rw[oI,hg,h]⟩))).mono λO h3=>⟨h3.1,h3.2.1,λ_=>h3.2.2⟩
      ·by_cases e:t'=(t:Int)
       ·subst e
        have:=g'.2
        rw[oI,hg]at this;exact E.2.2 (by simpa using this)
       ·exact E.2.1.mem (c2 t' nJ g')
     ·rcases nY.1 R with g | rfl
      ·exact v.2.1.mem (c1 i q t g m n B)
      ·have hh:=(a1 t).2 B;exact v.2.2 t (by have:=(eE.1 hh.2).1;have:=hh.1;omega) hh
  ·obtain⟨M,N,c2⟩:=w;have c0:=M.len;have c3:=M.few V S P;have b5:=(eE.1 (N i x U)).1;rw[w64 nJ nJ];refine Bd ⟨⟨i+1,nJ,b5,M,λk' d' j r1 r2 s u' t ⟨F,G,m⟩ n B g5 g6 g7=>?_⟩,nO⟩;rcases nY.1 G with g | rfl
   ·have a3:=bD (show F<c.length by omega)
    have:=N _ _ a3
    dsimp only at m;rw[m]at this;refine N.mem (hc k' d' j r1 r2 s u' t ⟨F,g,?_⟩ n B g5 g6 g7);rw[a3];exact this.symm
   ·have:=N _ _ U
    dsimp only at m;rw[m,I]at this;have e1:=nB (λo:Option One=>(o.getD x).1) this;have e2:=nB (λo:Option One=>(o.getD x).2.1) this;have e3:=nB (λo:Option One=>(o.getD x).2.2) this;dsimp only[Option.getD_some]at e1 e2 e3;obtain rfl:k'=k:=nJ
    obtain rfl:d'=d:=nJ
    subst e3;rw[C]at n;cases n;exact c2 j r2 s t B g5 g6 g7
 ·have T:=mY T
  induction h with
  |base h=>exact H.has _ h
  | @step k d j r a s u t _ G m n B g5 ih=>
   obtain⟨F,a4⟩:=nZ ih;exact hc k d j r a s u t ⟨F,by have:=(eE.1 a4).1;omega,a4⟩ G m n B g5
end
end Go.Proofs.YtfnppeejaimnbaaGreatDoor
namespace Go.Proofs.YtfnppeejaimnbaaGreatDoor
open Go Go.Eng
section
variable {B:List dtK}
def yOf(B:List dtK)(E:List (List Edge)):RS (List Edge):=(B.map (·.1),B.map (·.2.1),E,B.map (·.2.2.1),B.map (·.2.2.2),((tot B:Nat):Int))
theorem JA{α:Type}{o:Option α}{P:α→Prop}(h:Ok (o.bind some) P):Ok o P:=by cases o<;>exact h
theorem VZ(q:B.length≤1099512000000)(l:∀b∈B,b.1.length≤1000000)(k:List Item):Ok (Ry (B.map (·.1)) k) λe=>(∃(i:Nat) (b:dtK),e= .done (i:Int)∧B[i]? =some b∧b.1=k)∨(∃u,e= .next u∧ ∀b∈B,b.1≠k):=by
 unfold Ry;refine JA (Bz (λz=>∃i:Nat,z=(i:Int)∧i≤B.length∧ ∀(j:Nat) b,j<i→B[j]? =some b→b.1≠k) (λz=>B.length - z.toNat) (λe=>(∃(i:Nat) (b:dtK),e= .done (i:Int)∧B[i]? =some b∧b.1=k)∨(∃u,e= .next u∧ ∀b∈B,b.1≠k)) ⟨0,rfl,pO _,λj b h=>nJ⟩ (λz m=>?_) λb a=>AB a);obtain⟨i,rfl,r,f⟩:=m;rcases pQ i B.length with hlt | hge
 ·have a:=bD hlt;obtain⟨b,d⟩:∃b,B[i] =b:=⟨_,rfl⟩;rw[d]at a;have o:=l b (bO a);refine Ay (mW (by rw[oF];omega)) (AS (x:=b.1) (by rw[oT,a];rfl) (AO (Yc _ _ nJ) (AR (λh=>BB (.inl ⟨i,b,rfl,a,mX h⟩)) λh=>Bd ?_)));rw[w64 (n:=(i:Int)+1) nJ nJ];refine⟨⟨i+1,nJ,hlt,λj p c e=>?_⟩,nJ⟩;rcases nY.1 c with g | rfl
  ·exact f j p g e
  ·rw[a]at e;cases e;exact mY h
 ·refine AZ (mV (by rw[oF];omega)) (BB (.inr ⟨(),rfl,λb a=>?_⟩));obtain⟨j,c⟩:=nZ a;exact f j b (by have:=(eE.1 c).1;omega) c
section
variable {p:RP}
theorem Inv.kl(V:VPp p){n:Nat}{syms:nH}{E:List (List Edge)}(H:Inv p n syms (B,E)):∀b∈B,b.1.length≤10100∧b.2.1.length≤10100:=λb c=>by
 have⟨a,d⟩:=H.wf b c;rw[d];exact⟨GY V a.ok (sC a.up),(GZ V a).2.2.2⟩
theorem Yi(V:VPp p){n:Nat}{syms:nH}{E:List (List Edge)}(H:Inv p n syms (B,E))(q:B.length≤1099512000000)(x:tot B≤1152921504606846976){k:List Item}(l:Kv p.2.2.1 k)(fr wi:Int):
 placeG [] p (yOf B E) k fr wi=some ((((Fm p B k fr wi).1:Nat):Int),yOf (Fm p B k fr wi).2 (EI E B.length (Fm p B k fr wi).2.length)):=by
 obtain⟨e,r,m⟩:=VZ q (λb s=>by have:=H.kl V b s;omega) k;have y:E.length=B.length:=H.len;unfold placeG;show(Ry (B.map (·.1)) k).bind _=_;rw[r,mE];rcases IZ p B k fr wi with⟨i,b,c,a,o⟩|⟨c,a⟩
 ·rw[c];rcases m with⟨d,f,rfl,h,j⟩|⟨u,rfl,g⟩
  ·have:d=i:=H.apart d i f b h a (by rw[j,o])
   subst this
   have:EI E B.length B.length=E:=by unfold EI;rw[mZ rfl]
   dsimp only;rw[this]
  ·exact nC o (g b (bO a))
 ·rw[c];rcases m with⟨d,f,rfl,h,j⟩|⟨u,rfl,g⟩
  ·exact nC j (a f (bO h))
  ·have⟨_,_,_,t⟩:=GZ V l;have v:EI E B.length (B++ [(k,clo p k,fr,wi)]).length=E++ [[]]:=by unfold EI;rw[nA nP]
   dsimp only;rw[v];rw[QO V l,mE];unfold yOf;dsimp only;rw[GW nN,mE,GW nN,mE,GW nN,mE,GW nN,mE,GW nN,mE];rw[Qi,w64 (by simp only[pC,oF,pU,qZ];omega) (by simp only[pC,oF,pU,qZ];omega),w64 nJ nJ];simp only[oW,List.map_cons,List.map_nil,pC,oF,pU,qZ];have w:tot [(k,clo p k,fr,wi)] =(clo p k).length:=by unfold tot;simp
   rw[w];congr 2;omega
theorem eD(V:VPp p){I:List Item}(d:∀x∈I,OkI p.2.2.1 x)(l:I.Pairwise Lt)(u:I.length≤10100)(s:Int):dw p I s=some (nx p.2.2.1 I s):=by
 unfold dw;refine oQ (JA (BK (λj (z:List Item)=>z=nx p.2.2.1 (I.take j) s) nJ (by simp[nx]) (λj z o e=>?_) λz e=>AB (by rw[e,pS (qL _)])));subst e;have c:=bD o;obtain⟨x,f⟩:∃x,I[j] =x:=⟨_,rfl⟩;rw[f]at c;have a:=bO c;have hd:=OkI.dot V (d x a);have q:=(d x a).2.1;have i:nx p.2.2.1 (I.take (j+1)) s=nx p.2.2.1 (I.take j) s++nx p.2.2.1 [x] s:=by
  rw[pG,c];unfold nx;rw[List.filter_append,oW];rfl
 refine AS c (AO (KZ (d x a)) (AR (λh=>?_) λh=>AB ?_))
 ·have h:beh p.2.2.1 x=s:=by simpa using h
  have b:=λm:Nat=>VC (R:=p.2.2.1) (l.sublist (List.take_sublist m I)) s;have g:(nx p.2.2.1 (I.take j) s).length≤1000000:=qX (gD _ _ _) nN;rw[w64 (n:=x.2+1) nJ nJ];refine(Xh (b j) g (x.1,x.2+1)).mono λm k=>R0 rY (λr t=>sD r t) k.1 (b (j+1)) λy=>?_;rw[k.2.1,i,oV]
  have:nx p.2.2.1 [x] s= [(x.1,x.2+1)]:=by unfold nx;simp[h]
  rw[this,oD]
 ·have h:beh p.2.2.1 x≠s:=by simpa using h
  rw[i]
  have:nx p.2.2.1 [x] s= []:=by unfold nx;simp[h]
  rw[this,pY]
theorem eF(V:VPp p){n:Nat}{syms:nH}{E:List (List Edge)}(H:Inv p n syms (B,E))(v:B.length≤1099512000000)(w:tot B≤1152921504606846976){b:dtK}(t:B[n]? =some b){e:List Edge}(l:E[n]? =some e)(z:e.length≤1000000){s:Int}(u:0≤s):
 symR p (n:Int) s (yOf B E)=some (if s∈sy p.2.2.1 b.2.1 then yOf (Eo p b n (B,E) s).1 (Eo p b n (B,E) s).2 else yOf B E):=by
 have⟨m,o⟩:=H.wf b (bO t);have⟨_,A,g,i⟩:=GZ V m;rw[←o]at A g i;have F:E.length=B.length:=H.len;have q:=Su V g.ok u;have r:Kv p.2.2.1 (nx p.2.2.1 b.2.1 s):=⟨λx j=>(q x j).1,VC g.up s⟩;refine oQ ?_;unfold symR;refine AS (x:=b.2.1) (by show(B.map (·.2.1))[n]? =_;rw[oT,t];rfl) (AO (eD V g.ok g.up i s) ?_);have a:s∈sy p.2.2.1 b.2.1↔0< (nx p.2.2.1 b.2.1 s).length:=by
  rw[Iv];constructor
  ·rintro⟨_,x,j,c⟩;exact List.length_pos_of_mem (RT.2 ⟨x,j,c,rfl⟩)
  ·intro h;have⟨y,C⟩:=List.exists_mem_of_length_pos h;have⟨x,j,c,_⟩:=RT.1 C;exact⟨u,x,j,c⟩
 refine AR (λd=>?_) λd=>AB ?_
 ·have d:s∈sy p.2.2.1 b.2.1:=a.2 (by have:=mX d;omega);rw[mZ d];refine AO (Yi V H v w r (n:Int) s) ?_;obtain⟨pl,k⟩:∃pl,Fm p B (nx p.2.2.1 b.2.1 s) (n:Int) s=pl:=⟨_,rfl⟩;have f:(EI E B.length pl.2.length)[n]? =some e:=by
   unfold EI;split
   ·exact l
   ·rw[oJ (eE.1 l).1];exact l
  have D:=(eE.1 f).1;rw[k];refine AS (x:=e) f (Az nN (Ex nJ (by show(n:Int) < (((EI E B.length pl.2.length).length:Nat):Int);omega) (AB ?_)));unfold Eo;rw[k,f];rfl
 ·have d:s∉sy p.2.2.1 b.2.1:=λh=>by have:=mY d;have:=a.1 h;omega
  rw[nA d]
end
end
section
variable {p:RP}
theorem bk(V:VPp p){b:dtK}(j:Kv p.2.2.1 b.1∧b.2.1=clo p b.1)(n:Nat){s:Int}(k:0≤s)(y:BE):(Eo p b n y s).1.length≤y.1.length+1∧tot (Eo p b n y s).1≤tot y.1+10100:=by
 obtain⟨a,c⟩:=j;have⟨_,l,d,e⟩:=GZ V a;rw[←c]at l d e;have f:Kv p.2.2.1 (nx p.2.2.1 b.2.1 s):=⟨λx m=>(Su V d.ok k x m).1,VC d.up s⟩;have h:=(GZ V f).2.2.2;unfold Eo;dsimp only;rcases IZ p y.1 (nx p.2.2.1 b.2.1 s) (n:Int) s with⟨i,o,g,_⟩|⟨g,_⟩
 ·rw[g];exact⟨nO,nO⟩
 ·rw[g];refine⟨nP,?_⟩;rw[Qi]
  have:tot [(nx p.2.2.1 b.2.1 s,clo p (nx p.2.2.1 b.2.1 s),(n:Int),s)] =(clo p (nx p.2.2.1 b.2.1 s)).length:=by unfold tot;simp
  omega
theorem Va(V:VPp p){b:dtK}(a:Kv p.2.2.1 b.1∧b.2.1=clo p b.1)(n:Nat):∀(l:nH) (y:BE),(∀s∈l,0≤s)→(EW p b n l y).1.length≤y.1.length+l.length∧tot (EW p b n l y).1≤tot y.1+l.length *10100
 | [],y,_=>⟨qL _,by simp[EW]⟩
 |s::l,y,h=>by
  have d:=bk V a n (h s (qH ..)) y;have f:=Va V a n l (Eo p b n y s) λx c=>h x (oY _ c);have e:EW p b n (s::l) y=EW p b n l (Eo p b n y s):=rfl;rw[e,pU];omega
theorem Yj(b:dtK)(n:Nat)(l:nH)(s:Int)(y:BE):EW p b n (l++ [s]) y=Eo p b n (EW p b n l y) s:=by unfold EW;rw[List.foldl_append];rfl
theorem Yk{l:nH}(i:l.Pairwise (· < ·))(j:Int):l.filter (λs=>decide (s<j+1))=l.filter (λs=>decide (s<j)) ++(if j∈l then[j] else[]):=by
 refine R0 (R:=(· < ·)) (λx=>Int.lt_irrefl x) (λc d=>Int.lt_trans c d) (i.filter _) ?_ λx=>?_
 ·refine rE.2 ⟨i.filter _,by split<;>simp,λa e b f=>?_⟩
  have e:=mX (qB.1 e).2;split at f
  ·obtain rfl:=oD.1 f;exact e
  ·cases f
 ·rw[oV,qB,qB,nD,nD];constructor
  ·rintro⟨c,d⟩;rcases Int.lt_or_eq_of_le (show x≤j by omega) with g | rfl
   ·exact .inl ⟨c,g⟩
   ·right;rw[mZ c];exact oD.2 rfl
  ·rintro(⟨c,d⟩|h)
   ·exact⟨c,nJ⟩
   ·split at h
    ·obtain rfl:=oD.1 h;exact⟨by assumption,nJ⟩
    ·cases h
def SyB(p:RP):Prop:=p.1.length+p.2.1.length≤1000∧ ∀r∈p.2.2.1,∀s∈r.2.1,s< ((p.1.length+p.2.1.length:Nat):Int)
theorem ge(S:SyB p)(x:Item):beh p.2.2.1 x< ((p.1.length+p.2.1.length:Nat):Int):=by
 unfold beh;split
 ·rename_i r a
  cases h:r.2.1[x.2.toNat]? with
  |none=>simp;omega
  |some s=>exact S.2 r (bO a) s (bO h)
 ·omega
theorem Yl(V:VPp p)(S:SyB p)(A:1≤p.2.2.1.length){n:Nat}{b:dtK}(f:(stM p n).1[n]? =some b)(I:(stM p n).1.length≤1099511900000)(J:tot (stM p n).1≤1125899906842624):UF p (n:Int) (yOf (stM p n).1 (stM p n).2)=some (yOf (stM p (n+1)).1 (stM p (n+1)).2):=by
 have v:=Ph V A n;have q:=v.wf b (bO f);have⟨_,_,C,r⟩:=GZ V q.1;rw[←q.2]at C r;have D:hC .i64 ((p.1.length:Int)+(p.2.1.length:Int))+1=((p.1.length+p.2.1.length+1:Nat):Int):=by
  have:=S.1
  rw[w64 nJ nJ];omega
 have F:=WS p.2.2.1 b.2.1;refine oQ ?_;unfold UF;rw[D];refine JA (BK (λj (z:RS (List Edge))=>z=yOf (EW p b n ((sy p.2.2.1 b.2.1).filter λs=>decide (s< (j:Int))) (stM p n)).1 (EW p b n ((sy p.2.2.1 b.2.1).filter λs=>decide (s< (j:Int))) (stM p n)).2) (by have:=S.1;omega) ?_ (λj z g i=>?_) λz i=>AB ?_)
 ·have:(sy p.2.2.1 b.2.1).filter (λs=>decide (s< ((0:Nat):Int)))= []:=List.filter_eq_nil_iff.2 λs a=>by
   have:=(Iv.1 a).1
   simp;omega
  rw[this];rfl
 ·subst i;obtain⟨l,k⟩:∃l,(sy p.2.2.1 b.2.1).filter (λs=>decide (s< (j:Int)))=l:=⟨_,rfl⟩;have h:∀s∈l,s∈sy p.2.2.1 b.2.1:=λs a=>by rw[←k]at a;exact(qB.1 a).1
  have G:l.length≤10100:=by rw[←k];exact qX (List.length_filter_le _ _) nJ
  have o:=Inv.fold V l (y:=stM p n) v f h;rw[pX]at o;have K:=Va V q n l (stM p n) λs a=>(Iv.1 (h s a)).1;have⟨m,H⟩:=JS (p:=p) (b:=b) (n:=n) l (stM p n);have c:(EW p b n l (stM p n)).1[n]? =some b:=by rw[H,oJ (eE.1 f).1];exact f
  have t:n< (EW p b n l (stM p n)).2.length:=by rw[o.len];exact(eE.1 c).1
  have w:=bD t;have u:((EW p b n l (stM p n)).2[n]).length≤1000000:=by
   have:=nB qM (o.cur b _ c w).1
   rw[oF]at this;omega
  rw[k];have d:=Yk (eu p.2.2.1 b.2.1) (j:Int);rw[show((j+1:Nat):Int)=(j:Int)+1 by omega,d,k];refine Ok.of (eF V (B:=(EW p b n l (stM p n)).1) (E:=(EW p b n l (stM p n)).2) o nJ nJ c w u nJ) ?_;by_cases g:(j:Int)∈sy p.2.2.1 b.2.1
  ·rw[mZ g,mZ g,Yj]
  ·rw[nA g,nA g,pY]
 ·have:(sy p.2.2.1 b.2.1).filter (λs=>decide (s< ((p.1.length+p.2.1.length+1:Nat):Int)))=sy p.2.2.1 b.2.1:=List.filter_eq_self.2 λs a=>by
   have⟨_,x,_,L⟩:=Iv.1 a
   have:=ge S x
   simp;omega
  rw[this]at i;have e:stM p (n+1)=EW p b n (sy p.2.2.1 b.2.1) (stM p n):=by
   show(match (stM p n).1[n]? with
    |some b=>EW p b n (sy p.2.2.1 b.2.1) (stM p n)
    |none=>stM p n)=_
   rw[f]
  rw[i,e]
theorem Vb(n:Int):C4 n=some (held n):=by
 unfold C4 held;by_cases a:n<0
 ·rw[mZ a,mW a];rfl
 ·rw[nA a,mV a];by_cases b:n>1099511627776
  ·rw[mZ b,mW b];rfl
  ·rw[nA b,mV b];rfl
theorem Vc(st it:Int)(B:List dtK)(E:List (List Edge)):Ok (TD st it (yOf B E)) λm=>(m=true∧ ¬Fit (held st) (held it) B)∨(m=false∧Fit (held st) (held it) B):=by
 unfold TD;refine AO (Vb st) (AR (λh=>AB (.inl ⟨rfl,λg=>?_⟩)) λh=>AO (Vb it) (AB ?_))
 ·have h:=mX h
  have:=g.1
  unfold yOf at h;dsimp only at h;rw[oF]at h;omega
 ·have h:=mY h;unfold yOf at h ⊢;dsimp only at h ⊢;rw[oF]at h;by_cases a:((tot B:Nat):Int) >held it
  ·exact .inl ⟨mW a,λg=>by have:=g.2;omega⟩
  ·exact .inr ⟨mV a,by unfold Fit;omega⟩
theorem Ym(V:VPp p)(S:SyB p)(g:1≤p.2.2.1.length)(st it:Int):Ok (Rz p st it) λr=>(∃n,(stM p n).1.length≤n∧Fit (held st) (held it) (stM p n).1∧r=some (mkW p (yOf (stM p n).1 (stM p n).2)))∨(r=none∧ ∃n,¬Fit (held st) (held it) (stM p n).1):=by
 have w:=Qj st;have x:=Qj it;have j:Kv p.2.2.1 k0∧clo p k0=clo p k0:=(Ph V g 0).wf (k0,clo p k0, -1, -1) (oD.2 rfl);have k:=(GZ V j.1).2.2.2;unfold Rz;have e0:placeG [] p ([],[],[],[],[],(0:Int)) [((0:Int),(0:Int))] (-1:Int) (-1:Int)=some ((0:Int),yOf (stM p 0).1 (stM p 0).2):=by
  unfold placeG;have l:Ry [] [((0:Int),(0:Int))] =some (.next ()):=by
   obtain⟨e,c,o⟩:=VZ (B:=[]) nP nP [((0:Int),(0:Int))];have c:Ry [] [((0:Int),(0:Int))] =some e:=c;rcases o with⟨i,b,_,h,_⟩|⟨u,rfl,_⟩
   ·simp at h
   ·exact c
  dsimp only;rw[l,mE];dsimp only;rw[QO V j.1,mE,GW nP,mE,GW nP,mE,GW nP,mE,GW nP,mE,mE];rw[w64 nP nP,w64 nJ nJ];have q:tot (stM p 0).1=(clo p k0).length:=by
   show tot [(k0,clo p k0, -1, -1)] =_;unfold tot;simp
  unfold yOf;rw[q];simp;exact⟨rfl,rfl,rfl,rfl,rfl⟩
 refine AO e0 ?_;unfold UG;refine Bz (λ(z:Int×RS (List Edge))=>∃i:Nat,z=((i:Int),yOf (stM p i).1 (stM p i).2)∧(i=0∨Fit (held st) (held it) (stM p (i - 1)).1∧i≤(stM p (i - 1)).1.length)) (λz=>1099511627777 - z.1.toNat) (λr=>(r=none∧ ∃n,¬Fit (held st) (held it) (stM p n).1)∨ ∃n,r=some (yOf (stM p n).1 (stM p n).2)∧(stM p n).1.length≤n) ⟨0,rfl,.inl rfl⟩ (λz s=>?_) λr d=>?_
 ·obtain⟨i,rfl,y⟩:=s;have t:(yOf (stM p i).1 (stM p i).2).1.length=(stM p i).1.length:=by unfold yOf;rw[oF]
  dsimp only;rw[t];refine AR (λh=>?_) λh=>BB (.inr ⟨i,rfl,by have:=mY h;omega⟩);have h:=mX h;refine AM (Vc st it (stM p i).1 (stM p i).2) λm a=>?_;rcases a with⟨rfl,a⟩|⟨rfl,a⟩
  ·exact Ay rfl (BB (.inl ⟨rfl,i,a⟩))
  ·have f:=a;unfold Fit at f;have v:=bD (show i< (stM p i).1.length by omega);refine AZ rfl (AO (Yl V S g v nJ nJ) (Bd ?_));rw[w64 (n:=(i:Int)+1) nJ nJ];refine⟨⟨i+1,rfl,.inr ⟨?_,?_⟩⟩,?_⟩
   ·rw[rL];exact a
   ·rw[rL];omega
   ·dsimp only;omega
 ·rcases d with⟨rfl,d⟩|⟨n,rfl,hn⟩
  ·exact AB (.inr ⟨rfl,d⟩)
  ·refine AM (Vc st it (stM p n).1 (stM p n).2) λm a=>?_;rcases a with⟨rfl,a⟩|⟨rfl,a⟩
   ·exact Ay rfl (AB (.inr ⟨rfl,n,a⟩))
   ·exact AZ rfl (AB (.inl ⟨n,hn,a,rfl⟩))
end
theorem eG{p:RP}{L M:Int}{n:Nat}(b:(stM p n).1.length≤n)(a:Fit L M (stM p n).1)(m:Nat):Fit L M (stM p m).1:=by
 rcases Nat.le_total n m with q | q
 ·rw[WT b q];exact a
 ·have⟨l,c⟩:=aM p q;rw[c]at a;exact a.of_app
theorem gh{nt c:Nat}{p:RP}(H:Pl nt c p):SyB p:=by
 have f:=H.terms.len;have g:=H.nt5;have i:=H.vars;obtain⟨st,j,l,d⟩:=H.first;refine⟨nJ,λr e s b=>?_⟩;obtain⟨k,a⟩:=nZ e;rcases pM k with rfl | h
 ·rw[d]at a;cases a
  have:s=st:=by simpa using b
  omega
 ·have:=(H.rules k r h a).right s b
  omega
section
variable {p:RP}{B:List dtK}{E:List (List Edge)}{t:Int}
def Off(B:List dtK)(n:Int):Prop:=n<0∨(B.length:Int) ≤n
theorem bm(H:Fin p B E)(n:Int):Ok (B0 (BG p B E t) n) λx=>(∃(j:Nat) (b:dtK) (e:List Edge),n=(j:Int)∧B[j]? =some b∧E[j]? =some e∧x=NV b e)∨(Off B n∧x=([],[],[],0,0)):=by
 rcases qY n 0 with h | h
 ·unfold B0;refine AM (Q:=λc=>c=true) (Ay (mW h) (AB rfl)) λc a=>?_;subst a;exact Ay rfl (AB (.inr ⟨.inl h,rfl⟩))
 ·rcases qY n (B.length:Int) with g | g
  ·obtain⟨j,rfl⟩:=oH h;have d:=bD (show j<B.length by omega);have⟨e,f⟩:=H.edge d;exact Ok.of (XS H d f) (.inl ⟨j,_,e,rfl,d,f,rfl⟩)
  ·unfold B0;refine AM (Q:=λc=>c=true) (AZ (mV nJ) (AB (mW (by rw[En H.len];omega)))) λc a=>?_;subst a;exact Ay rfl (AB (.inr ⟨.inr g,rfl⟩))
def GoZ(p:RP)(B:List dtK)(E:List (List Edge))(n s r:Int):Prop:=(∃(j:Nat) (b:dtK) (e:List Edge),n=(j:Int)∧B[j]? =some b∧E[j]? =some e∧J6 p.2.2.1 B b e s r)∨(Off B n∧r= -1)
theorem GoZ.unique(H:Fin p B E){n s r i:Int}(h:GoZ p B E n s r)(l:GoZ p B E n s i):r=i:=by
 have k:∀ {j:Nat} {b:dtK},B[j]? =some b→ ¬Off B (j:Int):=λh g=>by
  have:=(eE.1 h).1
  unfold Off at g;omega
 rcases h with⟨j,b,e,rfl,c,f,m⟩|⟨c,f⟩ <;>rcases l with⟨o,u,v,q,a,d,t⟩|⟨a,d⟩
 ·have:o=j:=nJ
  subst this;rw[c]at a;rw[f]at d;cases a;cases d;exact J6.unique H m t
 ·exact nC a (k c)
 ·subst q;exact nC c (k a)
 ·rw[f,d]
theorem gm(V:VPp p)(H:Fin p B E)(n s:Int):Ok (BF (BG p B E t) n s) (GoZ p B E n s):=by
 rcases qY n 0 with h | h
 ·unfold BF;refine AM (bm H n) λx b=>?_;rcases b with⟨j,_,_,rfl,_⟩|⟨a,rfl⟩
  ·omega
  ·exact AB (.inr ⟨a,rfl⟩)
 ·rcases qY n (B.length:Int) with g | g
  ·obtain⟨j,rfl⟩:=oH h;have c:=bD (show j<B.length by omega);have⟨e,d⟩:=H.edge c;exact(XT V H c d s).mono λr f=>.inl ⟨j,_,e,rfl,c,d,f⟩
  ·unfold BF;refine AM (bm H n) λx b=>?_;rcases b with⟨j,_,_,rfl,a,_⟩|⟨a,rfl⟩
   ·have:=(eE.1 a).1;omega
   ·exact AB (.inr ⟨a,rfl⟩)
theorem UO(V:VPp p)(H:Fin p B E)(n s:Int):Ok (BM (mkW p (yOf B E)) n s) (GoZ p B E n s):=by
 have O:=H.len;unfold BM;refine AM (Q:=λc=>(c=true∧Off B n)∨(c=false∧0≤n∧n< (B.length:Int))) (AR (λh=>AB (.inl ⟨rfl,.inl (mX h)⟩)) λh=>AB ?_) λc t=>?_
 ·have h:=mY h;show(decide (n≥ (E.length:Int))=true∧_)∨_;by_cases g:n≥ (E.length:Int)
  ·exact .inl ⟨mW g,.inr nJ⟩
  ·exact .inr ⟨mV g,nJ,nJ⟩
 ·rcases t with⟨rfl,t⟩|⟨rfl,G,P⟩
  ·exact Ay rfl (AB (.inr ⟨t,rfl⟩))
  ·obtain⟨j,rfl⟩:=oH G;have l:=bD (show j<B.length by omega);obtain⟨b,v⟩:∃b,B[j] =b:=⟨_,rfl⟩;rw[v]at l;have⟨e,f⟩:=H.edge l;have R:=H.edges_len V l f;have hd:=H.done j b e l f;refine AZ rfl (Bz (λz=>∃i:Nat,z=(i:Int)∧i≤e.length∧ ∀(k:Nat) x,k<i→e[k]? =some x→x.1≠s) (λz=>e.length - z.toNat) (λr=>(∃u,r= .next u∧s∉sy p.2.2.1 b.2.1)∨ ∃(k:Nat) (x:Edge),r= .done x.2∧e[k]? =some x∧x.1=s) ⟨0,rfl,pO _,λk x h=>nJ⟩ (λz I=>?_) λr J=>?_)
   ·obtain⟨i,rfl,S,D⟩:=I;refine AS (x:=e) f ?_;rcases pQ i e.length with hlt | hge
    ·have d:=bD hlt;obtain⟨x,w⟩:∃x,e[i] =x:=⟨_,rfl⟩;rw[w]at d;refine Ay (mW nJ) (AS (x:=e) f (AS d (AR (λh=>AS (x:=e) f (AS d (BB (.inr ⟨i,x,rfl,d,eq_of_beq h⟩)))) λh=>Bd ?_)));rw[w64 (n:=(i:Int)+1) nJ nJ];refine⟨⟨i+1,nJ,hlt,λk y m A=>?_⟩,nJ⟩;rcases nY.1 m with g | rfl
     ·exact D k y g A
     ·rw[d]at A;cases A;exact ne_of_beq_false h
    ·refine AZ (mV nJ) (BB (.inl ⟨(),rfl,λo=>?_⟩));rw[←hd.1]at o;have⟨x,d,a⟩:=qV.1 o;obtain⟨k,m⟩:=nZ d;exact D k x (by have:=(eE.1 m).1;omega) m a
   ·rcases J with⟨u,rfl,o⟩|⟨k,x,rfl,d,a⟩
    ·exact AB (.inl ⟨j,b,e,rfl,l,f,.inr ⟨o,rfl⟩⟩)
    ·have C:=bO d;have⟨q,K,L,M,N,F⟩:=hd.2 x C;rw[a]at F;refine AB (.inl ⟨j,b,e,rfl,l,f,.inl ⟨by rw[←hd.1,←a];exact qV.2 ⟨x,C,rfl⟩,q,K,L,M,N,F,?_⟩⟩);rw[←a];exact C
noncomputable def goF(p:RP)(B:List dtK)(E:List (List Edge))(n s:Int):Int:=(BM (mkW p (yOf B E)) n s).getD (-1)
theorem Xk(V:VPp p)(H:Fin p B E)(n s:Int):BM (mkW p (yOf B E)) n s=some (goF p B E n s):=by have⟨r,a,_⟩:=UO V H n s;unfold goF;rw[a];rfl
theorem fD(V:VPp p)(H:Fin p B E)(n s:Int):BF (BG p B E t) n s=some (goF p B E n s):=by have⟨r,a,b⟩:=UO V H n s;obtain⟨e,c,d⟩:=gm (t:=t) V H n s;unfold goF;rw[a,c,GoZ.unique H d b];rfl
inductive gq (B:List dtK):Nat→nH→Prop
 |zero:gq B 0 []
 |step {m f:Nat} {b:dtK} {l:nH} :1≤m→B[m]? =some b→b.2.2.1=(f:Int)→gq B f l→gq B m (l++ [b.2.2.2])
end
theorem UP:Fy oO 147 147 143 1:=⟨rM,.inl rM,⟨t143,nU,rfl,⟨_,rfl,rfl⟩,nQ,nQ⟩,nQ⟩
noncomputable def De(p_0:As)(a_1:QR)(f:Int):Option (Option Hm):=
 (R4 (p_0.1,p_0.2.1,p_0.2.2.1,p_0.2.2.2.1,p_0.2.2.2.2.1,p_0.2.2.2.2.2)).bind λt8=>
 (CR p_0 t8 ([(0,0,0)]:List Av)).bind λu=>
 (loop (σ:=(Int×nH×List (List Av))) (β:=AX (nH×List (List Av)) (Option Hm)) (0,([(0:Int)]:nH),([u]:List (List Av))) λa=>
  cond (decide (a.1< (a.2.2.length:Int)))
  (cond (decide ((a.2.2.length:Int) >f))
   (some (oS (oS none)))
   ((forS (σ:=(nH×List (List Av))) 1 (hC .i64 ((p_0.1.length:Int)+(p_0.2.1.length:Int))) (a.2.1,a.2.2) λe b=>
    ((loop (σ:=(Int×List Av)) (β:=List Av) (0,([]:List Av)) λd=>
     (idx b.2 a.1).bind λi=>
     cond (decide (d.1< (i.length:Int)))
     ((idx b.2 a.1).bind λj=>
      (idx j d.1).bind λc=>
      (BY p_0 (c.1,c.2.1)).bind λv=>
      (cond (v==e)
      ((CF d.2 (c.1,(hC .i64 (c.2.1+1)),c.2.2)).bind λw=>
       some w.1)
      (some d.2)).bind λx=>
      some (oP ((hC .i64 (d.1+1)),x)))
     (some (oS d.2))).bind λk=>
    cond ((k.length:Int)==0)
    (some (b.1,b.2))
    ((CR p_0 t8 k).bind λl=>
     (forS (σ:=Bool) 0 (b.2.length:Int) false λg y=>
      (cond y
      (some true)
      ((idx b.2 g).bind λm=>
       (C5 m l).bind λz=>
       some z)).bind λA=>
      some A).bind λB=>
     (cond (!B)
     ((app b.2 ([l]:List (List Av))).bind λC=>
      (idx b.1 a.1).bind λn=>
      (BM a_1 n e).bind λD=>
      (app b.1 ([D]:nH)).bind λE=>
      some (E,C))
     (some (b.1,b.2))).bind λo=>
     some (o.1,o.2))).bind λp=>
    some (p.1,p.2)).bind λq=>
    some (oP ((hC .i64 (a.1+1)),q.1,q.2))))
  (some (oS (oP (a.2.1,a.2.2))))).bind λh=>match h with
 |.next r=>
  (PG (p_0.1,p_0.2.1,p_0.2.2.1,p_0.2.2.2.1,p_0.2.2.2.2.1,p_0.2.2.2.2.2) a_1 r.1 r.2).bind λs=>
  some s
 |.done t=>some t
theorem NM{φ:AD}{h:AH}{F:List Chk}{p_0:Pl6}{d_p_0:As}{a_1:nG}{U:QR}{B:Int}(e:G8 φ p_0 d_p_0)(V:Pt QS φ a_1 U)(s0:St φ F h){r:(Option Hm)}(hd:De d_p_0 U B=some r):
 nX oO 28 [aG p_0,lP a_1,lN B] h (An λv h'=>∃ψ:AD,∃y:nG,∃W:Option Hm,Sub φ ψ∧v=lR.val y∧W=r∧Np OP ψ y W∧St ψ F h'):=by
 refine AT mixed func28 (NH ..) ?_;have al:p_0.1.2.1=qM d_p_0.1:=e.k0.length;have ap:p_0.2.1.2.1=qM d_p_0.2.1:=e.k1.length;refine D5 (t:=p_0) s0 λr1 he X=>BS (t:=p_0) X ?_;have⟨hf,c8,hd⟩:=bS hd;refine AK (Ye (p_0:=(p_0.1,p_0.2.1,p_0.2.2.1,p_0.2.2.2.1,p_0.2.2.2.2.1,p_0.2.2.2.2.2.1,())) e.k0 e.k1 e.k2 e.k3 e.k4 e.k5 X c8) ?_;rintro _ hg ⟨hh,t8,hi,hj,rfl,rfl,Y,Z⟩;refine⟨t8,rfl,BS (t:=p_0) Z<|AU (vs:=[.int .i64 (0:Int),.int .i64 (0:Int),.int .i64 (0:Int)]) Z λH hk c9=>?_⟩;have ch:=sE (r:=BA) (l:=([((0:Int),(0:Int),(0:Int))]:List Av)) (n:=1) c9 (.cons (a:=[_,_,_]) ⟨[_],_,rfl,rfl,⟨[_],_,rfl,rfl,rfl⟩⟩ .nil) rfl nQ;have⟨hl,hm,cl,cm⟩:=oK (t:=((some ⟨H,0,none⟩,1,1):Slc)) ch;have⟨hn,cp,hd⟩:=bS hd;refine AK (FO e.up Y.up cl cm cp) ?_;rintro _ ho ⟨I,C,b2,hp,rfl,rfl,cs,cw⟩;refine⟨C,rfl,AU (vs:=[sv C]) cw λl0 hq cx=>AU (vs:=[.int .i64 (0:Int)]) cx λl1 hr d0=>?_⟩;have d1:=sE (r:=(oG .i64)) (l:=([(0:Int)]:nH)) (n:=1) d0 (.cons (a:=[_]) rfl .nil) rfl nQ;have d2:=sE (r:=(oB BA)) (l:=([b2]:List (List Av))) (n:=1) d1.at1 (.cons (a:=[_]) ⟨C,rfl,cs⟩ .nil) rfl nQ;have⟨d3,d4,hd⟩:=bS hd;refine Af (λy A g=>∃ψ:AD,∃b3:nH,∃b4:List (List Av),Sub I ψ∧oP (b3,b4)=g∧St ψ (cR 3 (oG .i64) y.2.1 b3::cR 143 (oB BA) y.2.2.1 b4::Wq2 r1 p_0::F) A) (g:=d3) ?_ ?_
 ·refine Bx d4 (λy A g=>∃ψ:AD,∃b5:nH,∃b6:List (List Av),Sub I ψ∧(y.1,b5,b6)=g∧St ψ (cR 3 (oG .i64) y.2.1 b5::cR 143 (oB BA) y.2.2.1 b6::Wq2 r1 p_0::F) A) rfl ⟨I,([(0:Int)]:nH),([b2]:List (List Av)),sb,rfl,d2.at2.at1.at2⟩ ?_
  ·rintro l2 hs _ _ ⟨u,b7,b8,ht,rfl,w⟩ f b9;have ba:=w.at1.rowLen;refine mP f (by rw[ba] <;>rfl) (λf=>?_) (λf=>?_)
   ·refine mP f (by rw[ba] <;>rfl) (λf=>?_) (λf=>?_)
    ·obtain rfl:=iS f;obtain rfl:=b9 _ rfl;obtain rfl:=iS hd;exact Ak (Ah (AC ⟨u,none,none,sb,rfl,rfl,(rT _ _),w.tail.tail.tail⟩))
    have⟨hu,d5,f⟩:=bS f;refine BD d5 (λd6 y A g=>∃ψ:AD,∃bb:nH,∃bd:List (List Av),Sub u ψ∧y.1=d6∧(bb,bd)=g∧St ψ (cR 3 (oG .i64) y.2.1 bb::cR 143 (oB BA) y.2.2.1 bd::Wq2 r1 p_0::F) A) rfl ⟨u,b7,b8,sb,rfl,rfl,w.at1.at2.at1.at2⟩ ?_ ?_ ?_
    ·rintro _ x hv _ _ ⟨p,k,m,hw,rfl,rfl,z⟩ J hx bf d7;have bg:=z.at1.rowLen;refine AA z.at2 rfl<|AA z.at2 rfl<|Ad (by rw[al,ap];exact mW bf) ?_;have⟨d8,c,J⟩:=bS J;refine Af (λy A g=>∃ψ:AD,∃bi:nH,∃bj:List (List Av),Sub p ψ∧(bi,bj)=g∧St ψ (cR 3 (oG .i64) y.1 bi::cR 143 (oB BA) y.2.1 bj::Wq2 r1 p_0::F) A) (g:=d8) ?_ ?_
     ·have d9:=z.at2;have⟨dd,dk,c⟩:=bS c;refine Af (λy A g=>∃ψ:AD,∃bl:List Av,Sub p ψ∧bl=g∧hM BA ψ y.2.1 bl∧St ψ (cR 3 (oG .i64) x.2.1 k::cR 143 (oB BA) x.2.2.1 m::Wq2 r1 p_0::F) A) (g:=dd) ?_ ?_
      ·refine Bx dk (λy A g=>∃ψ:AD,∃bn:List Av,Sub p ψ∧(y.1,bn)=g∧hM BA ψ y.2.1 bn∧St ψ (cR 3 (oG .i64) x.2.1 k::cR 143 (oB BA) x.2.2.1 m::Wq2 r1 p_0::F) A) rfl ⟨p,[],sb,rfl,(rX BA p),d9.at2.at2⟩ ?_
       ·rintro l3 hy _ _ ⟨dl,bp,hz,rfl,K,q⟩ b dm;have⟨i0,dn,b⟩:=bS b;obtain⟨i1,i2,dp,ds,dx,dy⟩:=(q.at1).get dn;refine AI _ dp (Ai ds ?_);obtain⟨e0,rfl,e1⟩:=dx;have e2:=e1.length;refine AF (dy 0 _ rfl) rfl<|mP b (by rw[e2] <;>rfl) (λb=>?_) (λb=>?_)
        ·have⟨i3,e3,b⟩:=bS b;obtain⟨i4,i5,e4,e5,e6,e7⟩:=(q.at1).get e3;refine AI _ e4 (Ai e5 ?_);obtain⟨e8,rfl,e9⟩:=e6;refine AF (e7 0 _ rfl) rfl<|ZG e9 b q λj b=>AU (vs:=[.int .i64 (0:Int),.int .i64 (0:Int),.int .i64 (0:Int)]) q λL i6 ea=>AQ ea rfl rfl λi7 ed=>AQ ed rfl rfl λi8 ee=>AQ ee rfl rfl λi9 a0=>BS (t:=p_0) a0.at3<|AA a0 rfl<|AA a0 rfl ?_;have⟨ih,ef,b⟩:=bS b;refine AK (Cu (o:=(j.1,j.2.1,())) e.up a0 ef) ?_;rintro _ ir ⟨bq,M,it,rfl,rfl,s⟩;refine⟨M,rfl,?_⟩;have⟨eg,o,b⟩:=bS b;refine AY (λy A g=>∃ψ:AD,∃bs:List Av,Sub bq ψ∧bs=g∧hM BA ψ y.1 bs∧St ψ (cW 146 L [.int .i64 j.1,.int .i64 j.2.1,.int .i64 j.2.2]::cR 3 (oG .i64) x.2.1 k::cR 143 (oB BA) x.2.2.1 m::Wq2 r1 p_0::F) A) (g:=eg) ?_ ?_
         ·refine mP o rfl (λo=>?_) (λo=>?_)
          ·refine AA s rfl<|AA s rfl<|AA s rfl ?_;have⟨ix,el,o⟩:=bS o;refine AK (Dd (A:=(j.1,(wN j.2.1),j.2.2,())) K.up s el) ?_;rintro _ j0 ⟨em,N,en,j1,rfl,rfl,eo,er⟩;exact⟨N,rfl,lG rfl ⟨em,en,sb,iS o,eo,er.at3.at3.at3.at3⟩⟩
          exact lG rfl ⟨bq,bp,sb,iS o,K.up,s.at3.at3.at3.at3⟩
         rintro l4 j2 ⟨es,ev,j3,rfl,ew,ex⟩;obtain rfl:=iS b;exact lH rfl rfl ⟨es,ev,sb,rfl,ew,ex.tail.at2.at2.at2⟩
        obtain rfl:=iS b;obtain rfl:=dm _ rfl;exact AJ (lI rfl ⟨dl,bp,sb,rfl,K,q.at2.at2.at2⟩)
      rintro l5 j4 ⟨ez,j5,j6,rfl,bt,O⟩;have f0:=bt.length;refine mP c (by rw[f0] <;>rfl) (λc=>?_) (λc=>?_)
      ·have f1:=O.at1;exact lI rfl ⟨ez,k,m,sb,iS c,f1.at2.at1.at2⟩
      refine BS (t:=p_0) O.at2 ?_;have⟨j7,f2,c⟩:=bS c;refine AK (FO e.up Y.up bt O f2) ?_;rintro _ j8 ⟨bx,D,f3,j9,rfl,rfl,bz,f4⟩;refine⟨D,rfl,?_⟩;have⟨ja,f5,c⟩:=bS c;refine BD f5 (λf6 y A g=>∃ψ:AD,Sub bx ψ∧y.1=f6∧y.2.1=g∧St ψ (cR 3 (oG .i64) x.2.1 k::cR 143 (oB BA) x.2.2.1 m::Wq2 r1 p_0::F) A) rfl ⟨bx,sb,rfl,rfl,f4.at2.at2.at2⟩ ?_ ?_ ?_
      ·rintro _ P jb _ _ ⟨c0,jc,rfl,rfl,Q⟩ R jd f7 f8;refine Ad (dT bg f7) ?_;have⟨f9,i,R⟩:=bS R;refine AY (λy A g=>∃ψ:AD,Sub c0 ψ∧y.1=g∧St ψ (cR 3 (oG .i64) x.2.1 k::cR 143 (oB BA) x.2.2.1 m::Wq2 r1 p_0::F) A) (g:=f9) ?_ ?_
       ·refine mP i rfl (λi=>?_) (λi=>?_)
        ·have fa:=Q.at2;exact lG rfl ⟨c0,sb,iS i,fa.at2.at2⟩
        have⟨je,fd,i⟩:=bS i;obtain⟨jf,jg,fl,fn,fo,fr⟩:=(Q.at1).get fd;refine AI _ fl (Ai fn ?_);obtain⟨fs,rfl,fv⟩:=fo;refine AF (fr 0 _ rfl) rfl ?_;have⟨jh,fz,i⟩:=bS i;refine AK (LI fv bz.up Q fz) ?_;rintro _ ji ⟨g0,S,jj,rfl,rfl,g1⟩;exact⟨S,rfl,lG rfl ⟨g0,sb,iS i,g1.at2.at2.at2⟩⟩
       rintro l6 jk ⟨g2,jl,rfl,g3⟩;obtain rfl:=iS R;exact lH rfl rfl ⟨g2,sb,f8,rfl,g3.at2.at2.at2⟩
      ·rintro _ P jm ⟨g4,jn,rfl,rfl,g5⟩ g6;refine AW (dF bg g6)<|AJ (lI rfl ⟨_,g4,sb,rfl,rfl,g5.at2.at2.at2⟩)
      rintro l7 jo ⟨_,c1,jp,_,rfl,c2⟩;have⟨g7,d,c⟩:=bS c;refine AY (λy A g=>∃ψ:AD,∃c3:nH,∃c4:List (List Av),Sub c1 ψ∧(c3,c4)=g∧St ψ (cR 3 (oG .i64) y.1 c3::cR 143 (oB BA) y.2.1 c4::Wq2 r1 p_0::F) A) (g:=g7) ?_ ?_
      ·refine mP d rfl (λd=>?_) (λd=>?_)
       ·refine AU (vs:=[sv D]) c2 λl8 bf c5=>?_;have⟨g8,g9,d⟩:=bS d;refine AV (ms:=([f3]:List (List Av))) UP c5.tail.at1 rfl (pP c5) (.cons (a:=[_]) ⟨D,rfl,bz.up⟩ .nil) rfl g9 ?_;intro l9 jq c6;refine gxO c6.at1 d λjr d=>?_;have⟨js,gc,d⟩:=bS d;refine AK (Cj V.up c6 gc) ?_;rintro _ jt ⟨gd,E,ju,rfl,rfl,gf⟩;refine⟨E,rfl,AU (vs:=[.int .i64 E]) gf λm0 jv c7=>?_⟩;have⟨gg,gi,d⟩:=bS d;refine AV (ms:=([E]:nH)) BR c7.tail.at1 rfl (pP c7) (.cons (a:=[_]) rfl .nil) rfl gi ?_;intro m1 jw gj;exact lG rfl ⟨gd,gg,g8,sb,iS d,gj.at1.at2.at1.at2⟩
       exact lG rfl ⟨c1,k,m,sb,iS d,c2.at1.at2.at1.at2⟩
      rintro m2 jx ⟨gk,gl,gn,jy,rfl,go⟩;exact lJ rfl ⟨gk,gl,gn,sb,iS c,go.at1.at2.at1.at2⟩
     rintro m3 jz ⟨gp,gr,gs,k6,rfl,gv⟩;obtain rfl:=iS J;exact lH rfl rfl ⟨gp,gr,gs,sb,d7,rfl,gv.at1.at2.at1.at2⟩
    ·rintro _ x k7 ⟨gw,gx,h0,k8,rfl,rfl,T⟩ h1;refine AA T.at2 rfl<|AA T.at2 rfl<|AW (by rw[al,ap];exact mV (qD.2 h1))<|AJ (lI rfl ⟨_,gw,gx,h0,sb,rfl,rfl,T.at1.at2.at1.at2⟩)
    rintro m4 k9 ⟨_,h2,h3,h4,ka,_,rfl,h5⟩;obtain rfl:=iS f;exact lH rfl rfl ⟨h2,h3,h4,sb,rfl,h5.at1.at2.at1.at2⟩
   obtain rfl:=iS f;obtain rfl:=b9 _ rfl;exact AJ (lI rfl ⟨u,b7,b8,sb,rfl,w.at1.at2.at1.at2⟩)
 rintro G kb ⟨kc,kd,ke,kf,rfl,h6⟩;have⟨kg,kh,h7,h8⟩:=oK (t:=G.2.1) h6;have⟨ki,kj,h9,hb⟩:=oK (t:=G.2.2.1) h8;have⟨kk,hc,hd⟩:=bS hd;obtain rfl:=iS hd;exact Yh (t:=p_0) sb e.up V.up h7.up h9 hb hc
end Go.Proofs.YtfnppeejaimnbaaGreatDoor
namespace Go.Proofs.YtfnppeejaimnbaaGreatDoor
open Go Go.Eng Dg
section
variable {R:Rl}
def Fh(nT:Int)(R:Rl)(l:nH)(x:One):Prop:= ∃k d:Nat,x=((k:Int),(d:Int),x.2.2)∧Can nT R l k d x.2.2
theorem Fh.mk{nT:Int}{l:nH}{k d:Nat}{t:Int}(h:Can nT R l k d t):Fh nT R l ((k:Int),(d:Int),t):=⟨k,d,rfl,h⟩
theorem Fh.of{nT:Int}{l:nH}{k d:Nat}{t:Int}(h:Fh nT R l ((k:Int),(d:Int),t)):Can nT R l k d t:=by
 obtain⟨a,b,e,h⟩:=h;have c:=nB (·.1) e;have f:=nB (·.2.1) e;dsimp only at c f h;obtain rfl:a=k:=nJ
 obtain rfl:b=d:=nJ
 exact h
theorem eH{nT:Int}{x:One}:Fh nT R [] x↔ClO nT R [((0:Int),(0:Int),(0:Int))] x:=by
 constructor
 ·rintro⟨k,d,e,h⟩;rw[e]
  generalize x.2.2=t at h
  clear e
  generalize j:([]:nH)=l at h
  induction h with
  |start=>exact .base nP
  |clos _ a b c f g i=>exact .step (i j) a b c f g
  |step=>simp at j
 ·intro h
  induction h with
  |base h=>rw[oD.1 h];exact Fh.mk (k:=0) (d:=0) .start
  |step _ a b c f g i=>exact Fh.mk (d:=0) (.clos i.of a b c f g)
def Kn(nT:Int)(R:Rl)(l:nH)(s:Int)(x:One):Prop:= ∃y,Fh nT R l y∧beh R (y.1,y.2.1)=s∧x=(y.1,y.2.1+1,y.2.2)
theorem bo{nT:Int}(G:Gr nT R){l:nH}{s:Int}(p:0≤s){K:List One}(o:∀x,x∈K↔Kn nT R l s x){x:One}:Fh nT R (l++ [s]) x↔ClO nT R K x:=by
 constructor
 ·rintro⟨k,d,e,h⟩;rw[e]
  generalize x.2.2=t at h
  clear e
  generalize c:l++ [s] =m at h
  induction h with
  |start=>simp at c
  |clos _ b a f g i j=>exact .step (j c) b a f g i
  | @step l' k d r s' t n b a=>
   obtain⟨rfl,e⟩:=rP c rfl;obtain rfl:s=s':=by simpa using e
   exact .base ((o _).2 ⟨_,Fh.mk n,by rw[Oo R k d b,a];rfl,rfl⟩)
 ·intro h
  induction h with
  |base h=>
   obtain⟨y,⟨k,d,e,n⟩,a,rfl⟩:=(o _).1 h;rw[e]at a ⊢;have⟨r,q,hd⟩:=Ga G a p;exact Fh.mk (d:=d+1) (.step n q hd)
  |step _ b a f g i j=>exact Fh.mk (d:=0) (.clos j.of b a f g i)
section
variable {p:dtP}{B:List dtK}{E:List (List Edge)}
theorem Wn(V:VPp p)(H:Fin p B E)(G:Gr (nT p) p.2.2.1){l l':nH}{q a:Nat}(h:Pth (TrB p B E) 0 l q)(c:Pth (TrB p B E) 0 l' a)(g:∀x,Fh (nT p) p.2.2.1 l x↔Fh (nT p) p.2.2.1 l' x):q=a:=by
 have A:=HP V H;have one:∀ {l l':nH} {q a:Nat},Pth (TrB p B E) 0 l q→Pth (TrB p B E) 0 l' a→(∀x,Fh (nT p) p.2.2.1 l x↔Fh (nT p) p.2.2.1 l' x)→ ∀x,Cl p.2.2.1 (KB B q) x→Cl p.2.2.1 (KB B a) x:=λ{l l' q a} h c g x hx=>by
  obtain⟨k,d,t,rfl,s⟩:=UN G A _ l q rfl h x hx;exact R6 G A ((g _).1 (Fh.mk s)).of c
 have i:∀ {l l':nH} {q a:Nat},Pth (TrB p B E) 0 l q→Pth (TrB p B E) 0 l' a→(∀x,Fh (nT p) p.2.2.1 l x↔Fh (nT p) p.2.2.1 l' x)→q≠a→ ∀x,x∈KB B q→x∈KB B a:=λ{l l' q a} h c g hne x hx=>by
  have u:=A.at0 A.s0 h;have m:=A.at0 A.s0 c;have j:=one h c g x (.base hx);rcases A.kern u hx with⟨rfl,rfl⟩|n
  ·exact nC j (XU G A m nJ)
  ·cases j with
   |base h=>exact h
   |step=>dsimp only at n;omega
 rcases Nat.decEq q a with hne | e
 ·obtain⟨v,o⟩:∃b,B[q]? =some b:=⟨_,bD (A.at0 A.s0 h)⟩;obtain⟨r,f⟩:∃b,B[a]? =some b:=⟨_,bD (A.at0 A.s0 c)⟩;refine H.apart q a v r o f (R0 rY (λn w=>sD n w) (H.wf _ (bO o)).1.up (H.wf _ (bO f)).1.up λx=>?_);rw[←RX o,←RX f];exact⟨i h c g hne x,i c h (λx=>(g x).symm) (λe=>hne e.symm) x⟩
 ·exact e
def gt(p:dtP)(B:List dtK)(E:List (List Edge))(c:List One)(q:Int)(l:nH):Prop:=c.Pairwise LtO∧(∃n:Nat,q=(n:Int)∧Pth (TrB p B E) 0 l n)∧ ∀x,x∈c↔Fh (nT p) p.2.2.1 l x
theorem gt.ok(V:VPp p)(H:Fin p B E)(S:Sy p)(G:Gr (nT p) p.2.2.1){c:List One}{q:Int}{l:nH}(h:gt p B E c q l):∀x∈c,OkO p x:=by
 obtain⟨_,⟨n,rfl,i⟩,m⟩:=h;have A:=HP V H;have tt:∀ {l:nH} {k d:Nat} {t:Int},Can (nT p) p.2.2.1 l k d t→0≤t∧t<nT p:=λ{l k d t} a=>by
  induction a with
  |start=>have:=S.t1;unfold nT;omega
  | @clos l k d j r w s t u _ o _ _ _ b f=>
   rcases b with b | ⟨_,rfl⟩
   ·exact R7 S b λs v=>(S.right _ (bO o) s (oZ v)).1
   ·exact f
  |step _ _ _ f=>exact f
 intro x g;obtain⟨k,d,e,a⟩:=(m x).1 g;refine⟨?_,tt a⟩
 have:=Cl.ok (λx g=>A.ok (A.at0 A.s0 i) g) (R6 G A a i)
 rw[e];exact this
end
end
section
variable {p:dtP}{B:List dtK}{E:List (List Edge)}
theorem br(V:VPp p){i:Int}{all:List (List One)}{c:List One}(B:idx all i=some c)(C:∀x∈c,OkO p x)(M:c.length≤10100000)(s:Int):
 Ok (loop (σ:=Int×List One) (β:=List One) ((0:Int),([]:List One)) λz=>
  (idx all i).bind λe=>cond (decide (z.1< (e.length:Int)))
   ((idx all i).bind λe=>(idx e z.1).bind λx=>(BY (p.1,p.2.1,p.2.2.1,p.2.2.2.1,p.2.2.2.2.1,p.2.2.2.2.2) (x.1,x.2.1)).bind λt=>
    (cond (t==s) ((CF z.2 (x.1,hC .i64 (x.2.1+(1:Int)),x.2.2)).bind λt=>some t.1) (some z.2)).bind λD=>some (oP (hC .i64 (z.1+(1:Int)),D)))
   (some (oS z.2))) λk=>k.Pairwise LtO∧ ∀x,x∈k↔∃y∈c,beh p.2.2.1 (y.1,y.2.1)=s∧x=(y.1,y.2.1+1,y.2.2):=by
 refine JA (Bz (λ(z:Int×List One)=>∃n:Nat,z.1=(n:Int)∧n≤c.length∧z.2.length≤n∧z.2.Pairwise LtO∧ ∀x,x∈z.2↔∃y,(∃j:Nat,j<n∧c[j]? =some y)∧beh p.2.2.1 (y.1,y.2.1)=s∧x=(y.1,y.2.1+1,y.2.2)) (λz=>c.length - z.1.toNat) (λk=>k.Pairwise LtO∧ ∀x,x∈k↔∃y∈c,beh p.2.2.1 (y.1,y.2.1)=s∧x=(y.1,y.2.1+1,y.2.2)) ⟨0,rfl,pO _,qL _,.nil,λx=>⟨λh=>(by cases h),λ⟨y,⟨j,h,_⟩,_⟩=>nJ⟩⟩ (λz E=>?_) λb F=>AB F);obtain⟨N,k⟩:=z;obtain⟨n,rfl,O,G,m,o⟩:=E;dsimp only at G m o ⊢;rw[B,mE];refine AR (λh=>?_) λh=>BB ⟨m,λx=>(o x).trans ⟨λ⟨y,⟨j,_,g⟩,h⟩=>⟨y,bO g,h⟩,λ⟨y,g,H⟩=>?_⟩⟩
 ·have h:=mX h;have l:=bD (show n<c.length by omega);obtain⟨x,q⟩:∃x,c[n]'nJ=x:=⟨_,rfl⟩;rw[q]at l;obtain⟨⟨i0,w,r,u,hd⟩,I⟩:=C x (bO l);dsimp only at i0 w u hd
  have:=V.short r (bO u)
  rw[mE];refine AS l (AO (KZ (p:=p) (x:=(x.1,x.2.1)) ⟨i0,w,r,u,hd⟩) ?_);rw[w64 (n:=x.2.1+1) nJ nJ,w64 (n:=(n:Int)+1) nJ nJ];have step:∀d:List One,d.length≤n+1→d.Pairwise LtO→(∀y,y∈d↔y∈k∨(beh p.2.2.1 (x.1,x.2.1)=s∧y=(x.1,x.2.1+1,x.2.2)))→Ok (some (oP ((n:Int)+1,d):AX (Int×List One) (List One))) λe=>(∃s',e= .next s'∧(∃n:Nat,s'.1=(n:Int)∧n≤c.length∧s'.2.length≤n∧s'.2.Pairwise LtO∧ ∀x,x∈s'.2↔∃y,(∃j:Nat,j<n∧c[j]? =some y)∧beh p.2.2.1 (y.1,y.2.1)=s∧x=(y.1,y.2.1+1,y.2.2))∧c.length - s'.1.toNat<c.length - (n:Int).toNat)∨ ∃b,e= .done b∧(b.Pairwise LtO∧ ∀x,x∈b↔∃y∈c,beh p.2.2.1 (y.1,y.2.1)=s∧x=(y.1,y.2.1+1,y.2.2)):=λd J K L=>
   ⟨_,rfl,.inl ⟨_,rfl,⟨n+1,rfl,nJ,J,K,λy=>by
    dsimp only;rw[L,o];constructor
    ·rintro(⟨z,⟨j,a,b⟩,g⟩|g)
     ·exact⟨z,⟨j,nJ,b⟩,g⟩
     ·exact⟨x,⟨n,nJ,l⟩,g⟩
    ·rintro⟨z,⟨j,a,b⟩,g⟩;rcases nY.1 a with a | rfl
     ·exact .inl ⟨z,⟨j,a,b⟩,g⟩
     ·rw[l]at b;cases b;exact .inr g⟩,nO⟩⟩
  refine AM (Q:=λd=>d.length≤n+1∧d.Pairwise LtO∧ ∀y,y∈d↔y∈k∨(beh p.2.2.1 (x.1,x.2.1)=s∧y=(x.1,x.2.1+1,x.2.2))) (AR (λf=>?_) λf=>AB ⟨nJ,m,λy=>?_⟩) λd h=>step d h.1 h.2.1 h.2.2
  ·have f:beh p.2.2.1 (x.1,x.2.1)=s:=by simpa using f
   refine AM (io m nJ (x.1,x.2.1+1,x.2.2)) λt v=>AB ⟨?_,v.1,λy=>by rw[v.2.1,f];simp⟩;rcases v.2.2 with⟨_,e,_⟩|⟨_,e,_⟩
   ·rw[e];omega
   ·rw[e];omega
  ·have f:beh p.2.2.1 (x.1,x.2.1)≠s:=by simpa using f
   exact⟨.inl,λh=>h.elim id λh=>(f h.1).elim⟩
 ·have h:=mY h;obtain⟨j,A⟩:=nZ g;exact⟨y,⟨j,by have:=(eE.1 A).1;omega,A⟩,H⟩
theorem Yn{all:List (List One)}(q:all.length≤1000000)(o:∀c∈all,c.length≤10100000)(c:List One):
 Ok (forS (σ:=Bool) (0:Int) (all.length:Int) false λi z=>(cond z (some true) ((idx all i).bind λe=>(C5 e c).bind λt=>some t)).bind λz=>some z) λf=>f=true↔c∈all:=by
 refine JA (BK (λn f=>f=true↔∃j:Nat,j<n∧all[j]? =some c) nJ ⟨λh=>(by cases h),λ⟨j,h,_⟩=>nJ⟩ (λn f k b=>?_) λf b=>AB (b.trans ⟨λ⟨j,_,h⟩=>bO h,λh=>?_⟩))
 ·have d:=bD k;refine AM (Q:=λz=>z=true↔∃j:Nat,j<n+1∧all[j]? =some c) (AR (λh=>AB ⟨λ_=>?_,λ_=>rfl⟩) λh=>AS d ?_) λz p=>AB p
  ·have⟨j,l,a⟩:=b.1 h;exact⟨j,nJ,a⟩
  ·refine AO (im _ _ (by have:=o _ (qR k);omega)) (AB ?_);rw[decide_eq_true_iff];constructor
   ·intro e;exact⟨n,nJ,by rw[d,e]⟩
   ·rintro⟨j,l,a⟩;rcases nY.1 l with g | rfl
    ·have:=b.2 ⟨j,g,a⟩
     rw[h]at this;cases this
    ·rw[d]at a;exact Option.some.inj a
 ·obtain⟨j,m⟩:=nZ h;exact⟨j,(eE.1 m).1,m⟩
theorem bu{σ γ:Type}{P:γ→Prop}{f:Int→σ→Option σ}{n:Nat}{s:σ}{k:σ→Option γ}(I:Int→σ→Prop)(l:1≤n)(m:n≤9223372036854775807)(b:I 1 s)(c:∀(j:Int) s,1≤j→j< (n:Int)→I j s→Ok (f j s) (I (j+1)))(d:∀s',I (n:Int) s'→Ok (k s') P):
 Ok ((forS 1 (n:Int) s f).bind k) P:=by unfold forS;rw[mZ ⟨nJ,nJ⟩];obtain⟨s',e,a⟩:=Nz (f:=f) I ((n:Int) - 1).toNat 1 s b λj s g h i=>c j s g nJ i;rw[e];rw[show(1:Int)+(((n:Int) - 1).toNat:Nat)=(n:Int) by omega]at a;exact d s' a
structure CnI (p:dtP) (B:List dtK) (E:List (List Edge)) (pl:nH) (al:List (List One)):Prop where
 len:pl.length=al.length
 at_:∀(j:Nat) c,al[j]? =some c→ ∃q l,pl[j]? =some q∧gt p B E c q l
 zero:∃c∈al,∀x,x∈c↔Fh (nT p) p.2.2.1 [] x
def Nxt(p:dtP)(al:List (List One))(c:List One)(s:Int):Prop:= ∀l,(∀x,x∈c↔Fh (nT p) p.2.2.1 l x)→(∃y,Kn (nT p) p.2.2.1 l s y)→ ∃a∈al,∀x,x∈a↔Fh (nT p) p.2.2.1 (l++ [s]) x
theorem CnI.few(V:VPp p)(H:Fin p B E)(S:Sy p)(G:Gr (nT p) p.2.2.1){pl:nH}{al:List (List One)}(I:CnI p B E pl al):∀c∈al,c.length≤10100000:=λc a=>by
 obtain⟨j,b⟩:=nZ a;have⟨q,l,_,h⟩:=I.at_ j c b;exact Jc V S (h.ok V H S G) h.1
theorem Vd(V:VPp p)(H:Fin p B E)(S:Sy p)(G:Gr (nT p) p.2.2.1){st:Int}(h0:p.2.2.1[0]? =some (nT p+(p.2.1.length:Int),[st],0))(N:Int)(b4:N≤1000){r:Option Hm→Prop}
 (T:r none) (U:∀pl al,CnI p B E pl al→al.length≤3001→(∀c∈al,∀s:Int,1≤s→s< ((p.1.length+p.2.1.length:Nat):Int)→Nxt p al c s)→Ok (PG p (mkW p (yOf B E)) pl al) r):
 Ok (De p (mkW p (yOf B E)) N) r:=by
 have hT:=S.t1;have hV:=S.v1;have A:=HP V H;unfold De;refine AM (bX S h0) λf hf=>?_;have X:=hf.1;clear hf;refine AM (QP V S X (K:=[((0:Int),(0:Int),(0:Int))]) (qS _ _) λx W=>?_) λc0 a1=>?_
 ·rw[oD.1 W];exact⟨⟨qN _,qN _,_,h0,nP⟩,qN _,by dsimp only;unfold nT;omega⟩
 have a2:∀x,x∈c0↔Fh (nT p) p.2.2.1 [] x:=λx=>(a1.2 x).trans eH.symm;have I0:CnI p B E [(0:Int)] [c0]:=⟨rfl,λj c u=>by
  cases j with
  |zero=>
   obtain rfl:c0=c:=by simpa using u
   exact⟨0,[],rfl,a1.1,⟨0,rfl,rfl⟩,a2⟩
  |succ j=>simp at u,c0,nP,a2⟩
 have hw:hC .i64 ((p.1.length:Int)+(p.2.1.length:Int))=((p.1.length+p.2.1.length:Nat):Int):=by rw[w64 nJ nJ];omega
 rw[hw];refine Bz (λ(z:Int×nH×List (List One))=>∃i:Nat,z.1=(i:Int)∧i≤z.2.2.length∧i≤1001∧z.2.2.length≤3001∧CnI p B E z.2.1 z.2.2∧ ∀(j:Nat) c,j<i→z.2.2[j]? =some c→ ∀s:Int,1≤s→s< ((p.1.length+p.2.1.length:Nat):Int)→Nxt p z.2.2 c s) (λz=>1001 - z.1.toNat)
  (λe=>e= .done none∨ ∃pl al,e= .next (pl,al)∧CnI p B E pl al∧al.length≤3001∧ ∀c∈al,∀s:Int,1≤s→s< ((p.1.length+p.2.1.length:Nat):Int)→Nxt p al c s) ⟨0,rfl,nP,nJ,nP,I0,λj c h=>nJ⟩ (λz v=>?_) λe he=>?_
 ·obtain⟨i_,pl,al⟩:=z;obtain⟨i,rfl,hi,c3,a3,I,hd⟩:=v;dsimp only at hi a3 I hd ⊢;refine AR (λh=>AR (λ_=>BB (.inl rfl)) λa4=>?_) λh=>BB (.inr ⟨pl,al,rfl,I,a3,λc hc s w C=>?_⟩)
  ·have h:=mX h;have a4:=mY a4;have D:=bD (show i<al.length by omega);obtain⟨c,b5⟩:∃c,al[i]'nJ=c:=⟨_,rfl⟩;rw[b5]at D;have⟨q,l,hq,Y⟩:=I.at_ i c D;have F:=Y.ok V H S G;refine bu (λs (z:nH×List (List One))=>CnI p B E z.1 z.2∧Ext al z.2∧Ext pl z.1∧(z.2.length:Int)+1≤(al.length:Int)+s∧ ∀s':Int,1≤s'→s'<s→Nxt p z.2 c s') nJ nJ ⟨I,λ_ _ h=>h,λ_ _ h=>h,nO,λs' w C=>nJ⟩ (λs z c4 c5 v=>?_) λz v=>?_
   ·obtain⟨a5,t⟩:=z;obtain⟨L,O,E2,a6,M⟩:=v;dsimp only at L O E2 a6 M ⊢;have a7:idx t (i:Int)=some c:=by rw[CD];exact O _ _ D
    have a8:=L.few V H S G;refine AM (Q:=λ(z:nH×List (List One))=>CnI p B E z.1 z.2∧Ext t z.2∧Ext a5 z.1∧z.2.length≤t.length+1∧Nxt p z.2 c s) ?_ λz v=>AB ⟨v.1,O.trans v.2.1,E2.trans v.2.2.1,by have:=v.2.2.2.1;dsimp only;omega,λs' g1 g2=>?_⟩
    ·refine AM (br V a7 F (Jc V S F Y.1) s) λk hk=>?_;obtain⟨k1,k2⟩:=hk;have a9:∀l,(∀x,x∈c↔Fh (nT p) p.2.2.1 l x)→ ∀x,x∈k↔Kn (nT p) p.2.2.1 l s x:=λl hl x=>(k2 x).trans ⟨λ⟨y,a,b⟩=>⟨y,(hl y).1 a,b⟩,λ⟨y,a,b⟩=>⟨y,(hl y).2 a,b⟩⟩;refine AR (λhe=>AB ⟨L,λ_ _ h=>h,λ_ _ h=>h,nO,λl' o ⟨y,hy⟩=>?_⟩) λhe=>?_
     ·have c6:(k.length:Int)=0:=eq_of_beq he;have b6:k= []:=oE nJ
      have:=(a9 l' o y).2 hy
      rw[b6]at this;cases this
     ·have b0:∀x∈k,OkO p x:=λx W=>by
       obtain⟨y,y1,P,rfl⟩:=(k2 x).1 W;obtain⟨⟨o0,o1,r,hr,o2⟩,o3⟩:=F y y1;dsimp only at o0 o1 hr o2;refine⟨⟨o0,nO,r,hr,?_⟩,o3⟩;dsimp only;unfold beh at P;rw[hr]at P;dsimp only at P;rcases pQ y.2.1.toNat r.2.1.length with g | g
       ·omega
       ·rw[pE g]at P;simp at P;omega
      refine AM (QP V S X k1 b0) λc1 b1=>?_;have J:∀l,(∀x,x∈c↔Fh (nT p) p.2.2.1 l x)→ ∀x,x∈c1↔Fh (nT p) p.2.2.1 (l++ [s]) x:=λl hl x=>(b1.2 x).trans (bo G nJ (a9 l hl)).symm;refine AM (Yn nJ a8 c1) λfd b7=>AM (Q:=λ(z:nH×List (List One))=>CnI p B E z.1 z.2∧Ext t z.2∧Ext a5 z.1∧z.2.length≤t.length+1∧Nxt p z.2 c s) (AR (λb2=>?_) λb2=>AB ⟨L,λ_ _ h=>h,λ_ _ h=>h,nO,λl' o _=>⟨c1,b7.1 (by simpa using b2),J l' o⟩⟩) λz v=>AB v;obtain⟨x,W⟩:∃x,x∈k:=by
       cases k with
       |nil=>simp at he
       |cons x _=>exact⟨x,nP⟩
      obtain⟨_,⟨n,rfl,hp⟩,hm⟩:=Y;obtain⟨y,y1,P,_⟩:=(k2 x).1 W;obtain⟨yk,yd,ye,yc⟩:=(hm y).1 y1;have b8:Cl p.2.2.1 (KB B n) (y.1,y.2.1):=by rw[ye];exact R6 G A yc hp
      obtain⟨m,Z⟩:=A.go (A.at0 A.s0 hp) b8 (by rw[P];omega);rw[P]at Z;refine Az nN<|AO (x:=(n:Int)) (by rw[CD];exact E2 _ _ hq)<|AM (UO V H (n:Int) s) λg hg=>?_;obtain rfl:g=(m:Int):=GoZ.unique H hg (by obtain⟨b,e,w,C,h3⟩:=Z;exact .inl ⟨n,b,e,rfl,w,C,h3⟩);have R:=L.len;refine Az nN (AB ⟨⟨by simp[R],λj c' u=>?_,?_⟩,Ext.snoc _ _,Ext.snoc _ _,nP,λl' o _=>⟨c1,nP,J l' o⟩⟩)
      ·rcases pQ j t.length with g | g
       ·dsimp only at u;rw[oJ g]at u;obtain⟨q',l',e1,e2⟩:=L.at_ j c' u;exact⟨q',l',Ext.snoc _ _ _ _ e1,e2⟩
       ·dsimp only at u;rw[pI g]at u;obtain⟨d,b9⟩:∃d,j - t.length=d:=⟨_,rfl⟩;rw[b9]at u;cases d with
        |zero=>
         obtain rfl:c1=c':=by simpa using u
         obtain rfl:j=t.length:=nJ
         exact⟨(m:Int),l++ [s],by dsimp only;rw[←R];simp,b1.1,⟨m,rfl,sB.2 ⟨n,hp,m,Z,rfl⟩⟩,J l hm⟩
        |succ d=>simp at u
      ·obtain⟨c',w,C⟩:=L.zero;exact⟨c',rD _ w,C⟩
    ·by_cases e:s'=s
     ·subst e;exact v.2.2.2.2
     ·intro l' o hy;obtain⟨c',w,C⟩:=M s' g1 nJ l' o hy;exact⟨c',v.2.1.mem w,C⟩
   ·obtain⟨L,O,E2,a6,M⟩:=v;rw[w64 nJ nJ]
    have:=(eE.1 (O _ _ D)).1
    refine Bd ⟨⟨i+1,nJ,nO,nJ,nO,L,λj c' u a0 s w C=>?_⟩,nO⟩;dsimp only at a0 ⊢;rcases nY.1 u with g | rfl
    ·have b3:=bD (show j<al.length by omega)
     have:=O _ _ b3
     rw[a0]at this;cases this;intro l' o hy;obtain⟨c2,a,b⟩:=hd j _ g b3 s w C l' o hy;exact⟨c2,O.mem a,b⟩
    ·have:=O _ _ D
     rw[a0]at this;cases this;exact M s w C
  ·have h:=mY h;obtain⟨j,u⟩:=nZ hc;exact hd j c (by have:=(eE.1 u).1;omega) u s w C
 ·rcases he with rfl | ⟨pl,al,rfl,I,w,C⟩
  ·exact AB T
  ·exact AM (U pl al I w C) λx W=>AB W
end
def Qc(L:L3)(s k t:Nat):Prop:= ∃l row,L[s]? =some l∧l[k]? =some row∧row[t]? =some true
structure Dm (nk nr nt:Nat) (L:L3):Prop where
 a:L.length=nk
 b:∀l∈L,l.length=nr
 c:∀l∈L,∀row∈l,row.length=nt
theorem Ve{α γ:Type}{P:γ→Prop}{o:Option α}{x:α}{n:Nat}{k:List α→Option γ}(b:o=some x)(d:n≤1000000)(c:Ok (k (qJ n x)) P):Ok ((forS (0:Int) (n:Int) ([]:List α) λ_ l=>o.bind λr=>app l [r]).bind k) P:=by
 refine BK (λj l=>l=qJ j x) nJ rfl (λj l e a=>?_) λl a=>by rw[a];exact c
 subst a;exact AO b (JA (Az nN (AB List.replicate_succ'.symm)))
theorem Wo{nt nr nk:Nat}(g:nt≤1000)(i:nr≤1000)(j:nk≤1000):Ok (PD (nt:Int) (nr:Int) (nk:Int)) λL=>Dm nk nr nt L∧ ∀s k t,¬Qc L s k t:=by
 have f:UL (nt:Int) (nr:Int)=some (qJ nr (qJ nt false)):=by
  refine oQ (JA ?_);unfold UL;exact Ve (PC nJ nJ) nJ (AB rfl)
 refine JA ?_;unfold PD;refine Ve f nJ (AB ⟨⟨nP,λl d=>?_,λl d row h=>?_⟩,λs k t ⟨l,row,a,b,c⟩=>?_⟩)
 ·rw[oM d];simp
 ·rw[oM d]at h;rw[oM h];simp
 ·have e:=oM (bO a);subst e;have e:=oM (bO b);subst e;have e:=oM (bO c);cases e
def Yo(R:Rl)(q:Option Int)(x:One)(s k t:Nat):Prop:=q=some (s:Int)∧ ∃r,R[k]? =some r∧x=((k:Int),(r.2.1.length:Int),(t:Int))
theorem bv{L:L3}{q a c:Nat}{l:List (List Bool)}{row:List Bool}(h:L[q]? =some l)(j:l[a]? =some row)(n:c<row.length){s k t:Nat}:Qc (L.set q (l.set a (row.set c true))) s k t↔Qc L s k t∨(s=q∧k=a∧t=c):=by
 have i:=(eE.1 h).1;have m:=(eE.1 j).1;constructor
 ·rintro⟨l',b,f,d,g⟩;by_cases e:q=s
  ·subst e;rw[oC i]at f;cases f;by_cases e:a=k
   ·subst e;rw[oC m]at d;cases d;by_cases e:c=t
    ·exact .inr ⟨rfl,rfl,e.symm⟩
    ·rw[oR e]at g;exact .inl ⟨l,row,h,j,g⟩
   ·rw[oR e]at d;exact .inl ⟨l,b,h,d,g⟩
  ·rw[oR e]at f;exact .inl ⟨l',b,f,d,g⟩
 ·rintro(⟨l',b,f,d,g⟩|⟨rfl,rfl,rfl⟩)
  ·by_cases e:q=s
   ·subst e;rw[h]at f;cases f;by_cases e:a=k
    ·subst e;rw[j]at d;cases d;exact⟨_,_,oC i,oC m,by
      by_cases e:c=t
      ·subst e;rw[oC n]
      ·rw[oR e];exact g⟩
    ·exact⟨_,b,oC i,by rw[oR e];exact d,g⟩
   ·exact⟨l',b,by rw[oR e];exact f,d,g⟩
  ·exact⟨_,_,oC i,oC m,oC n⟩
section
variable {R:Rl}{pl:nH}{al:List (List One)}{nk nr nt:Nat}
theorem Yp{i:Nat}{q:Int}(C:pl[i]? =some q)(p:0≤q)(O:q< (nk:Int))(P:R.length=nr){x:One}(J:OkI R (x.1,x.2.1)∧0≤x.2.2∧x.2.2< (nt:Int)){L:L3}(D:Dm nk nr nt L):
 Ok (Qp R pl (i:Int) x L) λE=>Dm nk nr nt E∧ ∀s k t,Qc E s k t↔Qc L s k t∨Yo R pl[i]? x s k t:=by
 obtain⟨⟨x0,x1,r,e,hd⟩,x2,x3⟩:=J;dsimp only at x0 x1 e hd;unfold Qp;refine AS C ?_;have j:=bD (show q.toNat<L.length by have:=D.a;omega);obtain⟨l,u⟩:∃l,L[q.toNat]'(by have:=D.a;omega)=l:=⟨_,rfl⟩;rw[u]at j;have d:=bO j;have v:=D.b l d;have K:=(eE.1 e).1;have n:=bD (show x.1.toNat<l.length by omega);obtain⟨row,y⟩:∃row,l[x.1.toNat]'nJ=row:=⟨_,rfl⟩;rw[y]at n;have z:=D.c l d row (bO n);have f:∀s k t,Yo R pl[i]? x s k t↔(x.2.1=(r.2.1.length:Int)∧s=q.toNat∧k=x.1.toNat∧t=x.2.2.toNat):=λs k t=>by
  unfold Yo;rw[C];constructor
  ·rintro⟨o,S,M,A⟩;have o:q=(s:Int):=Option.some.inj o;have F:=nB (·.1) A;have G:=nB (·.2.1) A;have N:=nB (·.2.2) A;dsimp only at F G N;rw[F,oI,M]at e;cases e;exact⟨G,nJ,nJ,nJ⟩
  ·rintro⟨o,rfl,rfl,rfl⟩;exact⟨by rw[pA p],r,e,pW nO (pW o nO)⟩
 refine AM (Q:=λb=>b=decide (x.2.1=(r.2.1.length:Int))) (Ay (mW p) (Cx x0 e (AB rfl))) λb H=>AR (λh=>?_) λh=>AB ⟨D,λs k t=>?_⟩
 ·rw[H,decide_eq_true_iff]at h;refine Cx p j (Cx x0 n (Ex x2 nJ (AB ⟨⟨by rw[oU];exact D.a,λm B=>?_,λm B w I=>?_⟩,λs k t=>?_⟩)))
  ·rcases pK B with g | rfl
   ·exact D.b m g
   ·rw[oU];exact v
  ·rcases pK B with g | rfl
   ·exact D.c m g w I
   ·rcases pK I with g | rfl
    ·exact D.c l d w g
    ·rw[oU];exact z
  ·rw[bv j n nJ,f];exact or_congr rS ⟨λg=>⟨h,g⟩,λg=>g.2⟩
 ·rw[H,nF]at h;rw[f];exact⟨.inl,λg=>g.elim id λg=>(h g.1).elim⟩
theorem Wp(z:R.length=nr)(N:al.length≤1000000)(p:∀(j:Nat) c,al[j]? =some c→c.length≤100000000∧(∃q,pl[j]? =some q∧0≤q∧q< (nk:Int))∧ ∀x∈c,OkI R (x.1,x.2.1)∧0≤x.2.2∧x.2.2< (nt:Int)){L:L3}(D:Dm nk nr nt L):
 Ok (PE R pl al L) λl=>Dm nk nr nt l∧ ∀s k t,Qc l s k t↔Qc L s k t∨ ∃(j:Nat) (c:List One) (x:One),al[j]? =some c∧x∈c∧Yo R pl[j]? x s k t:=by
 refine JA ?_;unfold PE;refine BK (λi l=>Dm nk nr nt l∧ ∀s k t,Qc l s k t↔Qc L s k t∨ ∃(j:Nat) (c:List One) (x:One),j<i∧al[j]? =some c∧x∈c∧Yo R pl[j]? x s k t) nJ ⟨D,λs k t=>⟨.inl,λh=>h.elim id λ⟨j,c,x,h,_⟩=>nJ⟩⟩ (λi v A f=>?_) λv f=>AB ⟨f.1,λs k t=>(f.2 s k t).trans (or_congr rS ⟨λ⟨j,c,x,_,h⟩=>⟨j,c,x,h⟩,λ⟨j,c,x,h⟩=>⟨j,c,x,(eE.1 h.1).1,h⟩⟩)⟩;obtain⟨B,C⟩:=f;have o:=bD A;obtain⟨c,r⟩:∃c,al[i] =c:=⟨_,rfl⟩;rw[r]at o;obtain⟨O,⟨q,E,F,G⟩,H⟩:=p i c o;refine AS o (JA (BK (λn l=>Dm nk nr nt l∧ ∀s k t,Qc l s k t↔Qc v s k t∨ ∃(m:Nat) (x:One),m<n∧c[m]? =some x∧Yo R pl[i]? x s k t) nJ ⟨B,λs k t=>⟨.inl,λh=>h.elim id λ⟨m,x,h,_⟩=>nJ⟩⟩ (λn I J f=>?_) λI f=>AB ⟨f.1,λs k t=>?_⟩))
 ·obtain⟨K,M⟩:=f;have g:=bD J;refine AS g ((Yp E F G z (H _ (bO g)) K).mono λL3 w=>⟨w.1,λs k t=>?_⟩);rw[w.2,M,or_assoc];refine or_congr rS ⟨λh=>?_,λ⟨m,x,a,b,d⟩=>?_⟩
  ·rcases h with⟨m,x,a,b⟩|h
   ·exact⟨m,x,nJ,b⟩
   ·exact⟨n,_,nJ,g,h⟩
  ·rcases nY.1 a with a | rfl
   ·exact .inl ⟨m,x,a,b,d⟩
   ·rw[g]at b;cases b;exact .inr d
 ·rw[f.2,C,or_assoc];refine or_congr rS ⟨λh=>?_,λ⟨j,u,x,a,b,d,e⟩=>?_⟩
  ·rcases h with⟨j,u,x,a,b⟩|⟨m,x,_,a,b⟩
   ·exact⟨j,u,x,nJ,b⟩
   ·exact⟨i,c,x,nJ,o,bO a,b⟩
  ·rcases nY.1 a with a | rfl
   ·exact .inl ⟨j,u,x,a,b,d,e⟩
   ·rw[o]at b;cases b;obtain⟨m,y⟩:=nZ d;exact .inr ⟨m,x,(eE.1 y).1,y,e⟩
end
section
variable {p:dtP}{B:List dtK}{E:List (List Edge)}
structure Wq (p:dtP) (B:List dtK) (E:List (List Edge)) (L:L3):Prop where
 dm:Dm B.length p.2.2.1.length p.1.length L
 cell:∀s k t,s<B.length→(Qc L s k t↔k<p.2.2.1.length∧Lk (nT p) p.2.2.1 (KB B) (TrB p B E) s k (t:Int))
theorem eI(V:VPp p)(H:Fin p B E)(S:Sy p)(G:Gr (nT p) p.2.2.1)(T:B.length≤1000){st:Int}(U:p.2.2.1[0]? =some (nT p+(p.2.1.length:Int),[st],0))(a:Int)(i:a≤1000):
 Ok (De p (mkW p (yOf B E)) a) λm=>m=none∨ ∃L,m=some (p.1,p.2.1,p.2.2.1,p.2.2.2.1,p.2.2.2.2.1,p.2.2.2.2.2,mkW p (yOf B E),L)∧Wq p B E L:=by
 have W:=S.t1;have A:=HP V H;refine Vd V H S G U a i (.inl rfl) λpl al I X Y=>?_;have all:∀l q,Pth (TrB p B E) 0 l q→ ∃(j:Nat) (c:List One),al[j]? =some c∧pl[j]? =some (q:Int)∧ ∀x,x∈c↔Fh (nT p) p.2.2.1 l x:=by
  have F:∀(N:Nat) (l:nH) (q:Nat),l.length=N→Pth (TrB p B E) 0 l q→ ∃c∈al,∀x,x∈c↔Fh (nT p) p.2.2.1 l x:=by
   intro N
   induction N with
   |zero=>intro l q u _;rw[oE u];exact I.zero
   |succ N Z=>
    intro l q u b;obtain⟨l',s,rfl⟩:∃l' s,l=l'++ [s]:=⟨l.dropLast,l.getLast (by intro e;subst e;simp at u),(pZ _).symm⟩;obtain⟨n,v,P⟩:=b.snoc1;obtain⟨c,w,f⟩:=Z l' n (by simpa using u) v;have⟨y,y1,Q⟩:=A.some_ P;obtain⟨k,d,t,rfl,J⟩:=UN G A _ l' n rfl v y y1;have⟨r,o,hd⟩:=Ga G Q (A.st P).2.2.2;have g0:=G.right r (bO o) s (bO hd);have g1:=(S.right r (bO o) s (bO hd)).2;unfold nT at g1;exact Y c w s nJ nJ l' f ⟨_,_,Fh.mk J,Q,rfl⟩
  intro l q b;have⟨c,w,f⟩:=F _ l q rfl b;obtain⟨j,g⟩:=nZ w;obtain⟨q',l',z,_,⟨n,rfl,K⟩,M⟩:=I.at_ j c g;obtain rfl:=Wn V H G b K λx=>(f x).symm.trans (M x);exact⟨j,c,g,z,f⟩
 have u:=V.few;have hK:(mkW p (yOf B E)).2.2.2.2.2.2.1.length=B.length:=by simp[yOf]
 unfold PG;rw[hK];refine AM (Wo W.2 nJ T) λL0 C=>AM (Wp rfl nJ (λj c g=>?_) C.1) λL R=>AB (.inr ⟨L,rfl,R.1,λs k t hs=>?_⟩)
 ·have⟨q,l,z,h⟩:=I.at_ j c g;have D:=h.ok V H S G;have hu:=h.1;obtain⟨_,⟨n,rfl,b⟩,_⟩:=h;exact⟨by have:=Jc V S D hu;omega,⟨n,z,nJ,by have:n<B.length:=A.at0 A.s0 b;omega⟩,D⟩
 ·rw[R.2];constructor
  ·rintro(h | ⟨j,c,x,g,hx,v,r,o,rfl⟩)
   ·exact(C.2 s k t h).elim
   ·obtain⟨q,l,z,_,⟨n,rfl,b⟩,f⟩:=I.at_ j c g;rw[z]at v;obtain rfl:n=s:=by have:=Option.some.inj v;omega
    exact⟨(eE.1 o).1,gZ G A o ((f _).1 hx).of b⟩
  ·rintro⟨hk,h⟩;have⟨l,r,o,b,w⟩:=bh G A hs h;have⟨j,c,g,O,f⟩:=all l s b;exact .inr ⟨j,c,_,g,(f _).2 (Fh.mk w),O,r,o,rfl⟩
end
end Go.Proofs.YtfnppeejaimnbaaGreatDoor

namespace Go.Proofs.YtfnppeejaimnbaaGreatDoor
open Go Go.Eng Dg
section
variable {p:dtP}{B:List dtK}{E:List (List Edge)}{d:LkD}{tt:Int}
theorem eJ(M:MkI p B E d tt){s k:Nat}(b:k<p.2.2.1.length):Ok (NY (some d) (s:Int) (k:Int)) λt=>((∀j,j∈t↔Lk (nT p) p.2.2.1 (KB B) (TrB p B E) s k j)∧t.length≤64000)∧t.Pairwise (· < ·):=by
 have⟨t,a,c⟩:=Xf M (s:=s) b;refine⟨t,a,c,?_⟩;unfold NY at a;rw[mE]at a;split at a
 ·next x hg=>
  have:=iS a
  cases this;exact List.Pairwise.nil
 ·next x hg=>
  have⟨e,_⟩:=M.lk.some_ _ _ hg;rw[JO e]at a;cases iS a;exact U1 _
end
section
variable {p:dtP}{B:List dtK}{E:List (List Edge)}{d:LkD}{tt:Int}{L:L3}
abbrev loO(p:dtP)(B:List dtK)(E:List (List Edge))(L:L3):Hm:=(p.1,p.2.1,p.2.2.1,p.2.2.2.1,p.2.2.2.2.1,p.2.2.2.2.2,mkW p (yOf B E),L)
def dn(p:dtP)(B:List dtK)(n:Int):nH:=if n<0 then[] else match B[n.toNat]? with
 |some b=>Cq p.2.2.1 b.2.1
 |none=>[]
theorem fE{n:Nat}{b:dtK}(a:B[n]? =some b):dn p B (n:Int)=Cq p.2.2.1 b.2.1:=by unfold dn;rw[nA nJ,oI,a]
theorem gu{n:Int}(h:Off B n):dn p B n= []:=by
 unfold dn;unfold Off at h;split
 ·rfl
 ·rw[pE nJ]
theorem gy(B:List dtK)(n:Int):Off B n∨ ∃(j:Nat) (b:dtK),n=(j:Int)∧B[j]? =some b:=by
 by_cases h:Off B n
 ·exact .inl h
 ·unfold Off at h;exact .inr ⟨n.toNat,_,nJ,bD (show n.toNat<B.length by omega)⟩
theorem gz(V:VPp p)(H:Fin p B E)(n:Int):Ca (loO p B E L) n=some (dn p B n):=by
 have t:(loO p B E L).2.2.2.2.2.2.1.2.2.2.2.2.2.2.1=B.map (·.2.1):=rfl;refine oQ ?_;unfold Ca;rw[t,oF];refine AM (Q:=λc=>(c=true→Off B n)∧(c=false→ ∃(j:Nat) (b:dtK),n=(j:Int)∧B[j]? =some b)) (AR (λh=>AB ⟨λ_=>.inl (mX h),nP⟩) λh=>AB ⟨λd=>.inr (by simpa using d),λd=>?_⟩) λc a=>AR (λh=>AB (gu (a.1 h)).symm) λh=>?_
 ·rcases gy B n with g | g
  ·have h:=mY h;have d:=mY d;unfold Off at g;omega
  ·exact g
 ·obtain⟨j,b,rfl,f⟩:=a.2 h;rw[fE f];have⟨y,u,A,C,D⟩:=H.good V f;have q:(B.map (·.2.1))[j]? =some b.2.1:=by rw[oT,f];rfl
  refine Bz (λ(z:Int×nH)=>∃k:Nat,z=((k:Int),Cq p.2.2.1 (b.2.1.take k))∧k≤b.2.1.length) (λz=>b.2.1.length - z.1.toNat) (λl=>l=Cq p.2.2.1 b.2.1) ⟨0,by simp[Cq],pO _⟩ (λz i=>?_) λl v=>AB v;obtain⟨k,rfl,F⟩:=i;refine AS q (AR (λh=>?_) λh=>BB ?_)
  ·have h:=mX h;dsimp only at h;have e:=bD (show k<b.2.1.length by omega);obtain⟨x,m⟩:∃x,b.2.1[k]'nJ=x:=⟨_,rfl⟩;rw[m]at e;have⟨x0,x1,r,o,w⟩:=u.ok x (bO e);have hd:=Pz p.2.2.1 (b.2.1.take k);rw[List.length_take]at hd;have s:b.2.1.take (k+1)=b.2.1.take k++ [x]:=by rw[pG,e];rfl
   refine AS q (AS e (Cx x0 o (AM (Q:=λz=>z=Cq p.2.2.1 (b.2.1.take (k+1))) (AR (λa=>?_) λa=>AB ?_) λz i=>?_)))
   ·rw[s,N7 o,mZ (eq_of_beq a)];exact Az (by dsimp only;simp;omega) (AB rfl)
   ·rw[s,N7 o,nA (by simpa using a)]
   ·rw[i];exact Bd ⟨⟨k+1,pW (w64 nO nO) rfl,nJ⟩,by dsimp only;rw[w64 nJ nJ];omega⟩
  ·have h:=mY h;dsimp only at h ⊢;rw[pS nJ]
theorem eK{row:List Bool}(h:row.length≤1000):Ok (Do row) λl=>l.Pairwise (· < ·)∧ ∀t,t∈l↔Hs row t:=by
 unfold Do;refine BK (λj (z:nH)=>z.length≤j∧z.Pairwise (· < ·)∧ ∀t,t∈z↔t< (j:Int)∧Hs row t) nJ ⟨nP,.nil,λt=>⟨λh=>(by cases h),λh=>by have:=h.2.1;omega⟩⟩ (λj z m c=>?_) λz c=>AB ⟨c.2.1,λt=>(c.2.2 t).trans ⟨(·.2),λd=>⟨by have:=(eE.1 d.2).1;have:=d.1;omega,d⟩⟩⟩;have f:=bD m;obtain⟨p,i,k⟩:=c;refine AS f (AM (Q:=λ(l:nH)=>l.length≤j+1∧l.Pairwise (· < ·)∧ ∀t,t∈l↔t∈z∨(t=(j:Int)∧row[j] =true)) (AR (λh=>Az nN (AB ⟨nN,rE.2 ⟨i,qS _ _,λa n b o=>?_⟩,λt=>by simp[h]⟩)) λh=>AB ⟨nJ,i,λt=>by simp[h]⟩) λl g=>AB ⟨g.1,g.2.1,λt=>?_⟩)
 ·rw[oD.1 o];exact((k a).1 n).1
 ·rw[g.2.2,k];constructor
  ·rintro(⟨a,b⟩|⟨rfl,a⟩)
   ·exact⟨nJ,b⟩
   ·exact⟨nJ,nJ,by rw[oI,f,a]⟩
  ·rintro⟨a,b⟩;by_cases e:t=(j:Int)
   ·subst e
    have:=b.2
    rw[oI,f]at this;exact .inr ⟨rfl,Option.some.inj this⟩
   ·exact .inl ⟨nJ,b⟩
theorem eL(M:MkI p B E d tt)(v:Wq p B E L)(n k:Int):∃t,NY (some d) n k=some t∧CJ (loO p B E L) n k=some t∧t.length≤64000:=by
 have S:=M.all.sy.t1;have J:=v.dm.a;by_cases A:0≤n∧n< (B.length:Int)∧0≤k∧k< (p.2.2.1.length:Int)
 ·obtain⟨s,rfl⟩:∃s:Nat,n=(s:Int):=⟨n.toNat,nJ⟩;obtain⟨j,rfl⟩:∃j:Nat,k=(j:Int):=⟨k.toNat,nJ⟩;obtain⟨t,f,⟨g,y⟩,K⟩:=eJ M (s:=s) (k:=j) nJ;refine⟨t,f,oQ ?_,y⟩;unfold CJ;dsimp only;have m:=bD (show s<L.length by omega);obtain⟨l,C⟩:∃l,L[s]'nJ=l:=⟨_,rfl⟩;rw[C]at m;have N:=v.dm.b l (bO m);have o:=bD (show j<l.length by omega);obtain⟨row,D⟩:∃row,l[j]'nJ=row:=⟨_,rfl⟩;rw[D]at o;have O:=v.dm.c l (bO m) row (bO o);refine AM (Q:=λc=>c=false) (AZ (mV nJ) (AZ (mV nJ) (AZ (mV nJ) (AB (mV nJ))))) λc i=>AZ i (AS m (AS o (AM (eK nJ) λw H=>AB ?_)));refine R0 (λx=>Int.lt_irrefl x) (λf g=>Int.lt_trans f g) H.1 K λx=>?_;rw[H.2,g];have q:=v.cell s j x.toNat nJ;constructor
  ·rintro⟨z,P⟩
   have:=(q.1 ⟨l,row,m,o,P⟩).2
   rwa [pA z]at this
  ·intro h;have z:0≤x:=by
    obtain⟨_,_,_,_,i⟩:=bh M.all.gr M.all.aut (by show s<B.length;omega) h;have tt:∀ {l:nH} {k d:Nat} {t:Int},Can (nT p) p.2.2.1 l k d t→0≤t:=λ{l k d t} i=>by
     induction i with
     |start=>exact qN _
     | @clos l k d j r T s t u _ f _ _ _ F G=>
      rcases F with F | ⟨_,rfl⟩
      ·exact(R7 M.all.sy F λs R=>(M.all.sy.right _ (bO f) s (oZ R)).1).1
      ·exact G
     |step _ _ _ G=>exact G
    exact tt i
   obtain⟨l',I,a,b,c⟩:=q.2 ⟨nJ,by rw[pA z];exact h⟩;rw[m]at a;cases a;rw[o]at b;cases b;exact⟨z,c⟩
 ·refine⟨[],?_,?_,nP⟩
  ·unfold NY;rw[mE];cases hg:BZ (n,k) d.L with
   |none=>rfl
   |some x=>
    obtain⟨_,_,s,U,e,f,g,_⟩:=M.lk.some_ _ _ hg;have V:=(Prod.mk.inj e).1;have W:=(Prod.mk.inj e).2;exact(A ⟨nJ,nJ,nJ,nJ⟩).elim
  ·refine oQ ?_;unfold CJ;dsimp only;refine AM (Q:=λc=>c=true) (AR (λ_=>AB rfl) λf=>AR (λ_=>AB rfl) λg=>AR (λ_=>AB rfl) λy=>AB (mW ?_)) λc i=>Ay i (AB rfl);have f:=mY f;have g:=mY g;have y:=mY y;omega
end
section
variable {p:dtP}{B:List dtK}{E:List (List Edge)}{d:LkD}{tt:Int}
theorem fF(M:MkI p B E d tt)(i t:Int):goV (BG p B E tt) i t=goF p B E i t:=by unfold goV;rw[fD M.all.vp M.all.fin];rfl
theorem Wr{i:Nat}{b:dtK}(a:B[i]? =some b):dlB p B i=Cq p.2.2.1 b.2.1:=by unfold dlB;rw[a]
def GdT(p:dtP)(B:List dtK)(E:List (List Edge))(d:LkD)(tt:Int)(g:DU):Prop:= ∃rows gos,g=(p.1,p.2.1,p.2.2.1,p.2.2.2.1,p.2.2.2.2.1,p.2.2.2.2.2,rows,gos,clA p (BG p B E tt) d B B.length)∧
 rows=(oA B.length).map (λ(i:Nat)=>(oA p.1.length).map λt=>O7 p (BG p B E tt) d (dlB p B i) (i:Int) ((t:Nat):Int))∧
 gos=(oA B.length).map (λ(i:Nat)=>(oA p.2.1.length).map λv=>goF p B E (i:Int) ((p.1.length+v:Nat):Int))
theorem GdT.gd{g:DU}(G:GdT p B E d tt g):Gd p (BG p B E tt) d B g:=by obtain⟨a,b,c,rfl,rfl⟩:=G;exact⟨_,_,c,nP,λi e=>⟨_,by rw[oT,pL e];rfl,rfl⟩⟩
theorem bw(M:MkI p B E d tt)(q:∀t:Int,0≤lvl p t→lvl p t< (p.2.2.2.2.1.length:Int))(r:p.1.length≤100)(x:p.2.1.length≤1000):
 Ok (HS p (BG p B E tt) (some d)) λg=>∃n,g=some n∧GdT p B E d tt n:=by
 have y:=M.all.few;unfold HS;refine AO (RU M.all.fin) (BK (λi (z:DU)=>z=(p.1,p.2.1,p.2.2.1,p.2.2.2.1,p.2.2.2.2.1,p.2.2.2.2.2,(oA i).map (λ(i:Nat)=>(oA p.1.length).map λt=>O7 p (BG p B E tt) d (dlB p B i) (i:Int) ((t:Nat):Int)),(oA i).map (λ(i:Nat)=>(oA p.2.1.length).map λv=>goF p B E (i:Int) ((p.1.length+v:Nat):Int)),clA p (BG p B E tt) d B i)) nJ rfl (λi z s c=>?_) λz c=>AB ⟨_,by rw[c],_,_,rfl,rfl,rfl⟩);subst c;obtain⟨a,f⟩:∃a,(oA i).map (λ(i:Nat)=>(oA p.1.length).map λt=>O7 p (BG p B E tt) d (dlB p B i) (i:Int) ((t:Nat):Int))=a:=⟨_,rfl⟩;obtain⟨h,j⟩:∃h,(oA i).map (λ(i:Nat)=>(oA p.2.1.length).map λv=>goF p B E (i:Int) ((p.1.length+v:Nat):Int))=h:=⟨_,rfl⟩;have A:a.length=i:=by rw[←f];simp
 have C:h.length=i:=by rw[←j];simp
 rw[qC,oW,oW,f,j];have k:=bD s;obtain⟨b,l⟩:∃b,B[i] =b:=⟨_,rfl⟩;rw[l]at k;have m:dlB p B i=Cq p.2.2.1 b.2.1:=Wr k;have u:=Qo p (BG p B E tt) d B i;have o:i *p.1.length≤300 *100:=rF nJ r;refine BK (λt (z:List EO×DU)=>z=((oA t).map (λt=>O7 p (BG p B E tt) d (dlB p B i) (i:Int) ((t:Nat):Int)),p.1,p.2.1,p.2.2.1,p.2.2.2.1,p.2.2.2.2.1,p.2.2.2.2.2,a,h,clA p (BG p B E tt) d B i++clS p (BG p B E tt) d (dlB p B i) i t)) nJ (by simp[clS]) (λt z w c=>?_) λz c=>?_
 ·subst c;have D:=Qn p (BG p B E tt) d (dlB p B i) i t;refine AO (du M k (q (t:Int)) (by rw[pC];omega)) (Az nN (AB ?_));rw[qC,oW,m,oN];rfl
 ·subst c;refine BK (λt (z:nH)=>z=(oA t).map λv=>goF p B E (i:Int) ((p.1.length+v:Nat):Int)) nJ rfl (λt z w c=>?_) λz c=>?_
  ·subst c;have e:hC .i64 ((p.1.length:Int)+(t:Int))=((p.1.length+t:Nat):Int):=by rw[w64 nJ nJ];omega
   rw[e];refine AO (fD M.all.vp M.all.fin _ _) (Az nN (AB ?_));rw[qC,oW];rfl
  ·subst c;exact Az nN (Az nN (AB rfl))
end
theorem cC{s:PO}(G:SmG s)(F:SmF 12 5 s):Ok (CU s) λr=>r.2.2.2.2.2.2.2.2.2=false∨(r.2.2.2.2.2.2.2.2.2=true∧ ∃(p:dtP) (n:Nat) (d:LkD) (tt:Int) (nt h:Nat) (g:DU),
 (r.1,r.2.1,r.2.2.1,r.2.2.2.1,r.2.2.2.2.1,r.2.2.2.2.2.1)=p∧r.2.2.2.2.2.2.1=some (BG p (stM p n).1 (stM p n).2 tt)∧r.2.2.2.2.2.2.2.2.1=some g∧Pl nt h p∧(stM p n).1.length≤n∧Fit (held 300) (held 9000) (stM p n).1∧MkI p (stM p n).1 (stM p n).2 d tt∧GdT p (stM p n).1 (stM p n).2 d tt g):=by
 unfold CU;refine AM (dB G F.up) λp ⟨nt,h,a⟩=>?_;have S:=fA a;refine AM (bG S) λe w=>AR (λ_=>AB (.inl rfl)) λf=>?_;have i:e.2=0:=by simpa using f
 have b:=w i;refine AM (aQ a.vp a.pos (st:=300) (it:=9000) (λn m o=>by
  have:held 300=300:=nQ
  omega)) λr x=>?_
 rcases x with⟨n,q,t,rfl⟩|⟨rfl,_⟩
 ·have H:=gG a.vp a.pos q;have u:(stM p n).1.length≤300:=by
   have:=t.1
   have e:held 300=300:=nQ
   omega
  have v:1≤(stM p n).1.length:=Bt H.zero;refine AM (Q:=λc=>c=false) (AZ rfl (AO rfl (AO (RU H) (AB ?_)))) λc f=>?_
  ·simp only[beq_eq_false_iff_ne];omega
  subst f;refine AZ rfl (AO rfl (AM (dh (tt:=((tot (stM p n).1:Nat):Int)) (λfa j=>bH a b H u j) S) λl o=>?_));obtain⟨d,rfl,d1,d2,d3,d4⟩:=o;have M:MkI p _ _ d _:=⟨bH a b H u d3,d1,d2,d4⟩;have y:=a.terms.len;have z:=a.nt5;have A:=a.vars;refine AZ rfl (AM (bw M (bM a) (show p.1.length≤100 by omega) (show p.2.1.length≤1000 by have:=M.all.vars;omega)) λg k=>?_);obtain⟨g,rfl,k⟩:=k;exact AB (.inr ⟨rfl,p,n,d,_,nt,h,g,rfl,rfl,rfl,a,q,t,M,k⟩)
 ·refine AM (Q:=λc=>c=true) (Ay rfl (AB rfl)) λc f=>?_;subst f;exact Ay rfl (AB (.inl rfl))
end Go.Proofs.YtfnppeejaimnbaaGreatDoor
namespace Go.Proofs.YtfnppeejaimnbaaGreatDoor
open Go Go.Eng
theorem jI(k:Int):(red k).2=k:=by unfold red;split<;>simp_all
theorem Yq(p:As)(d s:Int){l:nH}(N:l.length≤1000000)(I:0≤lvl p d→lvl p d< (p.2.2.2.2.1.length:Int)):Ok (CV p d s l) (TB p d s l):=by
 unfold CV;refine BK (λj (z:Int)=>(j=0→z=0)∧(0<j→Rv (l.take j) z)) nJ ⟨λ_=>rfl,λh=>nJ⟩ (λj z J B=>?_) λz B=>?_
 ·have q:=bD J;obtain⟨x,C⟩:∃x,l[j] =x:=⟨_,rfl⟩;rw[C]at q;refine AM (Q:=λc=>c=decide (j=0∨x<z)) (AR (λh=>AB ?_) λh=>AS q (AB ?_)) λc m=>?_
  ·have:(j:Int)=0:=eq_of_beq h
   exact(mW (.inl nJ)).symm
  ·have:(j:Int)≠0:=by simpa using h
   rw[oX,nD,nD];omega
  subst m;refine AM (Q:=λy=>y=if j=0∨x<z then x else z) (AR (λh=>AS q (AB ?_)) λh=>AB ?_) λy n=>AB ⟨λh=>nJ,λ_=>?_⟩
  ·rw[mZ (mX h)]
  ·rw[nA (mY h)]
  ·subst n;by_cases K:j=0
   ·subst K;rw[mZ (.inl rfl),pG,q];exact⟨nP,nP⟩
   ·have D:=B.2 nJ;by_cases g:x<z
    ·rw[mZ (.inr g)];exact⟨(G2 q).2 (.inr rfl),λy n=>(G2 q).1 n |>.elim (λn=>by have:=D.le y n;omega) λn=>nJ⟩
    ·rw[nA nJ];exact⟨(G2 q).2 (.inl D.mem),λy n=>(G2 q).1 n |>.elim (D.le y) λn=>nJ⟩
 obtain⟨O,E⟩:=B;rw[pS (qL _)]at E;refine AM (Q:=λy=>y=red z) (AR (λh=>AB ?_) λh=>AB ?_) λy n=>?_
 ·unfold red;rw[mZ (eq_of_beq h)]
 ·unfold red;rw[nA (by simpa using h)]
 subst n;refine AM (Q:=λc=>c=decide (s<0∧l= [])) (AR (λh=>AB ?_) λh=>AB ?_) λc m=>?_
 ·have h:=mX h;rw[oX,beq_iff_eq,nD];constructor
  ·intro g;exact⟨h,oE nJ⟩
  ·rintro⟨_,rfl⟩;rfl
 ·have h:=mY h;exact(mV (λg=>h g.1)).symm
 subst m;refine AR (λh=>AB (.inl ⟨(mX h).2,(mX h).1,rfl⟩)) λu=>?_;have u:=mY u;refine AR (λh=>AB ?_) λh=>?_
 ·have h:=mX h;have w:0<l.length:=List.length_pos_iff.2 λe=>u ⟨h,e⟩;have A:=E w;by_cases g:1<l.length
  ·rw[mW (show(l.length:Int) >1 by omega)];exact .inr (.inr (.inr (.inr (.inr ⟨g,h,z,A,rfl⟩))))
  ·rw[mV (show ¬(l.length:Int) >1 by omega)]
   match l,w,g with
   | [k],_,_=>
    have:z=k:=by simpa using A.mem
    subst this;exact .inr (.inr (.inl ⟨z,rfl,h,rfl⟩))
   |a::b::l,_,g=>simp at g
 ·have F:0≤s:=by have:=mY h;omega
  refine AR (λo=>AB ?_) λo=>?_
  ·have o:(l.length:Int)≠1:=by simpa using o
   by_cases g:1<l.length
   ·rw[mW (show(l.length:Int) >1 by omega)];exact .inr (.inr (.inr (.inr (.inl ⟨g,F,rfl⟩))))
   ·rw[mV (show ¬(l.length:Int) >1 by omega)];exact .inr (.inl ⟨oE nJ,F,rfl⟩)
  ·have o:(l.length:Int)=1:=by simpa using o
   have w:0<l.length:=nJ
   have A:=E w;have v:l= [z]:=by
    match l,o with
    | [k],_=>
     have:z=k:=by simpa using A.mem
     rw[this]
    | [],o=>simp at o
    |a::b::l,o=>simp at o;omega
   refine Ok.mono (Q:=λr=>r=byF p d s z) ?_ λr G=>.inr (.inr (.inr (.inl ⟨z,v,F,G⟩)));refine AM (Q:=λc=>c=decide (0≤d∧d< (p.2.2.2.1.length:Int))) (AR (λh=>AB ?_) λh=>AB ?_) λc m=>?_
   ·have h:=mX h;rw[oX,nD,nD];omega
   ·have h:=mY h;exact(mV nJ).symm
   subst m;refine AM (Q:=λt=>t=lvl p d) (AR (λh=>?_) λh=>AB ?_) λt L=>?_
   ·have h:=mX h;have e:=H9 (l:=p.2.2.2.1) (i:=d) h.1 h.2;refine AO e (AB ?_);unfold lvl;rw[nA nJ,e];rfl
   ·have h:=mY h;unfold lvl;rw[mZ nJ]
   refine AM (Q:=λc=>c=decide (0≤z∧z< (p.2.2.1.length:Int))) (AR (λh=>AB ?_) λh=>AB ?_) λc m=>?_
   ·have h:=mX h;rw[oX,nD,nD];omega
   ·have h:=mY h;exact(mV nJ).symm
   subst m;refine AM (Q:=λt=>t=hgt p z) (AR (λh=>?_) λh=>AB ?_) λr G=>?_
   ·have h:=mX h;have e:=H9 (l:=p.2.2.1) (i:=z) h.1 h.2;refine AO e (AB ?_);unfold hgt;rw[nA nJ,e];rfl
   ·have h:=mY h;unfold hgt;rw[mZ nJ]
   subst L G;refine AM (Q:=λc=>c=decide (lvl p d≤0∨hgt p z≤0)) (AR (λh=>AB ?_) λh=>AB ?_) λc m=>?_
   ·have h:=mX h;exact(mW nJ).symm
   ·have h:=mY h;rw[oX,nD,nD];omega
   subst m;unfold byF;refine AR (λh=>AB ?_) λh=>?_
   ·rw[mZ (mX h)]
   have h:=mY h;rw[nA h];have H:lvl p d=hgt p z→idx p.2.2.2.2.1 (lvl p d)=some (asc p (lvl p d)):=λe=>by
    unfold asc;rw[H9 nJ (I nJ)];rfl
   refine AM (Q:=λc=>c=decide (lvl p d<hgt p z∨(hgt p z=lvl p d∧asc p (lvl p d)=1))) (AR (λh=>AB ?_) λh=>AR (λf=>AO (H (eq_of_beq f).symm) (AB ?_)) λf=>AB ?_) λc m=>?_
   ·exact(mW (.inl (mX h))).symm
   ·have f:=eq_of_beq f;have h:=mY h;rw[oX,beq_iff_eq,nD];constructor
    ·intro g;exact .inr ⟨f,g⟩
    ·rintro(g | g)
     ·omega
     ·exact g.2
   ·have f:hgt p z≠lvl p d:=by simpa using f
    have h:=mY h;exact(mV nJ).symm
   subst m;refine AR (λh=>AB ?_) λh=>?_
   ·have h:=mX h;rw[nA nJ,mZ nJ,jI]
   have h:=mY h;refine AM (Q:=λc=>c=decide (hgt p z=lvl p d∧asc p (lvl p d)=3)) (AR (λf=>AO (H (eq_of_beq f).symm) (AB ?_)) λf=>AB ?_) λc m=>?_
   ·have f:=eq_of_beq f;rw[oX,beq_iff_eq,nD];exact⟨λg=>⟨f,g⟩,λg=>g.2⟩
   ·have f:hgt p z≠lvl p d:=by simpa using f
    exact(mV (λg=>f g.1)).symm
   subst m;refine AR (λh=>AB ?_) λM=>AB ?_
   ·rw[mZ (mX h)]
   ·rw[nA (mY M),nA nJ]
abbrev S6:Type:=Slc×Slc×Slc×Slc×Slc×Slc
abbrev S5:Type:=Slc×Slc×Slc×Slc×Slc
def PF(φ:AD)(p:RP)(t:S6):Prop:=hM rG φ t.1 p.1∧hM rG φ t.2.1 p.2.1∧hM BL φ t.2.2.1 p.2.2.1∧hM (oG .i64) φ t.2.2.2.1 p.2.2.2.1∧hM (oG .i64) φ t.2.2.2.2.1 p.2.2.2.2.1∧hM rG φ t.2.2.2.2.2 p.2.2.2.2.2
theorem PF.mono{φ ψ:AD}{p:RP}{t:S6}(H:PF φ p t)(h:Sub φ ψ):PF ψ p t:=⟨H.1.mono h,H.2.1.mono h,H.2.2.1.mono h,H.2.2.2.1.mono h,H.2.2.2.2.1.mono h,H.2.2.2.2.2.mono h⟩
abbrev opW(b:Nat)(t:S6)(u:S5)(y:RS Slc)(F:List Chk):List Chk:=
 cW 44 b [sv t.1,sv t.2.1,sv t.2.2.1,sv t.2.2.2.1,sv t.2.2.2.2.1,sv t.2.2.2.2.2,sv u.1,sv u.2.1,sv u.2.2.1,sv u.2.2.2.1,sv u.2.2.2.2,.int .i64 y.2.2.2.2.2]::
 cR 106 (oB Au) u.1 y.1::cR 106 (oB Au) u.2.1 y.2.1::cR 110 pT u.2.2.1 y.2.2.1::cR 3 (oG .i64) u.2.2.2.1 y.2.2.2.1::cR 3 (oG .i64) u.2.2.2.2 y.2.2.2.2.1::F
section
variable {φ:AD}{h:AH}{F:List Chk}
theorem fG{q:nG}{p:RP}{y:RS Slc}(H:St φ (cO 44 rW q (mkW p y)::F) h):∃(b:Nat) (t:S6) (u:S5),q=some ⟨b,0,none⟩∧PF φ p t∧St φ (opW b t u y F) h:=by obtain⟨b,vs,e,_,H⟩:=H.open;have H:=H.at1;obtain⟨_,_,rfl,_,H⟩:=H.pair;obtain⟨⟨t0,rfl,k0⟩,H⟩:=rZ H;obtain⟨_,_,rfl,_,H⟩:=H.pair;obtain⟨⟨t1,rfl,a⟩,H⟩:=rZ H;obtain⟨_,_,rfl,_,H⟩:=H.pair;obtain⟨⟨t2,rfl,c⟩,H⟩:=rZ H;obtain⟨_,_,rfl,_,H⟩:=H.pair;obtain⟨⟨t3,rfl,d⟩,H⟩:=rZ H;obtain⟨_,_,rfl,_,H⟩:=H.pair;obtain⟨⟨t4,rfl,f⟩,H⟩:=rZ H;obtain⟨_,_,rfl,_,H⟩:=H.pair;obtain⟨⟨t5,rfl,g⟩,H⟩:=rZ H;obtain⟨_,_,rfl,_,H⟩:=H.pair;obtain⟨i,e0⟩:=H.rowCs;subst e0;have H:=H.at1;obtain⟨_,_,rfl,_,H⟩:=H.pair;obtain⟨j,k⟩:=H.rowCs;subst k;have H:=H.at1;obtain⟨_,_,rfl,_,H⟩:=H.pair;obtain⟨l,m⟩:=H.rowCs;subst m;have H:=H.at1;obtain⟨_,_,rfl,_,H⟩:=H.pair;obtain⟨n,o⟩:=H.rowCs;subst o;have H:=H.at1;obtain⟨_,_,rfl,_,H⟩:=H.pair;obtain⟨r,s⟩:=H.rowCs;subst s;have H:=H.at1;obtain⟨rfl,H⟩:=rZ H;exact⟨b,(t0,t1,t2,t3,t4,t5),(i,j,l,n,r),by simpa using e,⟨k0,a,c,d,f,g⟩,H.at1.at2.at3.at4.at5⟩
theorem fH{b:Nat}{t:S6}{u:S5}{p:RP}{y:RS Slc}(a:PF φ p t)(H:St φ (opW b t u y F) h):St φ (cO 44 rW (lF b) (mkW p y)::F) h:=by obtain⟨k0,c,d,e,f,g⟩:=a;have H:=rH (r:=oG .i64) (cs:=[.int .i64 y.2.2.2.2.2]) (x:=y.2.2.2.2.2) H rfl;have H:=pD H.at6;have H:=pD H.at5;have H:=pD H.at4;have H:=pD H.at3;have H:=pD H.at2;have H:=pD (rH (r:=oB rG) H ⟨_,rfl,g⟩);have H:=pD (rH (r:=oB (oG .i64)) H ⟨_,rfl,f⟩);have H:=pD (rH (r:=oB (oG .i64)) H ⟨_,rfl,e⟩);have H:=pD (rH (r:=oB BL) H ⟨_,rfl,d⟩);have H:=pD (rH (r:=oB rG) H ⟨_,rfl,c⟩);have H:=pD (rH (r:=oB rG) H ⟨_,rfl,k0⟩);exact St.shut H.at1
theorem eM{α:Type}{r:Ro α}:∀ {S:List Slc}{E:List (List α)}{vs:List Value},S.length=E.length→(∀(j:Nat) s e,S[j]? =some s→E[j]? =some e→hM r φ s e)→Ro.slc.All φ vs S→(oB r).All φ vs E:=by
 intro S
 induction S with
 |nil=>
  intro E vs b _ H;cases E with
  |nil=>cases H;exact .nil
  |cons e E=>cases b
 |cons s S d=>
  intro E vs b c H;cases E with
  |nil=>cases b
  |cons e E=>
   cases H with
   | @cons a v _ _ f g=>
    obtain rfl:=f;exact Ro.All.cons (a:=[_]) ⟨s,rfl,c 0 s e rfl rfl⟩ (d (by simpa using b) (λj s' h i k=>c (j+1) s' h (by simpa using i) (by simpa using k)) g)
theorem Yr{α:Type}{r:Ro α}{t:Slc}{S:List Slc}{E:List (List α)}(a:S.length=E.length)(b:∀(j:Nat) s e,S[j]? =some s→E[j]? =some e→hM r φ s e)(H:hM pT φ t S):hM (oB r) φ t E:=by obtain⟨c,d,f,g,vs,h,i⟩:=H;exact⟨a.symm.trans c,d,f,λk=>oE (by rw[←a,g k];rfl),vs,eM a b h,i⟩
end
def ip(φ:AD)(a r1:Nat)(t0:S6)(p:RP)(F:List Chk)(i:Nat)(y:RS (List Edge))(w:AH):Prop:=
 ∃(ψ:AD) (S:List Slc) (t:S6) (u:S5),Sub φ ψ∧PF ψ p t∧S.length=y.1.length∧y.2.2.1.length=y.1.length∧y.2.1.length=y.1.length∧DJ ψ S y.2.2.1 i∧Gx S y.2.2.1 i∧
  St ψ (opW a t u (y.1,y.2.1,S,y.2.2.2) (cW 32 r1 [sv t0.1,sv t0.2.1,sv t0.2.2.1,sv t0.2.2.2.1,sv t0.2.2.2.2.1,sv t0.2.2.2.2.2]::F)) w
def RIn(φ:AD)(a r1:Nat)(t0:S6)(p:RP)(F:List Chk)(i:Nat)(I:List Item)(y:RS (List Edge))(w:AH):Prop:=
 ∃(ψ:AD) (S:List Slc) (t:S6) (u:S5) (s:Slc) (e:List Edge),Sub φ ψ∧PF ψ p t∧S.length=y.1.length∧y.2.2.1.length=y.1.length∧y.2.1.length=y.1.length∧DJ ψ S y.2.2.1 i∧Gx S y.2.2.1 (i+1)∧S[i]? =some s∧y.2.2.1[i]? =some e∧y.2.1[i]? =some I∧
  St ψ (opW a t u (y.1,y.2.1,S,y.2.2.2) (cR 120 ED s e::cW 32 r1 [sv t0.1,sv t0.2.1,sv t0.2.2.1,sv t0.2.2.2.1,sv t0.2.2.2.2.1,sv t0.2.2.2.2.2]::F)) w
theorem Vf{p:RP}{y a:RS Slc}{k:List Item}{fr wi n:Int}(h:placeG DC p y k fr wi=some (n,a)):CZ (mkW p y) k fr wi=some (n,mkW p a):=by rw[bN,h];rfl
theorem Vg{φ:AD}{S S':List Slc}{E a:List (List Edge)}{K d I f:List (List Item)}{c i:Nat}(g:S.length=K.length)(m:E.length=K.length)(n:I.length=K.length)(H:DJ φ S E c)(o:Gx S E i)(h:(d=K∧f=I∧a=E∧S'=S)∨ ∃k x,S'=S++ [DC] ∧a=E++ [[]] ∧d=K++ [k] ∧f=I++ [x]):
 S'.length=d.length∧a.length=d.length∧f.length=d.length∧DJ φ S' a c∧Gx S' a i∧(∀(j:Nat) s,S[j]? =some s→S'[j]? =some s)∧(∀(j:Nat) e,E[j]? =some e→a[j]? =some e)∧ ∀(j:Nat) b,I[j]? =some b→f[j]? =some b:=by
 have ap:∀ {α:Type} {l:List α} {x y:α} {j:Nat},l[j]? =some y→(l++ [x])[j]? =some y:=λ{α l x y j} h=>by
  rw[oJ (eE.1 h).1];exact h
 rcases h with⟨rfl,rfl,rfl,rfl⟩|⟨k,x,rfl,rfl,rfl,rfl⟩
 ·exact⟨g,m,n,H,o,λ_ _ h=>h,λ_ _ h=>h,λ_ _ h=>h⟩
 ·exact⟨by simp[g],by simp[m],by simp[n],H.snoc nJ,o.snoc,λ_ _ h=>ap h,λ_ _ h=>ap h,λ_ _ h=>ap h⟩
theorem TG{p:RP}{K I:List (List Item)}{E:List (List Edge)}{S:List Slc}{F W:nH}{tot:Int}{k:List Item}{fr wi:Int}{n:Int}{y:RS (List Edge)}(b:S.length=E.length)(h:placeG [] p (K,I,E,F,W,tot) k fr wi=some (n,y)):
 ∃a,placeG DC p (K,I,S,F,W,tot) k fr wi=some (n,(y.1,y.2.1,a,y.2.2.2))∧((y.1=K∧y.2.1=I∧y.2.2.1=E∧a=S)∨ ∃d x,a=S++ [DC] ∧y.2.2.1=E++ [[]] ∧y.1=K++ [d] ∧y.2.1=I++ [x]):=by
 obtain⟨a,e,f⟩:=Wi b h;refine⟨a,e,?_⟩;rcases f with⟨rfl,rfl⟩|⟨g,i,c,j,l⟩
 ·exact .inl ⟨rfl,rfl,rfl,rfl⟩
 ·exact .inr ⟨k,c,g,i,j,l⟩
theorem UQ{φ:AD}{h:AH}{F:List Chk}{p_0:Slc×Slc×Slc×Slc×Slc×Slc×Unit}{d0:List nI}{d1:List nI}{d2:List Ap}{d3:nH}{d4:nH}{d5:List nI}{st it:Int}
 (k0:hM rG φ p_0.1 d0) (k1:hM rG φ p_0.2.1 d1) (k2:hM BL φ p_0.2.2.1 d2) (k3:hM (oG .i64) φ p_0.2.2.2.1 d3) (k4:hM (oG .i64) φ p_0.2.2.2.2.1 d4) (k5:hM rG φ p_0.2.2.2.2.2.1 d5) (s0:St φ F h) {r:Option QR} (hd:Rz (d0,d1,d2,d3,d4,d5) st it=some r):
 nX oO 27 [.agg #[.slice p_0.1.1 p_0.1.2.1 p_0.1.2.2,.slice p_0.2.1.1 p_0.2.1.2.1 p_0.2.1.2.2,.slice p_0.2.2.1.1 p_0.2.2.1.2.1 p_0.2.2.1.2.2,.slice p_0.2.2.2.1.1 p_0.2.2.2.1.2.1 p_0.2.2.2.1.2.2,.slice p_0.2.2.2.2.1.1 p_0.2.2.2.2.1.2.1 p_0.2.2.2.2.1.2.2,.slice p_0.2.2.2.2.2.1.1 p_0.2.2.2.2.2.1.2.1 p_0.2.2.2.2.2.1.2.2],.int .i64 st,.int .i64 it] h (An λv h'=>∃ψ:AD,∃y:nG,∃l1:Option QR,Sub φ ψ∧v=lR.val y∧l1=r∧Np QS ψ y l1∧St ψ F h'):=by
 refine A9 mixed func27 ?_;rw[KT];unfold G3;unfold Rz at hd;obtain⟨⟨n0,y0⟩,g0,hd⟩:=bS hd;have c9:=k0.length;have d6:=k1.length;refine AU (vs:=[sv p_0.1,sv p_0.2.1,sv p_0.2.2.1,sv p_0.2.2.2.1,sv p_0.2.2.2.2.1,sv p_0.2.2.2.2.2.1]) s0 λr1 h1 N=>AA N rfl<|AA N rfl<|AA N rfl<|AA N rfl<|AA N rfl<|AA N rfl<|AU (vs:=[sv p_0.1,sv p_0.2.1,sv p_0.2.2.1,sv p_0.2.2.2.1,sv p_0.2.2.2.2.1,sv p_0.2.2.2.2.2.1,.slice none 0 0,.slice none 0 0,.slice none 0 0,.slice none 0 0,.slice none 0 0,.int .i64 (0:Int)]) N λa h2 s2=>AU (vs:=[.int .i64 (0:Int),.int .i64 (0:Int)]) s2 λr9 h3 s3=>?_;have s4:=sE (r:=Au) (l:=[((0:Int),(0:Int))]) (n:=1) s3 (.cons (a:=[_,_]) ⟨[_],_,rfl,rfl,rfl⟩ .nil) rfl nQ;have⟨ψ1,d7,kk,s5⟩:=oK (t:=(some ⟨r9,0,none⟩,1,1)) s4;have hP:PF φ (d0,d1,d2,d3,d4,d5) (p_0.1,p_0.2.1,p_0.2.2.1,p_0.2.2.2.1,p_0.2.2.2.2.1,p_0.2.2.2.2.2.1):=⟨k0,k1,k2,k3,k4,k5⟩;have s6:St ψ1 (opW a (p_0.1,p_0.2.1,p_0.2.2.1,p_0.2.2.2.1,p_0.2.2.2.2.1,p_0.2.2.2.2.2.1) (DC,DC,DC,DC,DC) ([],[],[],[],[],0) (cW 32 r1 [sv p_0.1,sv p_0.2.1,sv p_0.2.2.1,sv p_0.2.2.2.1,sv p_0.2.2.2.2.1,sv p_0.2.2.2.2.2.1]::F)) h3:=
  (((((s5.nil 3 (oG .i64)).nil 3 (oG .i64)).nil 110 pT).nil 106 (oB Au)).nil 106 (oB Au)).at5
 have⟨S0,e0,g9⟩:=TG (S:=[]) rfl g0;refine AK (Eb kk (fH (hP.mono d7) s6) (Vf e0)) ?_;rintro _ h5 ⟨ψ2,k9,l0,h0,rfl,h4,s7⟩;cases h4;refine⟨n0,rfl,?_⟩;have⟨_,t7,u7,h6,h7,s8⟩:=fG s7;cases h6;have d8:=d7.trans h0;obtain⟨g1,g2,g3,g4,g5,_⟩:=Vg (φ:=ψ2) (S:=[]) (E:=[]) (K:=[]) (I:=[]) (c:=0) (i:=0) rfl rfl rfl (λj s e _ h _=>by simp at h) (λj _=>⟨λs h=>by simp at h,λe h=>by simp at h⟩) g9;have⟨g,hg,hd⟩:=bS hd;refine Af (λ(z:Int×nG×Unit) w (g:Option (RS (List Edge)))=>∃y i,g=some y∧y.1.length≤i∧ip φ a r1 (p_0.1,p_0.2.1,p_0.2.2.1,p_0.2.2.2.1,p_0.2.2.2.2.1,p_0.2.2.2.2.2.1) (d0,d1,d2,d3,d4,d5) F i y w) (g:=g) ?_ ?_
 ·unfold UG at hg;refine Bx hg (λ(z:Int×nG×Unit) w (x:Int×RS (List Edge))=>z.1=x.1∧0≤x.1∧ip φ a r1 (p_0.1,p_0.2.1,p_0.2.2.1,p_0.2.2.2.1,p_0.2.2.2.2.1,p_0.2.2.2.2.2.1) (d0,d1,d2,d3,d4,d5) F x.1.toNat x.2 w) rfl ⟨rfl,qN _,ψ2,S0,t7,u7,d8,h7,g1,g2,g3,g4,g5,s8⟩ ?_;rintro⟨i,z2,_⟩ w ⟨_,K,I,E,Fr,W,tot⟩ eo ⟨rfl,a3,ψ,S,t,u,le,a9,hS,hE,hI,X,Y,s⟩ A hbo;dsimp only at a3 hS hE hI X Y s A ⊢;have nK:=St.rowLen s.at1;have nM:=St.rowMax s.at1;refine AA s rfl<|AE A (by rw[nK]) (λb7 A=>?_) (λd9 A=>?_)
  ·have b7:=mX b7;obtain⟨m,J,A⟩:=bS A;refine AY (λ(z:Bool×Unit) w g=>∃O,Sub ψ O∧z.1=g∧St O (opW a t u (K,I,S,Fr,W,tot) (cW 32 r1 [sv p_0.1,sv p_0.2.1,sv p_0.2.2.1,sv p_0.2.2.2.1,sv p_0.2.2.2.2.1,sv p_0.2.2.2.2.2.1]::F)) w) (g:=m) ?_ ?_
   ·unfold TD at J;have⟨hh,b8,J⟩:=bS J;refine AA s rfl<|AK (DK s b8) ?_;rintro _ w1 ⟨ψ3,b9,f,rfl,rfl,N⟩;refine⟨b9,rfl,AP (rI N rfl)<|mP J (by rw[nK]) (λJ=>?_) (λJ=>?_)⟩
    ·obtain rfl:=iS J;exact lG rfl ⟨ψ3,f,rfl,N⟩
    ·have⟨h2,c0,J⟩:=bS J;refine AA N rfl<|AK (DK N c0) ?_;rintro _ w2 ⟨ψ4,c1,C,rfl,rfl,s2⟩;refine⟨c1,rfl,AP (rI s2 rfl) ?_⟩;obtain rfl:=iS J;exact lG rfl ⟨ψ4,f.trans C,rfl,s2⟩
   rintro⟨m',_⟩ w1 ⟨ψ3,f,rfl,s9⟩;refine AE A rfl (λ_ A=>?_) (λ_ A=>?_)
   ·obtain rfl:=iS A;obtain rfl:=hbo _ rfl;obtain rfl:=iS hd;exact Ak (Ah (AC ⟨ψ3,none,none,le.trans f,rfl,rfl,rT _ _,s9.tail.tail.tail.tail.tail.tail.tail⟩))
   obtain⟨y2,e1,A⟩:=bS A;obtain rfl:=iS A;obtain⟨f1,f2⟩:=VT Y nJ nJ;have c2:=bD (show i.toNat<I.length by omega);obtain⟨Ii,h8⟩:∃x,I[i.toNat] =x:=⟨_,rfl⟩;rw[h8]at c2;have l2:idx I i=some Ii:=by unfold idx;rw[mZ a3];exact c2
   have c3:=(s9.nil 120 ED).at6.at6.at6.at6.at6.at6;refine Af (λ(z:Int×Unit) w g=>RIn ψ3 a r1 (p_0.1,p_0.2.1,p_0.2.2.1,p_0.2.2.2.1,p_0.2.2.2.2.1,p_0.2.2.2.2.2.1) (d0,d1,d2,d3,d4,d5) F i.toNat Ii g w) (g:=y2) ?_ ?_
   ·unfold UF at e1;refine By e1 (λj (z:Int×Unit) w y=>z.1=j∧RIn ψ3 a r1 (p_0.1,p_0.2.1,p_0.2.2.1,p_0.2.2.2.1,p_0.2.2.2.2.1,p_0.2.2.2.2.2.1) (d0,d1,d2,d3,d4,d5) F i.toNat Ii y w) rfl ⟨rfl,ψ3,S,t,u,DC,[],pV _,a9.mono f,hS,hE,hI,X.mono f,Y.mono nJ,f1,f2,c2,c3⟩ ?_ ?_
    ·rintro _ ⟨j,_⟩ w3 ⟨K3,I3,E3,c4,W3,a4⟩ e3 ⟨rfl,ψ4,S3,t3,u3,s_,el,C,Z,P,Q,R,D,G,a0,T,U,B⟩ H h9 e2 hw;dsimp only at P Q R D G T U B H h9 e2 hw ⊢;refine AA B.at7 rfl<|AA B.at7 rfl<|Ad (by rw[c9,d6];exact mW (Int.le_of_lt_add_one e2)) ?_;unfold symR at H;have⟨Ij,c5,p⟩:=bS H;clear H;have a5:idx I3 i=some Ii:=by unfold idx;rw[mZ a3];exact U
     dsimp only at c5;rw[a5]at c5;obtain rfl:=Option.some.inj c5;have⟨k,hk,H⟩:=bS p;clear p;have i0:=(le.trans f).trans C;refine Af (λ(z:Int×Slc×Unit) w g=>∃O,Sub ψ4 O∧hM Au O z.2.1 g∧St O (opW a t3 u3 (K3,I3,S3,c4,W3,a4) (cR 120 ED s_ el::cW 32 r1 [sv p_0.1,sv p_0.2.1,sv p_0.2.2.1,sv p_0.2.2.2.1,sv p_0.2.2.2.2.1,sv p_0.2.2.2.2.2.1]::F)) w) (g:=k) ?_ ?_
     ·unfold dw at hk;refine By hk (λjj (z:Int×Slc×Unit) w g=>z.1=jj∧ ∃O,Sub ψ4 O∧hM Au O z.2.1 g∧St O (opW a t3 u3 (K3,I3,S3,c4,W3,a4) (cR 120 ED s_ el::cW 32 r1 [sv p_0.1,sv p_0.2.1,sv p_0.2.2.1,sv p_0.2.2.2.1,sv p_0.2.2.2.2.1,sv p_0.2.2.2.2.2.1]::F)) w) rfl ⟨rfl,ψ4,pV _,rX _ _,B⟩ ?_ ?_
      ·rintro _ ⟨jj,zk,_⟩ w4 l3 e4 ⟨rfl,ψ5,q,kS,d⟩ p b1 b2 e6;dsimp only at kS p b1 b2 e6 ⊢;have⟨aI,i1,b0,b3,qI,b4⟩:=sF d.at2 a5;refine AA d rfl<|AI _ b0 (Ai b3 ?_);obtain⟨tI,rfl,kI⟩:=qI;refine AF (b4 0 _ rfl) rfl<|Ad (by rw[kI.length];exact mW b2)<|AA d rfl<|AI _ b0 (Ai b3 ?_);refine AF (b4 0 _ rfl) rfl ?_;have⟨x,hx,a6⟩:=bS p;clear p;have⟨ax,m0,i2,i3,qx,e7⟩:=kI.get hx;refine AI _ i2 (Ai i3 ?_);obtain⟨_,_,rfl,rfl,rfl⟩:=qx;refine AF (AG d.sub (e7 0 _ rfl)) rfl<|AF (by rw[Aj];exact AG d.sub (e7 1 _ rfl)) rfl<|AU (vs:=[.int .i64 (0:Int),.int .i64 (0:Int)]) d λm1 i4 a7=>AQ a7 rfl rfl λm2 L=>AQ L rfl rfl λi5 o=>AA o.at8 rfl<|AA o.at8 rfl<|AA o.at8 rfl<|AA o.at8 rfl<|AA o.at8 rfl<|AA o.at8 rfl<|AA o rfl<|AA o rfl ?_;have⟨b,hb,p⟩:=bS a6;clear a6;have a1:=i0.trans q;refine AK (Cu (p_0:=p_0) (d_p_0:=(d0,d1,d2,d3,d4,d5)) (o:=(x.1,x.2,())) ⟨k0.mono a1,k1.mono a1,k2.mono a1,k3.mono a1,k4.mono a1,k5.mono a1⟩ o hb) ?_;rintro _ i6 ⟨ψ6,i7,V,rfl,rfl,M⟩;refine⟨i7,rfl,AY (λ(z:Slc×Unit) w g=>∃O,Sub ψ5 O∧hM Au O z.1 g∧St O (opW a t3 u3 (K3,I3,S3,c4,W3,a4) (cR 120 ED s_ el::cW 32 r1 [sv p_0.1,sv p_0.2.1,sv p_0.2.2.1,sv p_0.2.2.2.1,sv p_0.2.2.2.2.1,sv p_0.2.2.2.2.2.1]::F)) w) (g:=e4) ?_ ?_⟩
       ·refine mP p rfl (λp=>?_) (λp=>?_)
        ·refine AA M rfl<|AA M rfl<|AK (G5 (v:=(x.1,hC .i64 (x.2+(1:Int)),())) (kS.mono V) M p) ?_;rintro _ i8 ⟨ψ7,i9,_,j0,rfl,rfl,j1,c6⟩;exact⟨i9,rfl,lG rfl ⟨ψ7,V.trans j0,j1,c6.tail⟩⟩
        ·obtain rfl:=iS p;exact lG rfl ⟨ψ6,V,kS.mono V,M.tail⟩
       rintro⟨m3,_⟩ m4 ⟨ψ8,j2,j3,j4⟩;exact lH rfl rfl ⟨e6,ψ8,q.trans j2,j3,j4⟩
      ·rintro _ ⟨jj,zk,_⟩ w4 ⟨rfl,ψ5,q,kS,d⟩ e8;have⟨aI,i1,b0,b3,qI,b4⟩:=sF d.at2 a5;refine AA d rfl<|AI _ b0 (Ai b3 ?_);obtain⟨tI,rfl,kI⟩:=qI;refine AF (b4 0 _ rfl) rfl<|AW (by rw[kI.length];exact mV (qD.2 e8))<|AJ (lI rfl ⟨ψ5,q,kS,d⟩)
     rintro⟨m5,kz,_⟩ w4 ⟨ψ5,q,kS,d⟩;refine AY (λ(z:Unit) w g=>RIn ψ3 a r1 (p_0.1,p_0.2.1,p_0.2.2.1,p_0.2.2.2.1,p_0.2.2.2.2.1,p_0.2.2.2.2.2.1) (d0,d1,d2,d3,d4,d5) F i.toNat Ii g w) (g:=e3) ?_ ?_
     ·refine mP H (by rw[kS.length]) (λH=>?_) (λH=>?_)
      ·obtain⟨⟨n3,y3⟩,j5,p⟩:=bS H;clear H;have⟨S4,e5,hG⟩:=TG (P.trans Q.symm) j5;refine AK (Eb kS (fH (Z.mono q) d) (Vf e5)) ?_;rintro _ i4 ⟨ψ6,m6,m7,V,rfl,j6,a7⟩;cases j6;refine⟨n3,rfl,?_⟩;have⟨_,t4,u4,j7,j8,L⟩:=fG a7;cases j7;have⟨g1,g2,g3,g4,g5,g6,g7,g8⟩:=Vg P Q R ((D.mono q).mono V) G hG;have⟨m8,e9,a6⟩:=bS p;clear p;obtain⟨f0,b5,f3⟩:=bS a6;clear a6;obtain⟨E',f4,j9⟩:=bS f3;clear f3;obtain rfl:=iS j9;dsimp only at e9 b5 f4 g1 g2 g3 g4 g5 g6 g7 g8 L ⊢;have k6:=g6 _ _ a0;have k7:=g7 _ _ T;have⟨_,m9,b6⟩:=B9 e9;rw[k7]at b6;obtain rfl:=Option.some.inj b6;have k8:idx S4 i=some s_:=by unfold idx;rw[mZ a3];exact k6
       refine AA L rfl<|AA L rfl ?_;have⟨aE,n1,c7,f5,qE,f6⟩:=sF L.at3 k8;refine AI _ c7 (Ai f5 ?_);obtain rfl:=qE;refine AF (f6 0 _ rfl) rfl<|GP (vs:=[.int .i64 j,.int .i64 n3]) L λn2 i5 keep o=>AP (keep _ _ (f6 0 _ rfl))<|AP (rI o.at1 rfl)<|AP (rI o.at1 rfl)<|AV (ms:=[(j,n3)]) fy o.tail.at6 rfl (pP o) (.cons (a:=[_,_]) ⟨[_],_,rfl,rfl,rfl⟩ .nil) rfl b5 λa8 i6 M=>AP (rI M.at1 rfl)<|AI _ c7 (Ai f5 ?_);have f7:DQ S4 i a8=some (S4.set i.toNat a8):=by unfold DQ;rw[mZ ⟨a3,nJ⟩]
       refine FH (r:=pT) M.at4 f7 rfl c7 λi8 c6=>?_;obtain⟨_,_,rfl⟩:=EL f4;have⟨q1,q2⟩:=bB (s:=a8) (e:=f0) g4 g5;exact lG rfl ⟨ψ6,S4.set i.toNat a8,t4,u4,a8,f0,(C.trans q).trans V,j8,by rw[oU];exact g1,by rw[oU];exact g2,g3,q1,q2,by rw[oC nJ],by rw[oC nJ],g8 _ _ U,c6.at6.at6.at2.at6.at6.at6⟩
      ·obtain rfl:=iS H;exact lG rfl ⟨ψ5,S3,t3,u3,s_,el,C.trans q,Z.mono q,P,Q,R,D.mono q,G,a0,T,U,d⟩
     rintro _ w5 hR;exact lH rfl rfl ⟨hw,hR⟩
    ·rintro _ ⟨j,_⟩ w3 ⟨rfl,ψ4,S3,t3,u3,s_,el,C,Z,P,Q,R,D,G,a0,T,U,B⟩ f8;refine AA B.at7 rfl<|AA B.at7 rfl<|AW (by rw[c9,d6];exact mV (Int.not_le.2 (Int.lt_of_add_one_le f8)))<|AJ (lI rfl ⟨ψ4,S3,t3,u3,s_,el,C,Z,P,Q,R,D,G,a0,T,U,B⟩)
   rintro⟨z1,_⟩ w3 ⟨ψ4,S3,t3,u3,s_,el,C,Z,P,Q,R,D,G,a0,T,U,B⟩;have⟨ψ5,q,kE,d⟩:=oK B.at6;dsimp only at nM b7;have hw:hC .i64 (i+1)=i+1:=w64 nJ (by unfold maxLen at nM;omega);have f9:(i+1).toNat=i.toNat+1:=nJ
   refine lH rfl rfl ⟨rfl,by rw[hw];omega,ψ5,S3,t3,u3,((le.trans f).trans C).trans q,Z.mono q,P,Q,R,?_,?_,d⟩
   ·rw[hw,f9];exact bE (D.mono q) a0 T kE
   ·rw[hw,f9];exact G
  ·have d9:=mY d9;obtain rfl:=iS A;obtain rfl:=hbo _ rfl;exact AJ (lI rfl ⟨_,i.toNat,rfl,nO,ψ,S,t,u,le,a9,hS,hE,hI,X,Y,s⟩)
 rintro⟨z1,z2,_⟩ w ⟨⟨K,I,E,Fr,W,tot⟩,i,rfl,hi,ψ,S,t,u,le,a9,hS,hE,hI,X,Y,s⟩;dsimp only at hd hi hS hE hI X Y s;have nK:=St.rowLen s.at1;have⟨m,J,hd⟩:=bS hd;refine AY (λ(z:Bool×Unit) w g=>∃O,Sub ψ O∧z.1=g∧St O (opW a t u (K,I,S,Fr,W,tot) (cW 32 r1 [sv p_0.1,sv p_0.2.1,sv p_0.2.2.1,sv p_0.2.2.2.1,sv p_0.2.2.2.2.1,sv p_0.2.2.2.2.2.1]::F)) w) (g:=m) ?_ ?_
 ·unfold TD at J;have⟨hh,b8,J⟩:=bS J;refine AA s rfl<|AK (DK s b8) ?_;rintro _ w1 ⟨ψ3,b9,f,rfl,rfl,N⟩;refine⟨b9,rfl,AP (rI N rfl)<|mP J (by rw[nK]) (λJ=>?_) (λJ=>?_)⟩
  ·obtain rfl:=iS J;exact lG rfl ⟨ψ3,f,rfl,N⟩
  ·have⟨h2,c0,J⟩:=bS J;refine AA N rfl<|AK (DK N c0) ?_;rintro _ w2 ⟨ψ4,c1,C,rfl,rfl,s2⟩;refine⟨c1,rfl,AP (rI s2 rfl) ?_⟩;obtain rfl:=iS J;exact lG rfl ⟨ψ4,f.trans C,rfl,s2⟩
 rintro⟨m',_⟩ w1 ⟨ψ3,f,rfl,s9⟩;refine mP hd rfl (λhd=>?_) (λhd=>?_)
 ·obtain rfl:=iS hd;exact AC ⟨ψ3,none,none,le.trans f,rfl,rfl,rT _ _,s9.tail.tail.tail.tail.tail.tail.tail⟩
 obtain rfl:=iS hd;have⟨ψ4,l4,qK,c3⟩:=oK s9.at1;have⟨ψ5,l5,qI,B⟩:=oK c3.at1;have⟨ψ6,l6,qE,d⟩:=oK B.at1;have⟨ψ7,l7,qF,a7⟩:=oK d.at1;have⟨ψ8,l8,qW,L⟩:=oK a7.at1;have c8:=((l5.trans l6).trans l7).trans l8;have kE:=Yr (hS.trans hE.symm) (λj s e h1 h2=>(X j s e (by have:=(eE.1 h1).1;omega) h1 h2).mono (((f.trans l4).trans l5).trans l6)) qE;have a2:=a9.mono ((f.trans l4).trans c8);have o:=St.shutR (r:=QS) (x:=(d0,d1,d2,d3,d4,d5,K,I,E,Fr,W,tot)) L ⟨[_],_,rfl,⟨_,rfl,a2.1⟩,[_],_,rfl,⟨_,rfl,a2.2.1⟩,[_],_,rfl,⟨_,rfl,a2.2.2.1⟩,[_],_,rfl,⟨_,rfl,a2.2.2.2.1⟩,[_],_,rfl,⟨_,rfl,a2.2.2.2.2.1⟩,[_],_,rfl,⟨_,rfl,a2.2.2.2.2.2⟩,[_],_,rfl,⟨_,rfl,qK.mono c8⟩,[_],_,rfl,⟨_,rfl,qI.mono ((l6.trans l7).trans l8)⟩,[_],_,rfl,⟨_,rfl,kE.mono (l7.trans l8)⟩,[_],_,rfl,⟨_,rfl,qF.mono l8⟩,[_],_,rfl,⟨_,rfl,qW⟩,rfl⟩;have⟨ψ9,l9,kP,M⟩:=St.freezeR (Jj _) o;exact AC ⟨ψ9,some ⟨a,0,none⟩,some _,(((le.trans f).trans l4).trans c8).trans l9,rfl,rfl,kP,M.tail⟩
section
variable {g_0:nG}
section
variable {φ:AD}{h:AH}{F:List Chk}
noncomputable def tronageref14_Grid_all_D(g_0:Kh)(a:Int)(b:Int):Option (Int×nH):=(Ca g_0.2.2.2.2.2.2.2 a).bind λt3=>(forS (σ:=nH) 0 (t3.length:Int) ([]:nH) λc k=>(idx t3 c).bind λd=>(CJ g_0.2.2.2.2.2.2.2 a d).bind λe=>(ES e b).bind λf=>(cond f ((idx t3 c).bind λg=>(app k ([g]:nH)).bind λh=>some h) (some k)).bind λi=>some i).bind λl=>(BM g_0.2.2.2.2.2.2.1 a b).bind λj=>some (j,l)
theorem E8{k:Kh}{A:Int}{B:Int}(d:Pt PP φ g_0 k)(H:St φ F h){r:(Int×nH)}(hd:tronageref14_Grid_all_D k A B=some r):
 nX oO 31 [lP g_0,lN A,lN B] h (An λv J=>∃ψ:AD,∃y:Int×Slc×Unit,∃l:nH,Sub φ ψ∧v=((.tuple lY):Sh).val y∧(y.1,l)=r∧hM (oG .i64) ψ y.2.1 l∧St ψ F J):=by
 refine AT mixed func31 (II ..)<|pfR ZP d H λbg w=>?_;have⟨bi,x,hd⟩:=bS hd;refine AK (HY w H x) ?_;rintro _ bj ⟨m,t3,bl,bn,rfl,rfl,e,z⟩;refine⟨t3,rfl,?_⟩;have n:=e.length;have⟨bp,a0,hd⟩:=bS hd;refine BD a0 (λK y D g=>∃ψ:AD,∃o:nH,Sub m ψ∧y.1=K∧o=g∧St ψ (cR 3 (oG .i64) y.2.1 o::F) D) rfl ⟨m,[],sb,rfl,rfl,(z.nil 3 (oG .i64))⟩ ?_ ?_ ?_
 ·rintro _ L bq _ _ ⟨bs,M,bt,rfl,rfl,f⟩ b bx N O;refine Ad (dT n N)<|pfR ZP d f λbz P=>gx e b f λc0 b=>?_;have⟨c1,Q,b⟩:=bS b;refine AK (IK P.up f Q) ?_;rintro _ c2 ⟨c3,E,c4,c5,rfl,rfl,R,S⟩;refine⟨E,rfl,?_⟩;have⟨c6,T,b⟩:=bS b;refine AK (Mt R S T) ?_;rintro _ c7 ⟨i,G,c8,rfl,rfl,j⟩;refine⟨G,rfl,?_⟩;have⟨U,c,b⟩:=bS b;refine AY (λy D g=>∃ψ:AD,∃p:nH,Sub i ψ∧p=g∧St ψ (cR 3 (oG .i64) y.1 p::F) D) (g:=U) ?_ ?_
  ·refine mP c rfl (λc=>?_) (λc=>?_)
   ·refine gx e c j λq c=>AU (vs:=[.int .i64 q]) j λV c9 s=>?_;have⟨al,ap,c⟩:=bS c;refine AV (ms:=([q]:nH)) BR s.tail rfl (pP s) (.cons (a:=[_]) rfl .nil) rfl ap ?_;intro W ch X;exact lG rfl ⟨i,al,sb,iS c,X⟩
   exact lG rfl ⟨i,M,sb,iS c,j⟩
  rintro Y cl ⟨Z,b1,cm,rfl,b2⟩;obtain rfl:=iS b;exact lH rfl rfl ⟨Z,b1,sb,O,rfl,b2⟩
 ·rintro _ L cp ⟨b3,b4,cs,rfl,rfl,b5⟩ b6;refine AW (dF n b6)<|AJ (lI rfl ⟨_,b3,b4,sb,rfl,rfl,b5⟩)
 rintro I cw ⟨_,cx,b7,d0,_,rfl,u⟩;refine pfR Nh d u λd1 b8=>?_;have⟨d2,b9,hd⟩:=bS hd;refine AK (Cj b8.up u b9) ?_;rintro _ d3 ⟨d4,C,d5,rfl,rfl,ba⟩;refine⟨C,rfl,?_⟩;have⟨bb,d6,bd,bf⟩:=oK (t:=I.2.1) ba;exact AC ⟨bb,(C,I.2.1,()),b7,sb,rfl,iS hd,bd,bf⟩
noncomputable def CS(g_0:Kh)(b:Int)(a:Int):Option (Int×Int):=(cond (decide (b< 0)) (some true) (cond (decide (b≥ (g_0.2.2.2.2.2.2.1.2.2.2.2.2.2.1.length:Int))) (some true) (cond (decide (a< 0)) (some true) (some (decide (a≥ (g_0.1.length:Int))))))).bind λe=>cond e (some (0,0)) ((tronageref14_Grid_all_D g_0 b a).bind λc=>(CV (g_0.1,g_0.2.1,g_0.2.2.1,g_0.2.2.2.1,g_0.2.2.2.2.1,g_0.2.2.2.2.2.1) a c.1 c.2).bind λd=>some (d.1,d.2.1))
theorem FP{b:Kh}{x:Int}{A:Int}(f:Pt PP φ g_0 b)(D:St φ F h){r:(Int×Int)}(hd:CS b x A=some r):
 nX oO 10 [lP g_0,lN x,lN A] h (An λv E=>∃ψ:AD,∃y:Int×Int×Unit,Sub φ ψ∧v=mJ.val y∧(y.1,y.2.1)=r∧St ψ F E):=by
 refine AT mixed func10 (I6 ..)<|AU (vs:=[.int .i64 (0:Int),.int .i64 (0:Int)]) D λr1 Z c=>?_;have⟨t,a,hd⟩:=bS hd;refine AY (λy G g=>∃ψ:AD,Sub φ ψ∧y.1=g∧St ψ (Wq8 r1::F) G) (g:=t) ?_ ?_
 ·refine mP a rfl (λa=>?_) (λa=>?_)
  ·exact lG rfl ⟨φ,sb,iS a,c⟩
  refine pfR Nh f c λb7 u=>pfR Td u c λb8 w=>?_;have z:=w.length;refine mP a (by rw[z] <;>rfl) (λa=>?_) (λa=>?_)
  ·exact lG rfl ⟨φ,sb,iS a,c⟩
  refine mP a rfl (λa=>?_) (λa=>?_)
  ·exact lG rfl ⟨φ,sb,iS a,c⟩
  refine Ta PQ f c λa0 H=>?_;have I:=H.length;obtain rfl:=iS a;exact lG rfl ⟨φ,sb,(by rw[I]),c⟩
 rintro z2 b9 ⟨J,ba,rfl,l⟩;refine mP hd rfl (λhd=>?_) (λhd=>?_)
 ·refine AQ l rfl rfl λbb K=>AQ K rfl rfl λbd i=>AA i rfl<|AA i rfl ?_;exact AC ⟨J,((0:Int),(0:Int),()),sb,rfl,iS hd,i.tail⟩
 have⟨bf,L,hd⟩:=bS hd;refine AK (E8 f.up l L) ?_;rintro _ bg ⟨bi,C,bj,bl,rfl,rfl,M,d⟩;refine⟨C,rfl,?_⟩;obtain⟨bn,bp,N,⟨_,_,rfl,⟨m,rfl,O⟩,_,_,rfl,⟨n,rfl,P⟩,_,_,rfl,⟨o,rfl,Q⟩,_,_,rfl,⟨p,rfl,al⟩,_,_,rfl,⟨q,rfl,ap⟩,_,_,rfl,⟨s,rfl,R⟩,_,_,rfl,⟨bq,rfl,bs⟩,⟨bt,rfl,bx⟩⟩,e⟩:=id f;refine AI _ N<|AF (AG (oL sb d.sub) (e.at 0 rfl)) rfl<|AF (AG (oL sb d.sub) (e.at 1 rfl)) rfl<|AF (AG (oL sb d.sub) (e.at 2 rfl)) rfl<|AF (AG (oL sb d.sub) (e.at 3 rfl)) rfl<|AF (AG (oL sb d.sub) (e.at 4 rfl)) rfl<|AF (AG (oL sb d.sub) (e.at 5 rfl)) rfl ?_;have⟨bz,S,hd⟩:=bS hd;refine AK (GN (p_0:=(m,n,o,p,q,s,())) (d_p_0:=(b.1,b.2.1,b.2.2.1,b.2.2.2.1,b.2.2.2.2.1,b.2.2.2.2.2.1)) ⟨O.up,P.up,Q.up,al.up,ap.up,R.up⟩ M d S) ?_;rintro _ c0 ⟨T,B,c1,rfl,rfl,U⟩;refine⟨B,rfl,AU (vs:=[.int .i64 (0:Int),.int .i64 (0:Int)]) U λV c2 W=>AQ W rfl rfl λc3 X=>AQ X rfl rfl λc4 j=>AA j rfl<|AA j rfl<|AQ j.at1 rfl rfl λc5 Y=>AQ Y rfl rfl λc6 k=>AA k rfl<|AA k rfl ?_⟩;exact AC ⟨T,(B.1.1,B.1.2.1,()),sb,rfl,iS hd,k.tail.tail⟩
noncomputable def C8(g_0:Kh)(b:Int)(a:Int):Option Int:=(cond (decide (a< (g_0.1.length:Int))) (some true) (some (decide (a≥ (hC .i64 ((g_0.1.length:Int)+(g_0.2.1.length:Int))))))).bind λd=>cond d (some (-1:Int)) ((BM g_0.2.2.2.2.2.2.1 b a).bind λc=>some c)
theorem JB{d:Kh}{v:Int}{A:Int}(b:Pt PP φ g_0 d)(B:St φ F h){r:Int}(hd:C8 d v A=some r):
 nX oO 12 [lP g_0,lN v,lN A] h (An (mN φ r F)):=by
 refine AT mixed func12 (I7 ..) ?_;have⟨e,a,hd⟩:=bS hd;refine AY (λy D g=>∃ψ:AD,Sub φ ψ∧y.1=g∧St ψ F D) (g:=e) ?_ ?_
 ·refine Ta PQ b B λw f=>?_;have i:=f.length;refine mP a (by rw[i] <;>rfl) (λa=>?_) (λa=>?_)
  ·exact lG rfl ⟨φ,sb,iS a,B⟩
  refine Ta PQ b B λj k=>?_;have l:=k.length;refine pfR ZO b B λm n=>?_;have o:=n.length;obtain rfl:=iS a;exact lG rfl ⟨φ,sb,(by rw[l,o]),B⟩
 rintro E x ⟨p,z,rfl,c⟩;refine mP hd rfl (λhd=>?_) (λhd=>?_)
 ·exact AC ⟨p,(-1:Int),sb,rfl,iS hd,c⟩
 refine pfR Nh b c λa0 q=>?_;have⟨G,s,hd⟩:=bS hd;refine AK (Cj q.up c s) ?_;rintro _ H ⟨t,C,I,rfl,rfl,u⟩;exact⟨C,rfl,AC ⟨t,C,sb,rfl,iS hd,u⟩⟩
noncomputable def BV(g_0:Kh):Option (List Cn):=(loop (σ:=(Int×List Cn)) (β:=List Cn) (0,([]:List Cn)) λd=>cond (decide (d.1< (g_0.2.2.2.2.2.2.1.2.2.2.2.2.2.1.length:Int))) ((loop (σ:=(Int×List Cn)) (β:=List Cn) (0,d.2) λb=>cond (decide (b.1< (g_0.1.length:Int))) ((tronageref14_Grid_all_D g_0 d.1 b.1).bind λa=>(cond (decide (a.1≥ 0)) (some (hC .i64 ((a.2.length:Int)+1))) (some (a.2.length:Int))).bind λe=>(cond (decide (e>1)) ((CV (g_0.1,g_0.2.1,g_0.2.2.1,g_0.2.2.2.1,g_0.2.2.2.2.1,g_0.2.2.2.2.2.1) b.1 a.1 a.2).bind λc=>(app b.2 ([(d.1,b.1,a.1,a.2,c.1,c.2.1,c.2.2)]:List Cn)).bind λf=>some f) (some b.2)).bind λg=>some (oP ((hC .i64 (b.1+1)),g))) (some (oS b.2))).bind λh=>some (oP ((hC .i64 (d.1+1)),h))) (some (oS d.2))).bind λi=>some i
theorem D3{d:Kh}(k:Pt PP φ g_0 d)(L:St φ F h){r:(List Cn)}(hd:BV d=some r):
 nX oO 15 [lP g_0] h (An (mO φ Fp r F)):=by
 refine AT mixed func15 (G4 ..) ?_;have⟨M,N,hd⟩:=bS hd;refine Af (λy v g=>∃ψ:AD,∃w:List Cn,Sub φ ψ∧w=g∧St ψ (cR 62 Fp y.2.1 w::F) v) (g:=M) ?_ ?_
 ·refine Bx N (λy v g=>∃ψ:AD,∃z:List Cn,Sub φ ψ∧(y.1,z)=g∧St ψ (cR 62 Fp y.2.1 z::F) v) rfl ⟨φ,[],sb,rfl,(L.nil 62 Fp)⟩ ?_
  ·rintro B d0 _ _ ⟨l,a0,d1,rfl,m⟩ f O;refine pfR Nh k m λd2 P=>pfR Td P m λd3 Q=>?_;have R:=Q.length;refine mP f (by rw[R] <;>rfl) (λf=>?_) (λf=>?_)
   ·have⟨S,T,f⟩:=bS f;refine Af (λy v g=>∃ψ:AD,∃C:List Cn,Sub l ψ∧C=g∧St ψ (cR 62 Fp y.2.1 C::F) v) (g:=S) ?_ ?_
    ·refine Bx T (λy v g=>∃ψ:AD,∃D:List Cn,Sub l ψ∧(y.1,D)=g∧St ψ (cR 62 Fp y.2.1 D::F) v) rfl ⟨l,a0,sb,rfl,m⟩ ?_
     ·rintro A d4 _ _ ⟨U,n,d5,rfl,o⟩ b V;refine Ta PQ k o λd6 W=>?_;have X:=W.length;refine mP b (by rw[X] <;>rfl) (λb=>?_) (λb=>?_)
      ·have⟨d7,Y,b⟩:=bS b;refine AK (E8 k.up o Y) ?_;rintro _ d8 ⟨p,x,Z,d9,rfl,rfl,q,E⟩;refine⟨x,rfl,?_⟩;have G:=q.length;have⟨bg,j,b⟩:=bS b;refine AY (λy v g=>∃ψ:AD,Sub p ψ∧y.1=g∧St ψ (cR 62 Fp A.2.1 n::F) v) (g:=bg) ?_ ?_
       ·refine mP j rfl (λj=>?_) (λj=>?_)
        ·obtain rfl:=iS j;exact lG rfl ⟨p,sb,(by rw[G]),E⟩
        obtain rfl:=iS j;exact lG rfl ⟨p,sb,(by rw[G]),E⟩
       rintro f0 dd ⟨H,dk,rfl,e⟩;have⟨bi,c,b⟩:=bS b;refine AY (λy v g=>∃ψ:AD,∃I:List Cn,Sub H ψ∧I=g∧St ψ (cR 62 Fp y.1 I::F) v) (g:=bi) ?_ ?_
       ·refine mP c rfl (λc=>?_) (λc=>?_)
        ·obtain⟨dl,dm,bj,⟨_,_,rfl,⟨a7,rfl,bl⟩,_,_,rfl,⟨a8,rfl,bn⟩,_,_,rfl,⟨a9,rfl,bp⟩,_,_,rfl,⟨ad,rfl,bq⟩,_,_,rfl,⟨al,rfl,bs⟩,_,_,rfl,⟨ap,rfl,bt⟩,_,_,rfl,⟨dn,rfl,dp⟩,⟨ds,rfl,dx⟩⟩,i⟩:=id k;refine AI _ bj<|AF (AG (oL sb e.sub) (i.at 0 rfl)) rfl<|AF (AG (oL sb e.sub) (i.at 1 rfl)) rfl<|AF (AG (oL sb e.sub) (i.at 2 rfl)) rfl<|AF (AG (oL sb e.sub) (i.at 3 rfl)) rfl<|AF (AG (oL sb e.sub) (i.at 4 rfl)) rfl<|AF (AG (oL sb e.sub) (i.at 5 rfl)) rfl ?_;have⟨dy,bx,c⟩:=bS c;refine AK (GN (p_0:=(a7,a8,a9,ad,al,ap,())) (d_p_0:=(d.1,d.2.1,d.2.2.1,d.2.2.2.1,d.2.2.2.2.1,d.2.2.2.2.2.1)) ⟨bl.up,bn.up,bp.up,bq.up,bs.up,bt.up⟩ q.up e bx) ?_;rintro _ e0 ⟨bz,u,e1,rfl,rfl,c0⟩;refine⟨u,rfl,AU (vs:=[.int .i64 (0:Int),.int .i64 (0:Int)]) c0 λf1 e2 c1=>AQ c1 rfl rfl λe3 c2=>AQ c2 rfl rfl λe4 s=>AA s rfl<|AA s rfl<|AU (vs:=[.int .i64 B.1,.int .i64 A.1,.int .i64 x.1,sv x.2.1,.int .i64 u.1.1,.int .i64 u.1.2.1,.bool u.2.1]) s λf2 e5 J=>?_⟩;have⟨c3,c4,c⟩:=bS c;refine AV (ms:=([(B.1,A.1,x.1,Z,u.1.1,u.1.2.1,u.2.1)]:List Cn)) N8 J.tail.at1 rfl (pP J) (.cons (a:=[_,_,_,_,_,_,_]) ⟨[_],_,rfl,rfl,⟨[_],_,rfl,rfl,⟨[_],_,rfl,rfl,⟨[_],_,rfl,⟨x.2.1,rfl,q.up⟩,⟨[_],_,rfl,rfl,⟨[_],_,rfl,rfl,rfl⟩⟩⟩⟩⟩⟩ .nil) rfl c4 ?_;intro f3 e6 c5;exact lG rfl ⟨bz,c3,sb,iS c,c5.at1.tail⟩
        exact lG rfl ⟨H,n,sb,iS c,e⟩
       rintro f4 e7 ⟨c6,c7,e8,rfl,c8⟩;obtain rfl:=iS b;exact lH rfl rfl ⟨c6,c7,sb,rfl,c8⟩
      obtain rfl:=iS b;obtain rfl:=V _ rfl;exact AJ (lI rfl ⟨U,n,sb,rfl,o⟩)
    rintro z7 e9 ⟨c9,ch,ea,rfl,cl⟩;obtain rfl:=iS f;exact lH rfl rfl ⟨c9,ch,sb,rfl,cl⟩
   obtain rfl:=iS f;obtain rfl:=O _ rfl;exact AJ (lI rfl ⟨l,a0,sb,rfl,m⟩)
 rintro K ed ⟨ee,cm,ef,rfl,cp⟩;have⟨cs,eg,cw,cx⟩:=oK (t:=K.2.1) cp;exact AC ⟨cs,K.2.1,cm,sb,rfl,iS hd,cw,cx⟩
noncomputable def Cb(g_0:Kh):Option Bool:=
 (BV g_0).bind λt1=>
 (C6 (σ:=Unit) (β:=Bool) 0 (t1.length:Int) () λa e=>
  (idx t1 a).bind λc=>
  cond c.2.2.2.2.2.2
  (some (oS false))
  (some (oP ()))).bind λb=>match b with
 |.next f=>
  some true
 |.done d=>some d
theorem HZ{c:Kh}(j:Pt PP φ g_0 c)(v:St φ F h){r:Bool}(hd:Cb c=some r):
 nX oO 17 [lP g_0] h (An (mM φ r F)):=by
 refine AT mixed func17 (HX ..) ?_;have⟨a0,k,hd⟩:=bS hd;refine AK (D3 j v k) ?_;rintro _ C ⟨d,t1,D,E,rfl,rfl,e,l⟩;refine⟨t1,rfl,?_⟩;have f:=e.length;have⟨G,m,hd⟩:=bS hd;refine BQ m (λn y A g=>∃ψ:AD,Sub d ψ∧y.1=n∧()=g∧St ψ F A) rfl ⟨d,sb,rfl,rfl,l⟩ ?_ ?_ ?_
 ·rintro _ B H _ _ ⟨i,I,rfl,rfl,b⟩ a J o p q;refine Ad (dT f o)<|ixS Qz e a b λK a=>mP a rfl (λa=>?_) (λa=>?_)
  ·obtain rfl:=iS a;obtain rfl:=q _ rfl;obtain rfl:=iS hd;exact Ak (Ah (AC ⟨i,false,sb,rfl,rfl,b⟩))
  obtain rfl:=iS a;exact lH rfl rfl ⟨i,sb,p,rfl,b⟩
 ·rintro _ B L _ ⟨s,M,rfl,rfl,t⟩ u w;subst w;refine AW (dF f u)<|AJ (lI rfl ⟨_,rfl,_,s,sb,rfl,rfl,t⟩)
 rintro N al ⟨_,rfl,_,x,ap,_,rfl,z⟩;exact AC ⟨x,true,sb,rfl,iS hd,z⟩
noncomputable def Dq(x_0:EO):Option Int:=cond (x_0.1==3) (some 1) ((cond (decide (x_0.2< 0)) (some true) (cond (decide (x_0.2>1099511627776)) (some true) (cond (x_0.1 !=1) (some (x_0.1 !=2)) (some false)))).bind λa=>cond a (some 0) (some (hC .i64 ((hC .i64 ((hC .i64 (2 *x_0.2))+1))+x_0.1))))
theorem LJ{k:Int×Int×Unit}(l:St φ F h){r:Int}(hd:Dq (k.1,k.2.1)=some r):
 nX oO 39 [.agg #[lN k.1,lN k.2.1]] h (An (mN φ r F)):=by
 refine AT mixed func39 (LF ..)<|AU (vs:=[.int .i64 k.1,.int .i64 k.2.1]) l λr1 f b=>AA b rfl<|mP hd rfl (λhd=>?_) (λhd=>?_)
 ·exact AC ⟨φ,(1:Int),sb,rfl,iS hd,b.tail⟩
 have⟨e,a,hd⟩:=bS hd;refine AY (λy m g=>∃ψ:AD,Sub φ ψ∧y.1=g∧St ψ (cW 50 r1 [.int .i64 k.1,.int .i64 k.2.1]::F) m) (g:=e) ?_ ?_
 ·refine AA b rfl<|mP a rfl (λa=>?_) (λa=>?_)
  ·exact lG rfl ⟨φ,sb,iS a,b⟩
  refine AA b rfl<|mP a rfl (λa=>?_) (λa=>?_)
  ·exact lG rfl ⟨φ,sb,iS a,b⟩
  refine AA b rfl<|mP a rfl (λa=>?_) (λa=>?_)
  ·refine AA b rfl ?_;exact lG rfl ⟨φ,sb,iS a,b⟩
  exact lG rfl ⟨φ,sb,iS a,b⟩
 rintro n i ⟨d,j,rfl,c⟩;refine mP hd rfl (λhd=>?_) (λhd=>?_)
 ·exact AC ⟨d,(0:Int),sb,rfl,iS hd,c.tail⟩
 refine AA c rfl<|AA c rfl ?_;exact AC ⟨d,(hC .i64 ((hC .i64 ((hC .i64 ((2:Int) *k.2.1))+(1:Int)))+k.1)),sb,rfl,iS hd,c.tail⟩
noncomputable def Ck(g_0:Kh):Option (List nH):=(loop (σ:=(Int×List nH)) (β:=List nH) (0,([]:List nH)) λb=>cond (decide (b.1< (g_0.2.2.2.2.2.2.1.2.2.2.2.2.2.1.length:Int))) ((loop (σ:=(Int×nH)) (β:=nH) (0,([]:nH)) λc=>cond (decide (c.1< (g_0.1.length:Int))) ((CS g_0 b.1 c.1).bind λd=>(Dq (d.1,d.2)).bind λe=>(app c.2 ([e]:nH)).bind λf=>some (oP ((hC .i64 (c.1+1)),f))) (some (oS c.2))).bind λk=>(loop (σ:=(Int×nH)) (β:=nH) (0,k) λa=>cond (decide (a.1< (g_0.2.1.length:Int))) ((BM g_0.2.2.2.2.2.2.1 b.1 (hC .i64 ((g_0.1.length:Int)+a.1))).bind λg=>(app a.2 ([(hC .i64 (g+1))]:nH)).bind λh=>some (oP ((hC .i64 (a.1+1)),h))) (some (oS a.2))).bind λi=>(app b.2 ([i]:List nH)).bind λj=>some (oP ((hC .i64 (b.1+1)),j))) (some (oS b.2))).bind λl=>some l
theorem IB{n:Kh}(e:Pt PP φ g_0 n)(I:St φ F h){r:(List nH)}(hd:Ck n=some r):
 nX oO 20 [lP g_0] h (An (mO φ (oB (oG .i64)) r F)):=by
 refine AT mixed func20 (IA ..) ?_;have⟨J,K,hd⟩:=bS hd;refine Af (λy o g=>∃ψ:AD,∃p:List nH,Sub φ ψ∧p=g∧St ψ (cR 30 (oB (oG .i64)) y.2.1 p::F) o) (g:=J) ?_ ?_
 ·refine Bx K (λy o g=>∃ψ:AD,∃q:List nH,Sub φ ψ∧(y.1,q)=g∧St ψ (cR 30 (oB (oG .i64)) y.2.1 q::F) o) rfl ⟨φ,([]:List nH),sb,rfl,(I.nil 30 (oB (oG .i64)))⟩ ?_
  ·rintro D cx _ _ ⟨j,f,d0,rfl,k⟩ b L;refine pfR Nh e k λd1 M=>pfR Td M k λd2 N=>?_;have O:=N.length;refine mP b (by rw[O] <;>rfl) (λb=>?_) (λb=>?_)
   ·have P:=k.nil 3 (oG .i64);have⟨Q,al,b⟩:=bS b;refine Af (λy o g=>∃ψ:AD,∃s:nH,Sub j ψ∧s=g∧St ψ (cR 3 (oG .i64) y.2.1 s::cR 30 (oB (oG .i64)) D.2.1 f::F) o) (g:=Q) ?_ ?_
    ·refine Bx al (λy o g=>∃ψ:AD,∃u:nH,Sub j ψ∧(y.1,u)=g∧St ψ (cR 3 (oG .i64) y.2.1 u::cR 30 (oB (oG .i64)) D.2.1 f::F) o) rfl ⟨j,[],sb,rfl,P.at1.at1⟩ ?_
     ·rintro z8 d3 _ _ ⟨ap,R,d4,rfl,l⟩ c S;refine Ta PQ e l λd5 T=>?_;have U:=T.length;refine mP c (by rw[U] <;>rfl) (λc=>?_) (λc=>?_)
      ·have⟨d6,V,c⟩:=bS c;refine AK (FP e.up l V) ?_;rintro _ d7 ⟨d8,v,d9,rfl,rfl,W⟩;refine⟨v,rfl,?_⟩;have⟨dd,X,c⟩:=bS c;refine AK (LJ (k:=(v.1,v.2.1,())) W X) ?_;rintro _ dk ⟨Y,A,dl,rfl,rfl,Z⟩;refine⟨A,rfl,AU (vs:=[.int .i64 A]) Z λf0 dm w=>?_⟩;have⟨b8,b9,c⟩:=bS c;refine AV (ms:=([A]:nH)) BR w.tail rfl (pP w) (.cons (a:=[_]) rfl .nil) rfl b9 ?_;intro f1 dn ba;obtain rfl:=iS c;exact lH rfl rfl ⟨Y,b8,sb,rfl,ba.at1.at1⟩
      obtain rfl:=iS c;obtain rfl:=S _ rfl;exact AJ (lI rfl ⟨ap,R,sb,rfl,l.at1.at1⟩)
    rintro z7 dp ⟨m,bb,ds,rfl,bd⟩;have⟨bf,bg,b⟩:=bS b;refine Af (λy o g=>∃ψ:AD,∃x:nH,Sub m ψ∧x=g∧St ψ (cR 3 (oG .i64) y.2.1 x::cR 30 (oB (oG .i64)) D.2.1 f::F) o) (g:=bf) ?_ ?_
    ·refine Bx bg (λy o g=>∃ψ:AD,∃z:nH,Sub m ψ∧(y.1,z)=g∧St ψ (cR 3 (oG .i64) y.2.1 z::cR 30 (oB (oG .i64)) D.2.1 f::F) o) rfl ⟨m,bb,sb,rfl,bd.at1.at1⟩ ?_
     ·rintro f2 dx _ _ ⟨bi,bj,dy,rfl,i⟩ d bl;refine pfR ZO e i λe0 bn=>?_;have bp:=bn.length;refine mP d (by rw[bp] <;>rfl) (λd=>?_) (λd=>?_)
      ·refine pfR Nh e i λe1 bq=>Ta PQ e i λe2 bs=>?_;have bt:=bs.length;have⟨e3,a0,d⟩:=bS d;rw[←bt]at a0;refine AK (Cj bq.up i a0) ?_;rintro _ e4 ⟨bx,B,e5,rfl,rfl,bz⟩;refine⟨B,rfl,AU (vs:=[.int .i64 (wN B)]) bz λf3 e6 E=>?_⟩;have⟨c0,c1,d⟩:=bS d;refine AV (ms:=([(wN B)]:nH)) BR E.tail rfl (pP E) (.cons (a:=[_]) rfl .nil) rfl c1 ?_;intro f4 e7 c2;obtain rfl:=iS d;exact lH rfl rfl ⟨bx,c0,sb,rfl,c2.at1.at1⟩
      obtain rfl:=iS d;obtain rfl:=bl _ rfl;exact AJ (lI rfl ⟨bi,bj,sb,rfl,i.at1.at1⟩)
    rintro C e8 ⟨e9,c3,ea,rfl,c4⟩;refine AU (vs:=[sv C.2.1]) c4 λf5 ed c5=>?_;have⟨c6,ee,c7,G⟩:=oK (t:=C.2.1) c5.at1;have⟨c8,c9,b⟩:=bS b;refine AV (ms:=([c3]:List nH)) H8 G.tail rfl (pP G) (.cons (a:=[_]) ⟨C.2.1,rfl,c7⟩ .nil) rfl c9 ?_;intro f6 ef ch;obtain rfl:=iS b;exact lH rfl rfl ⟨c6,c8,sb,rfl,ch⟩
   obtain rfl:=iS b;obtain rfl:=L _ rfl;exact AJ (lI rfl ⟨j,f,sb,rfl,k⟩)
 rintro H eg ⟨el,cl,em,rfl,cm⟩;have⟨cp,en,cs,cw⟩:=oK (t:=H.2.1) cm;exact AC ⟨cp,H.2.1,cl,sb,rfl,iS hd,cs,cw⟩
noncomputable def Dr(a_0:List Cn)(b_1:List Cn):Option Bool:=
 cond ((a_0.length:Int) !=(b_1.length:Int))
 (some false)
 ((C6 (σ:=Unit) (β:=Bool) 0 (a_0.length:Int) () λa r=>
  ((idx a_0 a).bind λg=>
  (idx b_1 a).bind λh=>
  cond (g.1 !=h.1)
  (some true)
  ((idx a_0 a).bind λi=>
   (idx b_1 a).bind λj=>
   cond (i.2.1 !=j.2.1)
   (some true)
   ((idx a_0 a).bind λk=>
    (idx b_1 a).bind λl=>
    cond (k.2.2.1 !=l.2.2.1)
    (some true)
    ((idx a_0 a).bind λb=>
     (idx b_1 a).bind λc=>
     cond (!((b.2.2.2.2.1==c.2.2.2.2.1) && ((b.2.2.2.2.2.1==c.2.2.2.2.2.1) && true)))
     (some true)
     ((idx a_0 a).bind λm=>
      (idx b_1 a).bind λn=>
      cond (!(m.2.2.2.2.2.2==n.2.2.2.2.2.2))
      (some true)
      ((idx a_0 a).bind λo=>
       (idx b_1 a).bind λd=>
       (C3 o.2.2.2.1 d.2.2.2.1).bind λp=>
       some (!p))))))).bind λq=>
  cond q
  (some (oS false))
  (some (oP ()))).bind λe=>match e with
  |.next s=>
   some true
  |.done f=>some f)
theorem LK{a_0:Slc}{i:List Cn}{b_1:Slc}{j:List Cn}(d:hM Fp φ a_0 i)(e:hM Fp φ b_1 j)(A:St φ F h){r:Bool}(hd:Dr i j=some r):
 nX oO 13 [sv a_0,sv b_1] h (An (mM φ r F)):=by
 refine AT mixed func13 (LG ..) ?_;have k:a_0.2.1=qM i:=d.length;have s:b_1.2.1=qM j:=e.length;refine mP hd (by rw[k,s] <;>rfl) (λhd=>?_) (λhd=>?_)
 ·exact AC ⟨φ,false,sb,rfl,iS hd,A⟩
 have⟨W,t,hd⟩:=bS hd;refine BQ t (λu y v g=>∃ψ:AD,Sub φ ψ∧y.1=u∧()=g∧St ψ F v) rfl ⟨φ,sb,rfl,rfl,A⟩ ?_ ?_ ?_
 ·rintro _ B X _ _ ⟨c,Y,rfl,rfl,b⟩ f Z w z a0;refine Ad (dT k w) ?_;have⟨C,a,f⟩:=bS f;refine AY (λy v g=>∃ψ:AD,Sub c ψ∧y.1=g∧St ψ F v) (g:=C) ?_ ?_
  ·refine Ik ZH d a b λch a=>Ik ZH e a b λcl a=>mP a rfl (λa=>?_) (λa=>?_)
   ·exact lG rfl ⟨c,sb,iS a,b⟩
   refine ixS ZI d a b λcm a=>ixS ZI e a b λcp a=>mP a rfl (λa=>?_) (λa=>?_)
   ·exact lG rfl ⟨c,sb,iS a,b⟩
   refine ixS ZJ d a b λcs a=>ixS ZJ e a b λcw a=>mP a rfl (λa=>?_) (λa=>?_)
   ·exact lG rfl ⟨c,sb,iS a,b⟩
   have⟨l,D,a⟩:=bS a;obtain⟨cx,d0,E,G,H,m⟩:=(d.up (ψ:=c)).get D;refine AI _ E (Ai G ?_);obtain⟨_,_,rfl,rfl,⟨_,_,rfl,rfl,⟨_,_,rfl,rfl,⟨_,_,rfl,⟨d1,rfl,d2⟩,⟨_,_,rfl,rfl,⟨_,_,rfl,rfl,rfl⟩⟩⟩⟩⟩⟩:=H;refine AF (by rw[Aj];exact(AG (oL sb b.sub) (m 4 _ rfl))) rfl<|AF (by rw[Aj,Aj];exact(AG (oL sb b.sub) (m 5 _ rfl))) rfl ?_;have⟨n,I,a⟩:=bS a;obtain⟨d3,d4,J,K,L,o⟩:=(e.up (ψ:=c)).get I;refine AI _ J (Ai K ?_);obtain⟨_,_,rfl,rfl,⟨_,_,rfl,rfl,⟨_,_,rfl,rfl,⟨_,_,rfl,⟨d5,rfl,d6⟩,⟨_,_,rfl,rfl,⟨_,_,rfl,rfl,rfl⟩⟩⟩⟩⟩⟩:=L;refine AF (by rw[Aj];exact(AG (oL sb b.sub) (o 4 _ rfl))) rfl<|AF (by rw[Aj,Aj];exact(AG (oL sb b.sub) (o 5 _ rfl))) rfl<|mP a rfl (λa=>?_) (λa=>?_)
   ·exact lG rfl ⟨c,sb,iS a,b⟩
   refine ixS Qz d a b λd7 a=>ixS Qz e a b λd8 a=>mP a rfl (λa=>?_) (λa=>?_)
   ·exact lG rfl ⟨c,sb,iS a,b⟩
   refine ixR ZK d a b λd9 dd M a=>ixR ZK e a b λdk dl N a=>?_;have⟨dm,O,a⟩:=bS a;refine AK (GM M.up N.up b O) ?_;rintro _ dn ⟨P,x,dp,rfl,rfl,bz⟩;exact⟨x,rfl,lG rfl ⟨P,sb,iS a,bz⟩⟩
  rintro z3 ds ⟨p,dx,rfl,q⟩;refine mP f rfl (λf=>?_) (λf=>?_)
  ·obtain rfl:=iS f;obtain rfl:=a0 _ rfl;obtain rfl:=iS hd;exact Ak (Ah (AC ⟨p,false,sb,rfl,rfl,q⟩))
  obtain rfl:=iS f;exact lH rfl rfl ⟨p,sb,z,rfl,q⟩
 ·rintro _ B dy _ ⟨Q,e0,rfl,rfl,R⟩ S T;subst T;refine AW (dF k S)<|AJ (lI rfl ⟨_,rfl,_,Q,sb,rfl,rfl,R⟩)
 rintro z1 e1 ⟨_,rfl,_,U,e2,_,rfl,V⟩;exact AC ⟨U,true,sb,rfl,iS hd,V⟩
noncomputable def Ec(p_0:As):Option (Option Kh):=(Rz (p_0.1,p_0.2.1,p_0.2.2.1,p_0.2.2.2.1,p_0.2.2.2.2.1,p_0.2.2.2.2.2) 300 9000).bind λt8=>cond (qO t8) (some none) (t8.bind λa=>(De p_0 a 60).bind λb=>cond (qO b) (some none) (b.bind λc=>some (some (p_0.1,p_0.2.1,p_0.2.2.1,p_0.2.2.2.1,p_0.2.2.2.2.1,p_0.2.2.2.2.2,a,c))))
theorem NN{p_0:Pl6}{d_p_0:As}(a:G8 φ p_0 d_p_0)(C:St φ F h){r:(Option Kh)}(hd:Ec d_p_0=some r):
 nX oO 7 [aG p_0] h (An λv D=>∃ψ:AD,∃y:nG,∃d:Option Kh,Sub φ ψ∧v=lR.val y∧d=r∧Np PP ψ y d∧St ψ F D):=by
 refine AT mixed func7 (NK ..)<|D5 (t:=p_0) C λr1 H e=>BS (t:=p_0) e ?_;have⟨I,l,hd⟩:=bS hd;refine AK (UQ (p_0:=(p_0.1,p_0.2.1,p_0.2.2.1,p_0.2.2.2.1,p_0.2.2.2.2.1,p_0.2.2.2.2.2.1,())) a.k0 a.k1 a.k2 a.k3 a.k4 a.k5 e l) ?_;rintro _ J ⟨m,t8,K,L,rfl,rfl,f,b⟩;refine⟨t8,rfl,?_⟩;have n:=f.nil;refine mP hd (by rw[n] <;>rfl) (λhd=>?_) (λhd=>?_)
 ·exact AC ⟨m,none,none,sb,rfl,iS hd,(rT _ _),b.tail⟩
 refine BS (t:=p_0) b ?_;have⟨g,o,hd⟩:=bS hd;have i:=(f).get o;have⟨M,p,hd⟩:=bS hd;refine AK (NM a.up i b p) ?_;rintro _ N ⟨q,A,O,al,rfl,rfl,j,c⟩;refine⟨A,rfl,?_⟩;have s:=j.nil;refine mP hd (by rw[s] <;>rfl) (λhd=>?_) (λhd=>?_)
 ·exact AC ⟨q,none,none,sb,rfl,iS hd,(rT _ _),c.tail⟩
 refine BS (t:=p_0) c ?_;have⟨k,u,hd⟩:=bS hd;refine AU (vs:=[sv p_0.1,sv p_0.2.1,sv p_0.2.2.1,sv p_0.2.2.2.1,sv p_0.2.2.2.2.1,sv p_0.2.2.2.2.2.1,.pointer t8,.pointer A]) c λB ap w=>?_;have z:=St.shutR (r:=PP) (x:=(d_p_0.1,d_p_0.2.1,d_p_0.2.2.1,d_p_0.2.2.2.1,d_p_0.2.2.2.2.1,d_p_0.2.2.2.2.2,g,k)) w ⟨[_],_,rfl,⟨p_0.1,rfl,a.k0.up⟩,⟨[_],_,rfl,⟨p_0.2.1,rfl,a.k1.up⟩,⟨[_],_,rfl,⟨p_0.2.2.1,rfl,a.k2.up⟩,⟨[_],_,rfl,⟨p_0.2.2.2.1,rfl,a.k3.up⟩,⟨[_],_,rfl,⟨p_0.2.2.2.2.1,rfl,a.k4.up⟩,⟨[_],_,rfl,⟨p_0.2.2.2.2.2.1,rfl,a.k5.up⟩,⟨[_],_,rfl,⟨t8,rfl,i.up⟩,⟨A,rfl,((j).get u)⟩⟩⟩⟩⟩⟩⟩⟩;have⟨a0,P,E,G⟩:=St.freezeR (r:=PP) (Jj _) z;exact AC ⟨a0,(lF B),(some (d_p_0.1,d_p_0.2.1,d_p_0.2.2.1,d_p_0.2.2.2.1,d_p_0.2.2.2.2.1,d_p_0.2.2.2.2.2,g,k)),sb,rfl,iS hd,E,G.tail⟩
end
end
end Go.Proofs.YtfnppeejaimnbaaGreatDoor
namespace Go.Proofs.YtfnppeejaimnbaaGreatDoor
open Go Go.Eng Dg
section
variable {p:dtP}{B:List dtK}{E:List (List Edge)}{d:LkD}{tt:Int}{L:L3}
abbrev gdO(p:dtP)(B:List dtK)(E:List (List Edge))(L:L3):Kh:=(p.1,p.2.1,p.2.2.1,p.2.2.2.1,p.2.2.2.2.1,p.2.2.2.2.2,mkW p (yOf B E),loO p B E L)
theorem fI(M:MkI p B E d tt)(k:Wq p B E L){i:Nat}{b:dtK}(c:B[i]? =some b)(t:Int):
 tronageref14_Grid_all_D (gdO p B E L) (i:Int) t=some (goF p B E (i:Int) t,rsL d (dlB p B i) (i:Int) t):=by
 refine oQ ?_;unfold tronageref14_Grid_all_D;have m:=P0 (l:=[]) M c;rw[Wr c];refine AO ((gz M.all.vp M.all.fin _).trans (nB some (fE c))) (AO (x:=rsL d (Cq p.2.2.1 b.2.1) (i:Int) t) (Rw (UE d (i:Int) t) nJ λj x a f h=>?_) (AO (Xk M.all.vp M.all.fin _ _) (AB rfl)));have q:=(eE.1 f).1;have⟨l,n,o,r⟩:=eL M k (i:Int) x;refine oQ (AS f (AO o (AO (Dg.in_ok nJ t) ?_)));have e:decide (t∈l)=UE d (i:Int) t x:=by unfold UE;rw[n]
 rw[e];cases UE d (i:Int) t x with
 |true=>exact AM (Q:=λz=>z=a++ [x]) (Ay rfl (AS f (Az nN (AB rfl)))) λz g=>AB (by rw[g];rfl)
 |false=>exact AM (Q:=λz=>z=a) (AZ rfl (AB rfl)) λz g=>AB (by rw[g];rfl)
theorem cD(p:dtP)(t go:Int){rs:nH}(a:rs.length≤1000000)(b:0≤lvl p t→lvl p t< (p.2.2.2.2.1.length:Int)):CV p t go rs=some (Fo p t go rs):=by have⟨x,c,d⟩:=Yq p t go a b;rw[c,d.eq (TC p t go a b).2]
theorem UR(M:MkI p B E d tt){i:Nat}{b:dtK}(a:B[i]? =some b)(t:Int):(rsL d (dlB p B i) (i:Int) t).length≤10100:=by rw[Wr a];exact bL M a t
theorem hO(M:MkI p B E d tt)(i:Nat)(t:Int):O7 p (BG p B E tt) d (dlB p B i) (i:Int) t=((Fo p t (goF p B E (i:Int) t) (rsL d (dlB p B i) (i:Int) t)).1,(Fo p t (goF p B E (i:Int) t) (rsL d (dlB p B i) (i:Int) t)).2.1):=by unfold O7;rw[fF M]
noncomputable def atV(p:dtP)(A:dtA)(B:List dtK)(d:LkD)(i t:Int):Int×Int:=if 0≤i∧i< (B.length:Int)∧0≤t∧t< (p.1.length:Int) then O7 p A d (dlB p B i.toNat) i t else(0,0)
theorem cE{A:dtA}{i t:Nat}(a:i<B.length)(b:t<p.1.length):atV p A B d (i:Int) (t:Int)=O7 p A d (dlB p B i) (i:Int) (t:Int):=by unfold atV;rw[mZ ⟨nJ,nJ,nJ,nJ⟩,oI]
theorem iq{g:DU}(G:GdT p B E d tt g)(i:Int):Ct g i=some (decide (0≤i) && decide (i< (B.length:Int))):=by
 obtain⟨a,b,rfl,e,k⟩:=G;have f:a.length=B.length:=by rw[e];simp
 unfold Ct;dsimp only;rw[f];refine oQ (AM (Q:=λc=>c=(decide (0≤i) && decide (i< (B.length:Int)))) (AR (λh=>AB ?_) λh=>AB ?_) λc j=>AB j)
 ·rw[mW (show 0≤i from mX h),Bool.true_and]
 ·rw[mV (show ¬0≤i from mY h),Bool.false_and]
theorem jJ{g:DU}(G:GdT p B E d tt g)(i t:Int):B7 g i t=some (atV p (BG p B E tt) B d i t):=by
 by_cases h:0≤i∧i< (B.length:Int)∧0≤t∧t< (p.1.length:Int)
 ·obtain⟨i,rfl⟩:=oH h.1;obtain⟨t,rfl⟩:=oH h.2.2.1;rw[dv G.gd nJ nJ,cE nJ nJ]
 ·unfold atV;rw[nA h];have e:=iq G i;obtain⟨b,f,rfl,j,k⟩:=G;unfold B7;refine oQ (AM (Q:=λc=>c=true) (AO e (AR (λa=>AB rfl) λa=>AO (HO _ _) (AB ?_))) λc a=>Ay a (AB rfl));have a:(decide (0≤i) && decide (i< (B.length:Int)))=true:=by simpa using a
  simp only[Bool.and_eq_true,nD]at a;simp only[Bool.not_eq_true',Bool.and_eq_false_iff,nF];omega
theorem iu(M:MkI p B E d tt)(l:Wq p B E L)(m:∀t:Int,0≤lvl p t→lvl p t< (p.2.2.2.2.1.length:Int))(i t:Int):CS (gdO p B E L) i t=some (atV p (BG p B E tt) B d i t):=by
 have f:(mkW p (yOf B E)).2.2.2.2.2.2.1.length=B.length:=by simp[yOf]
 refine oQ ?_;unfold CS;refine AM (Q:=λc=>c=true↔¬(0≤i∧i< (B.length:Int)∧0≤t∧t< (p.1.length:Int))) (AR (λh=>AB ?_) λh=>AR (λb=>AB ?_) λb=>AR (λa=>AB ?_) λa=>AB ?_) λc j=>AR (λh=>AB ?_) λh=>?_
 ·have h:=mX h
  simp;omega
 ·have b:=mX b;rw[f]at b
  simp;omega
 ·have a:=mX a
  simp;omega
 ·have h:=mY h;have b:=mY b;have a:=mY a;rw[f]at b;rw[nD];dsimp only;omega
 ·unfold atV;rw[nA (j.1 h)]
 ·have e:0≤i∧i< (B.length:Int)∧0≤t∧t< (p.1.length:Int):=by
   rcases rN (0≤i∧i< (B.length:Int)∧0≤t∧t< (p.1.length:Int)) with g | g
   ·exact g
   ·rw[j.2 g]at h;cases h
  obtain⟨i,rfl⟩:=oH e.1;have k:=bD (show i<B.length by omega);have n:=UR M k t;refine AO (fI M l k t) (AO (cD p t _ (qX n nQ) (m t)) (AB ?_));unfold atV;rw[mZ e,oI,hO M]
noncomputable def goW(p:dtP)(B:List dtK)(E:List (List Edge))(i s:Int):Int:=if 0≤i∧i< (B.length:Int)∧(p.1.length:Int) ≤s∧s< ((p.1.length+p.2.1.length:Nat):Int) then goF p B E i s else -1
theorem eN(V:VPp p)(H:Fin p B E){i:Int}(h:Off B i)(s:Int):goF p B E i s= -1:=by have⟨r,a,b⟩:=UO V H i s;have e:=Xk V H i s;rw[a]at e;rw[←Option.some.inj e];exact b.unique H (.inr ⟨h,rfl⟩)
theorem jK{g:DU}(M:MkI p B E d tt)(r:p.1.length≤100)(G:GdT p B E d tt g){i s:Int}(t: -1≤s∧s≤1000):Ea g i s=some (goW p B E i s):=by
 have u:=M.all.vars;have m:=iq G i;obtain⟨k,b,rfl,w,n⟩:=G;have e:hC .i64 (s - (p.1.length:Int))=s - (p.1.length:Int):=w64 nJ nJ;refine oQ ?_;unfold Ea;dsimp only;rw[e];refine AM (Q:=λc=>c=true↔¬(0≤i∧i< (B.length:Int)∧(p.1.length:Int) ≤s∧s< ((p.1.length+p.2.1.length:Nat):Int))) (AO m (AR (λh=>AB ?_) λh=>AR (λf=>AB ?_) λf=>AB ?_)) λc l=>AR (λh=>AB ?_) λh=>?_
 ·simp at h ⊢;omega
 ·simp at h f ⊢;omega
 ·simp at h f ⊢;omega
 ·unfold goW;rw[nA (l.1 h)]
 ·have a:0≤i∧i< (B.length:Int)∧(p.1.length:Int) ≤s∧s< ((p.1.length+p.2.1.length:Nat):Int):=by
   rcases rN (0≤i∧i< (B.length:Int)∧(p.1.length:Int) ≤s∧s< ((p.1.length+p.2.1.length:Nat):Int)) with g | g
   ·exact g
   ·rw[l.2 g]at h;cases h
  obtain⟨i,rfl⟩:=oH a.1;obtain⟨v,j⟩:=oH (show 0≤s - (p.1.length:Int) by omega);rw[j];have o:b[i]? =some ((oA p.2.1.length).map λv=>goF p B E (i:Int) ((p.1.length+v:Nat):Int)):=by rw[n,oT,pL nJ];rfl
  have q:((oA p.2.1.length).map λv=>goF p B E (i:Int) ((p.1.length+v:Nat):Int))[v]? =some (goF p B E (i:Int) ((p.1.length+v:Nat):Int)):=by rw[oT,pL nJ];rfl
  refine AS o (AS q (AB ?_));unfold goW;rw[mZ a];congr 1;omega
theorem jL(M:MkI p B E d tt)(f:p.1.length≤100){i s:Int}:C8 (gdO p B E L) i s=some (goW p B E i s):=by
 have j:=M.all.vars;have e:hC .i64 ((p.1.length:Int)+(p.2.1.length:Int))=((p.1.length+p.2.1.length:Nat):Int):=by rw[w64 nJ nJ];omega
 refine oQ ?_;unfold C8;dsimp only;rw[e];refine AM (Q:=λc=>c=true↔¬((p.1.length:Int) ≤s∧s< ((p.1.length+p.2.1.length:Nat):Int))) (AR (λh=>AB ?_) λh=>AB ?_) λc a=>AR (λh=>AB ?_) λh=>AO (Xk M.all.vp M.all.fin _ _) (AB ?_)
 ·simp at h ⊢;omega
 ·simp at h ⊢;omega
 ·unfold goW;rw[nA (λg=>a.1 h ⟨g.2.2.1,g.2.2.2⟩)]
 ·have b:(p.1.length:Int) ≤s∧s< ((p.1.length+p.2.1.length:Nat):Int):=by
   rcases rN ((p.1.length:Int) ≤s∧s< ((p.1.length+p.2.1.length:Nat):Int)) with g | g
   ·exact g
   ·rw[a.2 g]at h;cases h
  unfold goW;split
  ·rfl
  ·rename_i g
   exact eN M.all.vp M.all.fin (by unfold Off;omega) s
end
theorem PH{σ γ:Type}{P:γ→Prop}{f:Int×σ→Option (AX (Int×σ) σ)}{n:Nat}{b:σ}{k:σ→Option γ}(I:Nat→σ→Prop)(r:n≤1000000)(c:I 0 b)
 (d:∀(j:Nat) s,j<n→I j s→Ok (f ((j:Int),s)) λe=>∃s',e= .next (((j+1:Nat):Int),s')∧I (j+1) s') (g:∀s,I n s→f ((n:Int),s)=some (.done s)) (i:∀s,I n s→Ok (k s) P):Ok ((loop ((0:Int),b) f).bind k) P:=by
 refine Bz (λz=>∃j:Nat,z.1=(j:Int)∧j≤n∧I j z.2) (λz=>n - z.1.toNat) (λs=>I n s) ⟨0,rfl,pO _,c⟩ (λz l=>?_) i;obtain⟨t,m⟩:=z;obtain⟨j,rfl,o,a⟩:=l;rcases Nat.lt_or_eq_of_le o with h | rfl
 ·obtain⟨e,p,s',rfl,q⟩:=d j m h a;exact⟨_,p,.inl ⟨_,rfl,⟨j+1,rfl,h,q⟩,nO⟩⟩
 ·exact⟨_,g _ a,.inr ⟨_,rfl,a⟩⟩
theorem PI{j n:Nat}(a:j<n)(b:n≤1000000):hC .i64 ((j:Int)+(1:Int))=((j+1:Nat):Int):=by rw[w64 nJ nJ];omega
section
variable {p:dtP}{B:List dtK}{E:List (List Edge)}{d:LkD}{tt:Int}{L:L3}
theorem eO(M:MkI p B E d tt)(i:Nat)(t:Int):HT p (BG p B E tt) d (dlB p B i) (i:Int) t=if two (rsL d (dlB p B i) (i:Int) t) (goF p B E (i:Int) t)=true then[((i:Int),t,goF p B E (i:Int) t,rsL d (dlB p B i) (i:Int) t,(Fo p t (goF p B E (i:Int) t) (rsL d (dlB p B i) (i:Int) t)).1,(Fo p t (goF p B E (i:Int) t) (rsL d (dlB p B i) (i:Int) t)).2.1,(Fo p t (goF p B E (i:Int) t) (rsL d (dlB p B i) (i:Int) t)).2.2)] else[]:=by unfold HT;rw[fF M]
theorem eP{rs:nH}{go n:Int}(b:n=if go≥0 then(rs.length:Int)+1 else(rs.length:Int)):decide (n>1)=two rs go:=by
 unfold two;rw[b];by_cases h:go≥0
 ·rw[mZ h];by_cases a:1<rs.length
  ·rw[mW a,mW nJ];rfl
  ·rw[mV a,Bool.false_or,mW (show 0≤go from h),Bool.and_true];exact decide_eq_decide.2 nJ
 ·rw[nA h,mV (show ¬0≤go from h),Bool.and_false,Bool.or_false];exact decide_eq_decide.2 nJ
theorem Ys(M:MkI p B E d tt)(j:Wq p B E L)(k:∀t:Int,0≤lvl p t→lvl p t< (p.2.2.2.2.1.length:Int))(l:p.1.length≤100):BV (gdO p B E L)=some (clA p (BG p B E tt) d B B.length):=by
 have v:=M.all.few;have m:(mkW p (yOf B E)).2.2.2.2.2.2.1.length=B.length:=by simp[yOf]
 refine oQ ?_;unfold BV;dsimp only;rw[m];refine PH (n:=B.length) (λi (z:List Cn)=>z=clA p (BG p B E tt) d B i) nJ rfl (λi z e a=>?_) (λz a=>?_) λz a=>AB a
 ·subst a;have f:=bD e;have o:=Qo p (BG p B E tt) d B i;have g:i *p.1.length≤300 *100:=rF nJ l;refine Ay (mW nO) (PH (n:=p.1.length) (λt (z:List Cn)=>z=clA p (BG p B E tt) d B i++clS p (BG p B E tt) d (dlB p B i) i t) nJ (by simp[clS]) (λt z q a=>?_) (λz a=>?_) λz a=>AB ⟨_,by rw[PI e nJ],by rw[a];rfl⟩)
  ·subst a;have w:=Qn p (BG p B E tt) d (dlB p B i) i t;have r:=UR M f (t:Int);refine Ay (mW nO) (AO (fI M j f (t:Int)) ?_);have s:clS p (BG p B E tt) d (dlB p B i) i (t+1)=clS p (BG p B E tt) d (dlB p B i) i t++HT p (BG p B E tt) d (dlB p B i) (i:Int) (t:Int):=rfl;rw[s,←oN,eO M];obtain⟨go,c⟩:∃go,goF p B E (i:Int) (t:Int)=go:=⟨_,rfl⟩;obtain⟨rs,b⟩:∃rs,rsL d (dlB p B i) (i:Int) (t:Int)=rs:=⟨_,rfl⟩;rw[c,b];rw[b]at r;dsimp only;refine AM (Q:=λn=>n=if go≥0 then(rs.length:Int)+1 else(rs.length:Int)) (AR (λh=>AB ?_) λh=>AB ?_) λn u=>?_
   ·rw[mZ (mX h),w64 nJ nJ]
   ·rw[nA (mY h)]
   ·rw[eP u];refine AM (Q:=λz=>z=clA p (BG p B E tt) d B i++clS p (BG p B E tt) d (dlB p B i) i t++if two rs go=true then[((i:Int),(t:Int),go,rs,(Fo p (t:Int) go rs).1,(Fo p (t:Int) go rs).2.1,(Fo p (t:Int) go rs).2.2)] else[]) (AR (λh=>?_) λh=>AB ?_) λz a=>AB ⟨_,by rw[PI q nJ],a⟩
    ·rw[mZ h];exact AO (cD p (t:Int) go nJ (k (t:Int))) (Az nN (AB rfl))
    ·rw[h,nA nP,pY]
  ·exact oQ (AZ (mV nO) (AB rfl))
 ·exact oQ (AZ (mV nO) (AB rfl))
theorem TH(M:MkI p B E d tt){i:Nat}{b:dtK}(a:B[i]? =some b):∀(n:Nat),∀x∈clS p (BG p B E tt) d (dlB p B i) i n,x.2.2.2.1.length≤10100
 | 0,x,hx=>by cases hx
 |n+1,x,hx=>by
  rcases oV.1 hx with h | h
  ·exact TH M a n x h
  ·unfold HT at h;split at h
   ·rw[oD.1 h];exact UR M a _
   ·cases h
theorem R8(M:MkI p B E d tt):∀(n:Nat),n≤B.length→ ∀x∈clA p (BG p B E tt) d B n,x.2.2.2.1.length≤10100
 | 0,_,x,hx=>by cases hx
 |n+1,hn,x,hx=>by
  rcases oV.1 hx with h | h
  ·exact R8 M n nJ x h
  ·exact TH M (bD (show n<B.length by omega)) _ x h
theorem Yt(M:MkI p B E d tt)(x:Cn)(a:x∈clA p (BG p B E tt) d B B.length):x.2.2.2.1.length≤10100:=R8 M _ (qL _) x a
def SQ(x:Cn):Bool:=x.2.2.2.2.2.2
theorem eQ{g:DU}{l:List Cn}(h:g.2.2.2.2.2.2.2.2=l)(i:l.length≤1000000):CI g=some (!(l.any SQ)):=by
 unfold CI;rw[h];refine oQ (AM (Q:=λc=>c=l.any SQ) ?_ λc b=>AB (by rw[b]));unfold Be;refine AM (Q:=λk=>decide (k≥0)=l.any SQ) ?_ λk d=>AB d;unfold Bj;refine J0 l (λ_ x=>SQ x) (λj _=>(j:Int)) nJ (λj x a=>?_) (λh=>AB ?_) λj x a e _=>AB ?_
 ·rw[CD,a,mE];show(some (SQ x)).bind _=_;rw[mE];cases SQ x<;>rfl
 ·refine Eq.symm (rO.2 λx a=>?_);obtain⟨j,f⟩:=nZ a;rw[h j x f];exact qG
 ·rw[rR.2 ⟨x,bO a,e⟩];exact mW nJ
theorem eR{g:Kh}{l:List Cn}(h:BV g=some l)(d:l.length≤1000000):Cb g=some (!(l.any SQ)):=by
 unfold Cb;refine oQ (AO h (J0 l (λ_ x=>SQ x) (λ_ _=>false) nJ (λj x a=>?_) (λh=>AB ?_) λj x a b _=>AB ?_))
 ·rw[CD,a,mE];show cond (SQ x) _ _=_;cases SQ x<;>rfl
 ·refine nB (!·) (rO.2 λx a=>?_) |>.symm;obtain⟨j,c⟩:=nZ a;rw[h j x c];exact qG
 ·rw[rR.2 ⟨x,bO a,b⟩];rfl
end
def R9(x:EO):Int:=if x.1=3 then 1 else if x.2<0∨x.2>1099511627776 then 0 else if x.1=1 then 2 *x.2+2 else if x.1=2 then 2 *x.2+3 else 0
theorem hQ(x:EO):GD x=some (R9 x):=by
 unfold GD R9;refine oQ (AR (λh=>AB (by rw[mZ (eq_of_beq h)])) λh=>?_);have h:¬x.1=3:=by simpa using h
 rw[nA h];refine AM (Q:=λc=>c=true↔(x.2<0∨x.2>1099511627776)) (AR (λa=>AB ?_) λa=>AB ?_) λc d=>AR (λg=>AB (by rw[mZ (d.1 g)])) λg=>?_
 ·simp at a ⊢;omega
 ·simp at a ⊢;omega
 ·have g:¬(x.2<0∨x.2>1099511627776):=λq=>by rw[d.2 q]at g;cases g
  rw[nA g];refine AR (λe=>AB ?_) λe=>AR (λb=>AB ?_) λb=>AB ?_
  ·rw[mZ (eq_of_beq e),w64 (n:=2 *x.2) nJ nJ,w64 nJ nJ]
  ·rw[nA (by simpa using e),mZ (eq_of_beq b),w64 (n:=2 *x.2) nJ nJ,w64 nJ nJ]
  ·rw[nA (by simpa using e),nA (by simpa using b)]
theorem hU(x:EO):Dq x=some (R9 x):=by
 unfold Dq R9;refine oQ (AR (λh=>AB (by rw[mZ (eq_of_beq h)])) λh=>?_);have h:¬x.1=3:=by simpa using h
 rw[nA h];refine AM (Q:=λc=>c=true↔((x.2<0∨x.2>1099511627776)∨(x.1≠1∧x.1≠2))) (AR (λa=>AB ?_) λa=>AR (λb=>AB ?_) λb=>AR (λe=>AB ?_) λe=>AB ?_) λc d=>AR (λg=>AB ?_) λg=>AB ?_
 ·simp at a ⊢;omega
 ·simp at b ⊢;omega
 ·simp at a b e ⊢;omega
 ·simp at a b e ⊢;omega
 ·rcases d.1 g with q | ⟨q,q'⟩
  ·rw[mZ q]
  ·split<;>first | rfl | rw[nA q,nA q']
 ·have g:¬((x.2<0∨x.2>1099511627776)∨(x.1≠1∧x.1≠2)):=λq=>by rw[d.2 q]at g;cases g
  rw[nA (λq=>g (.inl q)),w64 (n:=2 *x.2) nJ nJ,w64 (n:=2 *x.2+1) nJ nJ,w64 nJ nJ];by_cases e:x.1=1
  ·rw[mZ e];omega
  ·rw[nA e,mZ nJ];omega
section
variable {p:dtP}{B:List dtK}{E:List (List Edge)}{d:LkD}{tt:Int}{L:L3}
noncomputable def Yu(p:dtP)(B:List dtK)(E:List (List Edge))(d:LkD)(tt:Int)(i:Nat):nH:=(oA p.1.length).map λt=>R9 (O7 p (BG p B E tt) d (dlB p B i) (i:Int) ((t:Nat):Int))
noncomputable def Yv(p:dtP)(B:List dtK)(E:List (List Edge))(i:Nat):nH:=(oA p.2.1.length).map λv=>hC .i64 (goF p B E (i:Int) ((p.1.length+v:Nat):Int)+(1:Int))
theorem Mf{α:Type}{n i:Nat}{f:Nat→α}(h:i<n):((oA n).map f)[i]? =some (f i):=by rw[oT,pL h];rfl
theorem Gc{α:Type}(n:Nat)(f:Nat→α):(oA (n+1)).map f=(oA n).map f++ [f n]:=by rw[qC,oW];rfl
theorem hZ{g:DU}(M:MkI p B E d tt)(m:p.1.length≤100)(G:GdT p B E d tt g):Dp g=some ((oA B.length).map λi=>Yu p B E d tt i++Yv p B E i):=by
 have n:=M.all.few;have o:=M.all.vars;obtain⟨f,j,rfl,rfl,rfl⟩:=G;unfold Dp;dsimp only;rw[oF,pR];refine oQ (BK (λi z=>z=(oA i).map λi=>Yu p B E d tt i++Yv p B E i) nJ rfl (λi z h b=>?_) λz b=>AB b);refine AS (Mf h) ?_;rw[oF,pR];refine BK (λt w=>w=(oA t).map λt=>R9 (O7 p (BG p B E tt) d (dlB p B i) (i:Int) ((t:Nat):Int))) nJ rfl (λt w k a=>?_) λw a=>AS (Mf h) ?_
 ·refine AS (Mf k) (AO (hQ _) (Az (by rw[a];simp;omega) (AB ?_)));rw[a,Gc]
 ·rw[oF,pR];have l:w.length=p.1.length:=by rw[a];simp
  refine BK (λv u=>u=w++(oA v).map λv=>hC .i64 (goF p B E (i:Int) ((p.1.length+v:Nat):Int)+(1:Int))) nJ nP (λv u e c=>?_) λu c=>Az (by rw[b];simp;omega) (AB ?_)
  ·refine AS (Mf e) (Az (by rw[c];simp;omega) (AB ?_));rw[c,Gc,oN]
  ·rw[b,Gc,c,a];rfl
theorem iA(M:MkI p B E d tt)(j:Wq p B E L)(k:∀t:Int,0≤lvl p t→lvl p t< (p.2.2.2.2.1.length:Int))(o:p.1.length≤100):Ck (gdO p B E L)=some ((oA B.length).map λi=>Yu p B E d tt i++Yv p B E i):=by
 have q:=M.all.few;have r:=M.all.vars;have l:(mkW p (yOf B E)).2.2.2.2.2.2.1.length=B.length:=by simp[yOf]
 refine oQ ?_;unfold Ck;dsimp only;rw[l];refine PH (n:=B.length) (λi (z:List nH)=>z=(oA i).map λi=>Yu p B E d tt i++Yv p B E i) nJ rfl (λi z g b=>?_) (λz b=>?_) λz b=>AB b
 ·refine Ay (mW nO) (PH (n:=p.1.length) (λt (w:nH)=>w=(oA t).map λt=>R9 (O7 p (BG p B E tt) d (dlB p B i) (i:Int) ((t:Nat):Int))) nJ rfl (λt w h a=>?_) (λw a=>?_) λw a=>?_)
  ·refine Ay (mW nO) (AO (iu M j k _ _) (AO (hU _) (Az (by rw[a];simp;omega) (AB ⟨_,by rw[PI h nJ],?_⟩))));rw[a,Gc];dsimp only;rw[cE g h]
  ·exact oQ (AZ (mV nO) (AB rfl))
  ·have m:w.length=p.1.length:=by rw[a];simp
   refine PH (n:=p.2.1.length) (λv (u:nH)=>u=w++(oA v).map λv=>hC .i64 (goF p B E (i:Int) ((p.1.length+v:Nat):Int)+(1:Int))) nJ nP (λv u f c=>?_) (λu c=>?_) λu c=>Az (by rw[b];simp;omega) (AB ⟨_,by rw[PI g nJ],?_⟩)
   ·have e:hC .i64 ((p.1.length:Int)+(v:Int))=((p.1.length+v:Nat):Int):=by rw[w64 nJ nJ];omega
    refine Ay (mW nO) ?_;dsimp only;rw[e];refine AO (Xk M.all.vp M.all.fin _ _) (Az (by rw[c];simp;omega) (AB ⟨_,by rw[PI f nJ],?_⟩));rw[c,Gc,oN]
   ·exact oQ (AZ (mV nO) (AB rfl))
   ·rw[b,Gc,c,a];rfl
 ·exact oQ (AZ (mV nO) (AB rfl))
theorem eS{i:Nat}:(Yu p B E d tt i++Yv p B E i).length=p.1.length+p.2.1.length:=by unfold Yu Yv;simp
end
theorem fJ(l:nH)(h:l.length≤1000000):C3 l l=some true:=by
 unfold C3;exact oQ (AZ nP (UD l.length nJ (λi b=>by
  have a:=bD b;exact oQ (AS a (AS a (AZ nP (AB rfl))))) (AB rfl)))
theorem iB{l:List nH}(h:l.length≤1000000)(c:∀x∈l,x.length≤1000000):Dc l l=some true:=by
 unfold Dc;exact oQ (AZ nP (UD l.length nJ (λi a=>by
  have b:=bD a;exact oQ (AS b (AS b (AO (fJ _ (c _ (qR a))) (AZ rfl (AB rfl)))))) (AB rfl)))
theorem iC{l:List Cn}(h:l.length≤1000000)(d:∀x∈l,x.2.2.2.1.length≤1000000):Dr l l=some true:=by
 unfold Dr;exact oQ (AZ nP (UD l.length nJ (λi b=>by
  have a:=bD b;exact oQ (AM (Q:=λc=>c=false) (AS a (AS a (AZ nP (AS a (AS a (AZ nP (AS a (AS a (AZ nP (AS a (AS a (AZ nP (AS a (AS a (AZ nP (AS a (AS a (AO (fJ _ (d _ (qR b))) (AB rfl))))))))))))))))))) λc e=>AZ e (AB rfl))) (AB rfl)))
end Go.Proofs.YtfnppeejaimnbaaGreatDoor
namespace Go.Proofs.YtfnppeejaimnbaaGreatDoor
open Go Go.Eng
noncomputable def C9(small_0:PO):Option Bool:=
 (Eu).bind λt2=>
 (Ch (small_0.1,small_0.2.1,small_0.2.2.1,small_0.2.2.2.1,small_0.2.2.2.2.1,small_0.2.2.2.2.2.1,small_0.2.2.2.2.2.2) 9 4).bind λn=>
 cond (!n)
 (some t2)
 ((CU (small_0.1,small_0.2.1,small_0.2.2.1,small_0.2.2.2.1,small_0.2.2.2.2.1,small_0.2.2.2.2.2.1,small_0.2.2.2.2.2.2)).bind λt18=>
  cond (!t18.2.2.2.2.2.2.2.2.2)
  (some t2)
  ((Ec (t18.1,t18.2.1,t18.2.2.1,t18.2.2.2.1,t18.2.2.2.2.1,t18.2.2.2.2.2.1)).bind λt26=>
   (cond (qO t26)
   (some true)
   (t26.bind λo=>
    t18.2.2.2.2.2.2.1.bind λi=>
    (B6 i).bind λp=>
    some (p !=(o.2.2.2.2.2.2.1.2.2.2.2.2.2.1.length:Int)))).bind λq=>
   cond q
   ((cond t2
    (some (qO t26))
    (some false)).bind λr=>
    some r)
   ((loop (σ:=Int) (β:=AX Unit Bool) (-1:Int) λa=>
    t26.bind λc=>
    cond (decide (a≤(c.2.2.2.2.2.2.1.2.2.2.2.2.2.1.length:Int)))
    ((loop (σ:=Int) (β:=AX Unit Bool) (-1:Int) λb=>
     cond (decide (b≤(hC .i64 ((t18.1.length:Int)+(t18.2.1.length:Int)))))
     ((t18.2.2.2.2.2.2.2.2.1.bind λf=>
      (B7 f a b).bind λj=>
      (CS c a b).bind λk=>
      cond (!((j.1==k.1) && ((j.2==k.2) && true)))
      (some true)
      ((Ea f a b).bind λs=>
       (C8 c a b).bind λt=>
       some (s !=t))).bind λu=>
      cond u
      (some (oS (oS false)))
      (some (oP (hC .i64 (b+1)))))
     (some (oS (oP ())))).bind λg=>match g with
     |.next E=>
      some (oP (hC .i64 (a+1)))
     |.done l=>some (oS (oS l)))
    (some (oS (oP ())))).bind λh=>match h with
    |.next F=>
     (cond t2
     (t18.2.2.2.2.2.2.2.2.1.bind λd=>
      (B4 d).bind λv=>
      t26.bind λe=>
      (BV e).bind λw=>
      (Dr v w).bind λx=>
      cond x
      ((CI d).bind λy=>
       (Cb e).bind λz=>
       cond (y==z)
       ((Dp d).bind λA=>
        (Ck e).bind λB=>
        (Dc A B).bind λC=>
        some C)
       (some false))
      (some false))
     (some false)).bind λD=>
     some D
    |.done m=>some m)))
theorem G6{φ:AD}{h:AH}{F:List Chk}{v:Int×Int×Slc×Slc×Slc×Slc×Slc×Unit}{X:nH}{Y:List nH}{Z:nH}{a7:nH}{a8:nH}(gk:QK φ)(a9:hM (oG .u8) φ v.2.2.1 X)(ad:hM (oB (oG .u8)) φ v.2.2.2.1 Y)(al:hM (oG .u8) φ v.2.2.2.2.1 Z)(ap:hM (oG .u8) φ v.2.2.2.2.2.1 a7)(ax:hM (oG .u8) φ v.2.2.2.2.2.2.1 a8)(s0:St φ F h){r:Bool}(hd:C9 (v.1,v.2.1,X,Y,Z,a7,a8)=some r):
 nX oO 3 [.agg #[.int .u8 v.1,.int .u8 v.2.1,sv v.2.2.1,sv v.2.2.2.1,sv v.2.2.2.2.1,sv v.2.2.2.2.2.1,sv v.2.2.2.2.2.2.1]] h (An (mM φ r F)):=by
 refine AT mixed func3 (Gz ..)<|AU (vs:=[.int .u8 v.1,.int .u8 v.2.1,sv v.2.2.1,sv v.2.2.2.1,sv v.2.2.2.2.1,sv v.2.2.2.2.2.1,sv v.2.2.2.2.2.2.1]) s0 λr1 g6 bj=>?_;have⟨g7,bl,hd⟩:=bS hd;refine AK (KQ gk bj bl) ?_;rintro _ g8 ⟨g9,t2,gc,rfl,rfl,i⟩;refine⟨t2,rfl,AA i rfl<|AA i rfl<|AA i rfl<|AA i rfl<|AA i rfl<|AA i rfl<|AA i rfl ?_⟩;have⟨gd,bn,hd⟩:=bS hd;refine AK (Ho (s_0:=(v.1,v.2.1,v.2.2.1,v.2.2.2.1,v.2.2.2.2.1,v.2.2.2.2.2.1,v.2.2.2.2.2.2.1,())) a9.up ad.up al.up ap.up ax.up i bn) ?_;rintro _ gf ⟨bp,C,gg,rfl,rfl,f⟩;refine⟨C,rfl,mP hd rfl (λhd=>?_) (λhd=>?_)⟩
 ·exact AC ⟨bp,t2,sb,rfl,iS hd,f.tail⟩
 refine AA f rfl<|AA f rfl<|AA f rfl<|AA f rfl<|AA f rfl<|AA f rfl<|AA f rfl ?_;have⟨gi,bq,hd⟩:=bS hd;refine AK (EQ (A:=(v.1,v.2.1,v.2.2.1,v.2.2.2.1,v.2.2.2.2.1,v.2.2.2.2.2.1,v.2.2.2.2.2.2.1,())) (gk.mono sb) a9.up ad.up al.up ap.up ax.up f bq) ?_;rintro _ gj ⟨bs,x,bt,bx,bz,c0,c1,c2,gl,j,gn,go,rfl,rfl,b0,b1,c3,c4,c5,c6,c7,b2,c8⟩;refine⟨x,rfl,?_⟩;have c9:=b0.length;have ch:=b1.length;refine AU (vs:=[.slice none 0 0,.slice none 0 0,.slice none 0 0,.slice none 0 0,.slice none 0 0,.slice none 0 0]) c8 λA gp cl=>AQ cl rfl rfl λgr cm=>AQ cm rfl rfl λgs cp=>AQ cp rfl rfl λgv cs=>AQ cs rfl rfl λgw cw=>AQ cw rfl rfl λgx cx=>AQ cx rfl rfl λh0 k=>mP hd rfl (λhd=>?_) (λhd=>?_)
 ·exact AC ⟨bs,t2,sb,rfl,iS hd,k.tail.tail.tail⟩
 refine AA k rfl<|AA k rfl<|AA k rfl<|AA k rfl<|AA k rfl<|AA k rfl ?_;have⟨h1,d0,hd⟩:=bS hd;refine AK (NN (p_0:=(x.1.1,x.1.2.1,x.1.2.2.1,x.1.2.2.2.1,x.1.2.2.2.2.1,x.1.2.2.2.2.2.1,())) (d_p_0:=(bt,bx,bz,c0,c1,c2)) ⟨b0,b1,c3,c4,c5,c6⟩ k d0) ?_;rintro _ h2 ⟨t,D,h3,h4,rfl,rfl,o,p⟩;refine⟨D,rfl,?_⟩;have b3:=o.nil;have⟨d1,c,hd⟩:=bS hd;refine AY (λy B g=>∃ψ:AD,Sub t ψ∧y.1=g∧St ψ (cW 32 A [sv x.1.1,sv x.1.2.1,sv x.1.2.2.1,sv x.1.2.2.2.1,sv x.1.2.2.2.2.1,sv x.1.2.2.2.2.2.1]::⟨DB,[.pointer x.2.2.1],j⟩::Wq0 r1 v::F) B) (g:=d1) ?_ ?_
 ·refine mP c (by rw[b3] <;>rfl) (λc=>?_) (λc=>?_)
  ·have d2:=p.at2;exact lG rfl ⟨t,sb,iS c,d2.at2.at2⟩
  have⟨h5,d3,c⟩:=bS c;obtain⟨h6,h7,d4,⟨_,_,rfl,⟨h8,rfl,h9⟩,_,_,rfl,⟨hb,rfl,hc⟩,_,_,rfl,⟨he,rfl,hf⟩,_,_,rfl,⟨hg,rfl,hh⟩,_,_,rfl,⟨hi,rfl,hj⟩,_,_,rfl,⟨hk,rfl,hl⟩,_,_,rfl,⟨d5,rfl,d6⟩,⟨hm,rfl,hn⟩⟩,b4⟩:=id ((o).get d3);refine AI _ d4<|AF (AG (oL sb p.sub) (b4.at 6 rfl)) rfl ?_;obtain⟨ho,hp,d7,⟨_,_,rfl,⟨hq,rfl,hr⟩,_,_,rfl,⟨hs,rfl,ht⟩,_,_,rfl,⟨hu,rfl,hv⟩,_,_,rfl,⟨hw,rfl,hx⟩,_,_,rfl,⟨hy,rfl,hz⟩,_,_,rfl,⟨i0,rfl,i1⟩,_,_,rfl,⟨b5,rfl,d8⟩,_,_,rfl,⟨i2,rfl,i3⟩,_,_,rfl,⟨i4,rfl,i5⟩,_,_,rfl,⟨i6,rfl,i7⟩,_,_,rfl,⟨i8,rfl,i9⟩,rfl⟩,b6⟩:=id d6;have d9:=d8.length;refine AI _ d7<|AF (AG (oL sb p.sub) (b6.at 6 rfl)) rfl ?_;have⟨ih,dd,c⟩:=bS c;have⟨ir,dk,c⟩:=bS c;refine AK (Cz (((c7.up (ψ:=t))).get dd) p dk) ?_;rintro _ it ⟨dl,E,ix,rfl,rfl,u⟩;refine⟨E,rfl,AP (AG (oL sb u.sub) (b6.at 6 rfl))<|AP (AG (oL sb u.sub) (b4.at 6 rfl)) ?_⟩;have dm:=u.at2.at2.at2;obtain rfl:=iS c;exact lG rfl ⟨dl,sb,(by rw[d9]),dm⟩
 rintro l0 j0 ⟨l,j1,rfl,w⟩;refine mP hd rfl (λhd=>?_) (λhd=>?_)
 ·have⟨dn,m,hd⟩:=bS hd;refine AY (λy B g=>∃ψ:AD,Sub l ψ∧y.1=g∧St ψ (cW 32 A [sv x.1.1,sv x.1.2.1,sv x.1.2.2.1,sv x.1.2.2.2.1,sv x.1.2.2.2.2.1,sv x.1.2.2.2.2.2.1]::⟨DB,[.pointer x.2.2.1],j⟩::Wq0 r1 v::F) B) (g:=dn) ?_ ?_
  ·refine mP m rfl (λm=>?_) (λm=>?_)
   ·have dp:=w.at2;have ds:=dp.at2.at2;obtain rfl:=iS m;exact lG rfl ⟨l,sb,(by rw[b3]),ds⟩
   exact lG rfl ⟨l,sb,iS m,w.at2.at2.at2⟩
  rintro G j2 ⟨dx,j3,rfl,dy⟩;exact AC ⟨dx,G.1,sb,rfl,iS hd,dy.tail.tail.tail⟩
 have⟨e0,e1,hd⟩:=bS hd;refine Af (λy B g=>∃ψ:AD,Sub l ψ∧oP ()=g∧St ψ (cW 32 A [sv x.1.1,sv x.1.2.1,sv x.1.2.2.1,sv x.1.2.2.2.1,sv x.1.2.2.2.2.1,sv x.1.2.2.2.2.2.1]::⟨DB,[.pointer x.2.2.1],j⟩::Wq0 r1 v::F) B) (g:=e0) ?_ ?_
 ·refine Bx e1 (λy B g=>∃ψ:AD,Sub l ψ∧y.1=g∧St ψ (cW 32 A [sv x.1.1,sv x.1.2.1,sv x.1.2.2.1,sv x.1.2.2.2.1,sv x.1.2.2.2.2.1,sv x.1.2.2.2.2.2.1]::⟨DB,[.pointer x.2.2.1],j⟩::Wq0 r1 v::F) B) rfl ⟨l,sb,rfl,w.at2.at2.at2⟩ ?_
  ·rintro l1 j4 _ _ ⟨n,j5,rfl,q⟩ e b7;have⟨j6,e2,e⟩:=bS e;have z:=((o.up (ψ:=n))).get e2;refine pfR Nh z q λj7 e3=>pfR Td e3 q λj8 e4=>?_;have e5:=e4.length;refine mP e (by rw[e5] <;>rfl) (λe=>?_) (λe=>?_)
   ·have e6:=q.at2;have⟨e7,e8,e⟩:=bS e;refine Af (λy B g=>∃ψ:AD,Sub n ψ∧oP ()=g∧St ψ (cW 32 A [sv x.1.1,sv x.1.2.1,sv x.1.2.2.1,sv x.1.2.2.2.1,sv x.1.2.2.2.2.1,sv x.1.2.2.2.2.2.1]::⟨DB,[.pointer x.2.2.1],j⟩::Wq0 r1 v::F) B) (g:=e7) ?_ ?_
    ·refine Bx e8 (λy B g=>∃ψ:AD,Sub n ψ∧y.1=g∧St ψ (cW 32 A [sv x.1.1,sv x.1.2.1,sv x.1.2.2.1,sv x.1.2.2.2.1,sv x.1.2.2.2.2.1,sv x.1.2.2.2.2.2.1]::⟨DB,[.pointer x.2.2.1],j⟩::Wq0 r1 v::F) B) rfl ⟨n,sb,rfl,e6.at2.at2⟩ ?_
     ·rintro l2 j9 _ _ ⟨a0,ja,rfl,s⟩ d b8;refine AA s rfl<|AA s rfl<|mP d (by rw[c9,ch] <;>rfl) (λd=>?_) (λd=>?_)
      ·have⟨e9,b,d⟩:=bS d;refine AY (λy B g=>∃ψ:AD,Sub a0 ψ∧y.1=g∧St ψ (cW 32 A [sv x.1.1,sv x.1.2.1,sv x.1.2.2.1,sv x.1.2.2.2.1,sv x.1.2.2.2.2.1,sv x.1.2.2.2.2.2.1]::⟨DB,[.pointer x.2.2.1],j⟩::Wq0 r1 v::F) B) (g:=e9) ?_ ?_
       ·have⟨jb,ea,b⟩:=bS b;have b9:=((b2.up (ψ:=a0))).get ea;have⟨jc,ed,b⟩:=bS b;refine AK (FC b9 s ed) ?_;rintro _ jd ⟨je,H,jf,rfl,rfl,ee⟩;refine⟨H,rfl,?_⟩;have⟨jg,ef,b⟩:=bS b;refine AK (FP z.up ee ef) ?_;rintro _ jh ⟨eg,I,ji,rfl,rfl,ba⟩;refine⟨I,rfl,mP b rfl (λb=>?_) (λb=>?_)⟩
        ·have el:=ba.at2;exact lG rfl ⟨eg,sb,iS b,el.at2.at2⟩
        have⟨jj,em,b⟩:=bS b;refine AK (NF b9.up ba em) ?_;rintro _ jk ⟨jl,J,jm,rfl,rfl,en⟩;refine⟨J,rfl,?_⟩;have⟨jn,eo,b⟩:=bS b;refine AK (JB z.up en eo) ?_;rintro _ jo ⟨er,K,jp,rfl,rfl,es⟩;exact⟨K,rfl,lG rfl ⟨er,sb,iS b,es.at2.at2.at2⟩⟩
       rintro l3 jq ⟨bb,jr,rfl,bd⟩;refine mP d rfl (λd=>?_) (λd=>?_)
       ·obtain rfl:=iS d;obtain rfl:=b8 _ rfl;obtain rfl:=iS e;obtain rfl:=b7 _ rfl;obtain rfl:=iS hd;exact Ak (Ah (Ak (Ah (AC ⟨bb,false,sb,rfl,rfl,bd.tail.tail.tail⟩))))
       obtain rfl:=iS d;exact lH rfl rfl ⟨bb,sb,rfl,bd.at2.at2.at2⟩
      obtain rfl:=iS d;obtain rfl:=b8 _ rfl;exact AJ (lI rfl ⟨a0,sb,rfl,s.at2.at2.at2⟩)
    rintro l4 js ⟨ev,jt,rfl,ew⟩;obtain rfl:=iS e;exact lH rfl rfl ⟨ev,sb,rfl,ew.at2.at2.at2⟩
   obtain rfl:=iS e;obtain rfl:=b7 _ rfl;exact AJ (lI rfl ⟨n,sb,rfl,q.at2.at2.at2⟩)
 rintro l5 ju ⟨L,jv,rfl,bf⟩;have⟨ex,a,hd⟩:=bS hd;refine AY (λy B g=>∃ψ:AD,Sub L ψ∧y.1=g∧St ψ (cW 32 A [sv x.1.1,sv x.1.2.1,sv x.1.2.2.1,sv x.1.2.2.2.1,sv x.1.2.2.2.2.1,sv x.1.2.2.2.2.2.1]::⟨DB,[.pointer x.2.2.1],j⟩::Wq0 r1 v::F) B) (g:=ex) ?_ ?_
 ·refine mP a rfl (λa=>?_) (λa=>?_)
  ·have⟨jw,ez,a⟩:=bS a;have M:=((b2.up (ψ:=L))).get ez;have⟨jx,f0,a⟩:=bS a;refine AK (Dj M bf f0) ?_;rintro _ jy ⟨f1,N,jz,k0,rfl,rfl,f2,f3⟩;refine⟨N,rfl,?_⟩;have⟨k1,f4,a⟩:=bS a;have O:=((o.up (ψ:=f1))).get f4;have⟨k2,f5,a⟩:=bS a;refine AK (D3 O f3 f5) ?_;rintro _ k3 ⟨k4,P,k5,k6,rfl,rfl,f6,f7⟩;refine⟨P,rfl,?_⟩;have⟨k7,f8,a⟩:=bS a;refine AK (LK f2.up f6 f7 f8) ?_;rintro _ k8 ⟨f9,Q,k9,rfl,rfl,bg⟩;refine⟨Q,rfl,mP a rfl (λa=>?_) (λa=>?_)⟩
   ·have⟨ka,fa,a⟩:=bS a;refine AK (EA M.up bg fa) ?_;rintro _ kb ⟨kc,R,kd,rfl,rfl,fd⟩;refine⟨R,rfl,?_⟩;have⟨ke,fl,a⟩:=bS a;refine AK (HZ O.up fd fl) ?_;rintro _ kf ⟨fn,S,kg,rfl,rfl,bi⟩;refine⟨S,rfl,mP a rfl (λa=>?_) (λa=>?_)⟩
    ·have⟨kh,fo,a⟩:=bS a;refine AK (LC M.up bi fo) ?_;rintro _ ki ⟨kj,T,kk,kl,rfl,rfl,fr,fs⟩;refine⟨T,rfl,?_⟩;have⟨km,fv,a⟩:=bS a;refine AK (IB O.up fs fv) ?_;rintro _ kn ⟨ko,U,kp,kq,rfl,rfl,fz,g0⟩;refine⟨U,rfl,?_⟩;have⟨kr,g1,a⟩:=bS a;refine AK (KP fr.up fz g0 g1) ?_;rintro _ ks ⟨g2,V,kt,rfl,rfl,g3⟩;exact⟨V,rfl,lG rfl ⟨g2,sb,iS a,g3.at2.at2.at2⟩⟩
    exact lG rfl ⟨fn,sb,iS a,bi.at2.at2.at2⟩
   exact lG rfl ⟨f9,sb,iS a,bg.at2.at2.at2⟩
  exact lG rfl ⟨L,sb,iS a,bf.at2.at2.at2⟩
 rintro W ku ⟨g4,kv,rfl,g5⟩;exact AC ⟨g4,W.1,sb,rfl,iS hd,g5.tail.tail.tail⟩
end Go.Proofs.YtfnppeejaimnbaaGreatDoor
namespace Go.Proofs.YtfnppeejaimnbaaGreatDoor
open Go Go.Eng Dg
theorem eT{p:dtP}{nt g n:Nat}{d:LkD}{tt:Int}(c:Pl nt g p)(f:(stM p n).1.length≤n)(h:Fit (held 300) (held 9000) (stM p n).1)(M:MkI p (stM p n).1 (stM p n).2 d tt):
 Ok (Ec p) λm=>m=none∨ ∃L,m=some (gdO p (stM p n).1 (stM p n).2 L)∧Wq p (stM p n).1 (stM p n).2 L:=by
 have l:=M.all.few;obtain⟨st,i⟩:=M.all.zero;unfold Ec;refine AM (Ym M.all.vp (gh c) c.pos 300 9000) λro b=>?_;rcases b with⟨a,j,o,rfl⟩|⟨rfl,a,hn⟩
 ·have e:stM p a=stM p n:=by
   rcases Nat.le_total n a with q | q
   ·exact WT f q
   ·exact(WT j q).symm
  rw[e];refine AZ rfl (AO rfl (AM (eI M.all.vp M.all.fin M.all.sy M.all.gr nJ i 60 nJ) λm k=>?_));rcases k with rfl | ⟨L,rfl,hL⟩
  ·exact Ay rfl (AB (.inl rfl))
  ·exact AZ rfl (AO rfl (AB (.inr ⟨L,rfl,hL⟩)))
 ·exact(hn (eG f h a)).elim
theorem TI{f:Int→Option (AX Int (AX Unit Bool))}{n:Nat}{γ:Type}{P:γ→Prop}{k:AX Unit Bool→Option γ}(g:n≤1000000)(b:∀z:Int, -1≤z→z≤(n:Int)→f z=some (.next (z+1)))(a:f ((n:Int)+1)=some (.done (.next ())))(c:Ok (k (.next ())) P):Ok ((loop (-1:Int) f).bind k) P:=by
 refine Bz (λz=> -1≤z∧z≤(n:Int)+1) (λz=>(n+1 - z).toNat) (λe=>e= .next ()) ⟨nJ,nJ⟩ (λz d=>?_) λe a=>by rw[a];exact c
 by_cases h:z≤(n:Int)
 ·rw[b z d.1 h];exact Bd ⟨⟨nJ,nJ⟩,nJ⟩
 ·obtain rfl:z=(n:Int)+1:=nJ
  rw[a];exact BB rfl
theorem P4{s:PO}(G:SmG s):C9 s=some true:=by
 refine oQ ?_;unfold C9;refine AO We (AM (fe G 9 4) λb H=>AR (λ_=>AB rfl) λq=>?_);have F:=H (by simpa using q);have I:SmF 12 5 s:=⟨by have:=F.lefts;omega,F.assocs,λl J=>by have:=F.rights l J;omega⟩;refine AM (cC G I) λr K=>AR (λ_=>AB rfl) λh=>?_;rcases K with h' | ⟨h',p,n,d,tt,nt,nl,g,t,N,O,hp,P,R,M,hg⟩
 ·rw[h']at h;cases h
 have S:r.1=p.1:=by rw[←t]
 have T:r.2.1=p.2.1:=by rw[←t]
 rw[t,N,O,S,T];refine AM (eT hp P R M) λm C=>?_;have Y:=hp.terms.len;have Z:=hp.nt5;have f:p.1.length≤100:=nJ
 have u:=bM hp;obtain⟨B,j⟩:∃B,(stM p n).1=B:=⟨_,rfl⟩;obtain⟨E,k⟩:∃E,(stM p n).2=E:=⟨_,rfl⟩;rw[j,k]at M hg C;rw[j,k];have hf:=M.all.few;have hv:=M.all.vars;have v:(mkW p (yOf B E)).2.2.2.2.2.2.1.length=B.length:=by simp[yOf]
 rcases C with rfl | ⟨L,rfl,hL⟩
 ·exact AM (Q:=λc=>c=true) (Ay rfl (AB rfl)) λc a=>Ay a (AM (Q:=λz=>z=true) (Ay rfl (AB rfl)) λz U=>AB U)
 refine AM (Q:=λc=>c=false) (AZ rfl (AO rfl (AO rfl (AO (RU M.all.fin) (AB ?_))))) λc a=>AZ a ?_
 ·dsimp only;rw[v];simp
 have e:hC .i64 ((p.1.length:Int)+(p.2.1.length:Int))=((p.1.length+p.2.1.length:Nat):Int):=by rw[w64 nJ nJ];omega
 rw[e];have V:=Qo p (BG p B E tt) d B B.length;have D:B.length *p.1.length≤300 *100:=rF nJ f;have o:∀x∈clA p (BG p B E tt) d B B.length,x.2.2.2.1.length≤1000000:=λx w=>by
  have:=Yt M x w
  omega
 refine TI (n:=B.length) nJ (λz z0 W=>?_) ?_ ?_
 ·refine oQ (AO rfl (Ay (mW (by dsimp only;rw[v];exact W)) (TI (n:=p.1.length+p.2.1.length) nJ (λy y0 X=>?_) ?_ (AB (by rw[w64 nJ nJ])))))
  ·exact oQ (Ay (mW X) (AM (Q:=λc=>c=false) (AO rfl (AO (jJ hg z y) (AO (iu M hL u z y) (AZ nP (AO (jK M f hg ⟨nJ,nJ⟩) (AO (jL M f) (AB nP))))))) λc a=>AZ a (AB (by rw[w64 nJ nJ]))))
  ·exact oQ (AZ (mV nJ) (AB rfl))
 ·exact oQ (AO rfl (AZ (mV (by dsimp only;rw[v];omega)) (AB rfl)))
 ·have a:=Ys M hL u f;refine AM (Q:=λc=>c=true) (Ay rfl (AO rfl (AO (Wf hg.gd nJ o) (AO rfl (AO a (AO (iC nJ o) (Ay rfl ?_))))))) λc a=>AB a;have A:g.2.2.2.2.2.2.2.2=clA p (BG p B E tt) d B B.length:=by obtain⟨_,_,rfl,_⟩:=hg;rfl
  refine AO (eQ A nJ) (AO (eR a nJ) (Ay nP (AO (hZ M f hg) (AO (iA M hL u f) (AO (iB nN λx w=>?_) (AB rfl))))));obtain⟨i,_,rfl⟩:=qV.1 w;rw[eS];omega
end Go.Proofs.YtfnppeejaimnbaaGreatDoor
namespace Go.Proofs.YtfnppeejaimnbaaGreatDoor
open Go Go.Eng
section
variable {h:AH}
theorem resolveTells{n:Nat}{cs:List Value}(a:QK (Bo h))(b:HC oO h n 25 cs):nX oO 3 [.agg cs.toArray] h (An (Zj h)):=by obtain⟨s,d2,d3,d4,d5,i,rfl,c,d,e,f,g,G⟩:=Z3 b;exact Zk (G6 (v:=s) a c d e f g (St.start h) (P4 G))
end
end Go.Proofs.YtfnppeejaimnbaaGreatDoor
