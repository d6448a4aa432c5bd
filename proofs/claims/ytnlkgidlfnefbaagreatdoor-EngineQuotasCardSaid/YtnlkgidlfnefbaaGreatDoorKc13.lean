/- The parts FirstU to LookH, put together. Conditions: each tells its own. -/
import Derived.Test.YtnlkgidlfnefbaaGreatDoorKc12
import Derived.Test.YtnlkgidlfnefbaaGreatDoorKc5
import Derived.Test.YtnlkgidlfnefbaaGreatDoorKc10
import Derived.Test.YtnlkgidlfnefbaaGreatDoorKc9
import Derived.KernelRfl
set_option linter.unusedVariables false
set_option maxRecDepth 100000
set_option maxHeartbeats 4000000
open List.Perm renaming cons → bD,append_right → hA,swap → kG,append_left → lA
open List renaming perm_middle → bO,append_assoc → kF,length → kH,getElem?_append_left → kK,getElem?_eq_some_iff → kL,getElem?_eq_getElem → kT,length_append → kX,replicate → kZ,perm_append_comm → lB,getElem?_drop → lL
open Go.Proofs.Tryz renaming prog → eE,underlying134 → kY,underlying3 → lC,underlying133 → lF,underlying135 → lM
open Go.Eng.Ro renaming SliceIs → hC,int → hM,list → kV,pt → lG,bool → lH,slc → lP
open Go.Eng.Sub renaming refl → kI,trans → lI
open Go.IntKind renaming wrap → kJ
open Go.Eng.St renaming freezeRow → kO,cells → kW,blk → lJ,nil → lO
open Int renaming not_lt → kQ,toNat → lR
open Go.Eng.T renaming load → kU,call → lN,out → lQ,sem → lU
open Nat renaming zero_add → lD
open Go.Eng.Rep renaming raw → lK
open Go.Eng.AY renaming next → lS,done → lT
open Go renaming Value → lV,Addr → lW
open Go.Proofs.Tryz
namespace Go.Proofs.YtnlkgidlfnefbaaGreatDoor
open Go Go.Eng Dg
section
variable {φ ψ:AD}{h:AH}{F:List Chk}{t:Slc×Slc×Slc×Slc×Slc×Slc×Unit}{p:dtP}
theorem St.drop:∀(L:List Chk) {M:List Chk}{φ:AD}{h:AH},St φ (L++M) h→St φ M h
 | [],_,_,_,H=>H
 |_::L,_,_,_,H=>St.drop L H.tail
theorem LS {b:Nat}{K:Slc→Slc→Slc→Slc→Slc→Slc→T}{P:Bs→AH→Prop}(a:∀j v,(plV t)[j]? =some v→BJ h ⟨b,j,none⟩=some v) (H:(K t.1 t.2.1 t.2.2.1 t.2.2.2.1 t.2.2.2.2.1 t.2.2.2.2.2.1).wp eE P h):
 (kU .slice ⟨b,0,none⟩ λ(t3:Slc)=>kU .slice ⟨b,1,none⟩ λ(t4:Slc)=>kU .slice ⟨b,2,none⟩ λ(t5:Slc)=>kU .slice ⟨b,3,none⟩ λ(t6:Slc)=>kU .slice ⟨b,4,none⟩ λ(t7:Slc)=>kU .slice ⟨b,5,none⟩ λ(t8:Slc)=>K t3 t4 t5 t6 t7 t8).wp eE P h:=by refine AL (x:=t.1) (a 0 _ rfl) rfl<|AL (x:=t.2.1) (a 1 _ rfl) rfl<|AL (x:=t.2.2.1) (a 2 _ rfl) rfl<|AL (x:=t.2.2.2.1) (a 3 _ rfl) rfl<|AL (x:=t.2.2.2.2.1) (a 4 _ rfl) rfl<|AL (x:=t.2.2.2.2.2.1) (a 5 _ rfl) rfl H
theorem Ix (k:PlK φ t p) (D:St φ F h) {r:List Aa}(hd:PI p=some r):
 CallsH eE 104 [.agg #[sv t.1,sv t.2.1,sv t.2.2.1,sv t.2.2.2.1,sv t.2.2.2.2.1,sv t.2.2.2.2.2.1]] h
  (Ae λv E=>∃(ψ:AD) (y:Slc) (ps:List (Option lW)),Sub φ ψ∧v=((.one aS):Sh).val y∧ps.length=r.length∧St ψ (FW y ps::(AV ps r++F)) E):=by
 refine BF mixed func104 ?_;rw[P1];unfold My;unfold PI at hd;refine AU (vs:=plV t) D ?_;intro L M s1;have⟨A,d,B,s1⟩:=lJ s1;refine AL (x:=t.2.1) (AM s1.sub (B.at 1 rfl)) rfl ?_;have C:t.2.1.2.1=p.2.1.length:=k.k1.length;have G:t.1.2.1=p.1.length:=k.k0.length;refine Av (λ(z:Int×Slc×Unit) w g=>∃(ψ:AD) (ps:List (Option lW)),Sub φ ψ∧ps.length=g.length∧St ψ (FW z.2.1 ps::(AV ps g++F)) w) (g:=r) ?_ ?_
 ·refine Cp hd (λi (z:Int×Slc×Unit) w g=>z.1=i∧ ∃(ψ:AD) (ps:List (Option lW)),Sub A ψ∧ps.length=g.length∧St ψ (FW z.2.1 ps::(AV ps g++F)) w) ((0:Int),((none,0,0):Slc),()) rfl ⟨rfl,A,[],kI _,rfl,lO _ _ s1⟩ ?_ ?_
  ·rintro i z w g e ⟨f,ψ,ps,le,b,st⟩ j N hlt hw;subst f;refine Ai (by rw[C];exact decide_eq_true hlt) ?_;have⟨s,l,j⟩:=bS j;refine AL (x:=t.1) (AM st.sub ((B.mono le).at 0 rfl)) rfl ?_;rw[G];refine AE (ER st l) ?_;rintro _ I ⟨J,q,O,m,rfl,rfl,n⟩;refine⟨q,rfl,?_⟩;refine AU (vs:=[.pointer q]) n ?_;intro P Q c;have K:=kW c;obtain⟨o,rfl⟩:=OK j b q;refine AZ (r:=lG) (ms:=[q]) SK (c.tail.at1) rfl K (.cons (a:=[_]) rfl .nil) rfl o ?_;intro t7 R u;exact jZ rfl rfl ⟨hw,J,ps++ [q],le.trans m,by simp[b],Qw b u⟩
  ·rintro i z w ⟨f,ψ,ps,le,H⟩ hge;subst f;refine AW (by rw[C];exact decide_eq_false (kQ.2 hge))<|AO (kB rfl ⟨ψ,ps,d.trans le,H⟩)
 ·rintro z I ⟨ψ,ps,le,b,st⟩;exact AB ⟨ψ,z.2.1,ps,le,rfl,b,st⟩
theorem ST (O:Dg.Glob φ) {l:Slc}{k b:List (Option lW)}{ss c:List Aa}{off:Nat}(M:hC lG φ l k) (P:∀(i:Nat) q,k[i]? =some q→b[off+i]? =some q) (p:∀(i:Nat) s,c[i]? =some s→ss[off+i]? =some s) (Q:k.length=c.length) (R:St φ (AV b ss++F) h) {r:List (List Int)}(hd:LL c=some r):
 CallsH eE 108 [sv l] h (Ae λv S=>∃(ψ:AD) (y:Slc),Sub φ ψ∧v=((.one aS):Sh).val y∧hC (kV (hM .i64)) ψ y r∧St ψ (AV b ss++F) S):=by
 refine BF mixed func108 ?_;rw[P2];unfold Mz;unfold LL at hd;have N:l.2.1=c.length:=M.length.trans Q;refine Av (λ(z:Int×Slc×Unit) w (g:List (List Int))=>∃(ψ:AD),Sub φ ψ∧St ψ (WB z.2.1 g::(AV b ss++F)) w) (g:=r) ?_ ?_
 ·refine Cp hd (λi (z:Int×Slc×Unit) w (g:List (List Int))=>z.1=i∧ ∃(ψ:AD),Sub φ ψ∧St ψ (WB z.2.1 g::(AV b ss++F)) w) ((0:Int),((none,0,0):Slc),()) rfl ⟨rfl,φ,kI _,lO _ _ R⟩ ?_ ?_
  ·rintro i z w g e ⟨t,ψ,le,st⟩ m h0 hlt u;subst t;refine Ai (by rw[N];exact decide_eq_true hlt) ?_;have⟨s,T,m⟩:=bS m;have⟨U,A,m⟩:=bS m;have⟨V,i1,W⟩:=CU T;have d:z.1.toNat<k.length:=by omega
   have X:=kT d;obtain⟨A1,Y,B,C,Z,D⟩:=(M.mono le).get (JM V d);refine AF _ B (Am C ?_);obtain rfl:=Z;refine AL (x:=k[z.1.toNat]) (AM st.sub (D 0 _ rfl)) rfl ?_;have E:St ψ (AV b ss++(WB z.2.1 g::F)) w:=st.perm (bO (l₁:=AV b ss)).symm;have⟨rr,q1,q2⟩:=Hf (P _ _ X) (p _ _ W) E;refine AE (OL (O.mono le) q1 A) ?_;rintro _ G ⟨n,y,f,rfl,I,j⟩;refine⟨y,rfl,?_⟩;have J:=q2 n G [] j;have K:St n (WB z.2.1 g::(AV b ss++F)) G:=J.perm (bO (l₁:=AV b ss));refine AU (vs:=[sv y]) K ?_;intro r6 h3 o;have cw:=kW o;refine AZ (r:=kV (hM .i64)) (ms:=[U]) XB o.tail rfl cw (.cons (a:=[_]) ⟨y,rfl,I⟩ .nil) rfl m ?_;intro t7 h4 L;exact jZ rfl rfl ⟨u,n,le.trans f,L⟩
  ·rintro i z w ⟨t,H⟩ hge;subst t;refine AW (by rw[N];exact decide_eq_false (kQ.2 hge))<|AO (kB rfl H)
 ·rintro z G ⟨ψ,le,st⟩;obtain⟨n,f,I,j⟩:=st.freezeRow;exact AB ⟨n,z.2.1,le.trans f,rfl,I,j⟩
end
abbrev WR (φ:AD) (F:List Chk) (r:dtF):lV→AH→Prop:=λv a=>∃(ψ:AD) (y:Slc×Slc×Slc×Int×Unit),Sub φ ψ∧v=((.one (.agg [.slice,.slice,.slice,.int .i64])):Sh).val y∧
 hC lH ψ y.1 r.1∧hC (kV (hM .i64)) ψ y.2.1 r.2.1∧hC (kV (hM .i64)) ψ y.2.2.1 r.2.2.1∧y.2.2.2.1=r.2.2.2∧St ψ F a
noncomputable def L0 (p:dtP) (m:Nat) (null:List Bool) (ss:List Aa):Option dtF:=(loop (σ:=Int×List Bool×List Aa) (β:=Int×List Bool×List Aa) (1,null,ss) λz=>(RA p ((m:Nat):Int) z.2.1 z.2.2).bind λr=>cond r.1 (some (.next (kJ .i64 (z.1+1),r.2))) (some (.done (z.1,r.2)))).bind λz=>(idx (z.2.2.drop m) (p.2.1.length:Int)).bind λs=>(Aw s 0).bind λa=>(loop (σ:=List Aa) (β:=List Aa) (z.2.2.set (m+p.2.1.length) a.2) λss=>(OR p ((m:Nat):Int) z.2.1 ss).bind λr=>cond r.1 (some (.next r.2)) (some (.done r.2))).bind λss=>(LL (ss.take m)).bind λa=>(LL (ss.drop m)).bind λb=>some (z.2.1,a,b,z.1)
section
variable {φ φ0 ψ:AD}{h:AH}{F:List Chk}{t:Slc×Slc×Slc×Slc×Slc×Slc×Unit}{n f g:Slc}{p:dtP}{ps qs:List (Option lW)}
theorem dE (W:Dg.Glob φ) (a0:Sub φ0 φ) {r1 A M:Nat}(cB:DC φ (jX r1) (plV t)) (K:FsK φ ⟨M,0,none⟩ t n f g p ps qs) (a3:qs.length=ps.length) {null:List Bool}{ss:List Aa}(X:(ps++qs).length=ss.length) {r:dtF}(hd:L0 p ps.length null ss=some r)
 (s0:St φ (fsC n null (ps++qs) ss (⟨lK 131,[.pointer (jX A)],[.slice none 0 0,.slice none 0 0,.slice none 0 0,.int .i64 0]⟩::F)) h):(PM r1 A M).wp eE (Kf (Ae (WR φ0 F r))) h:=by
 unfold PM;unfold L0 at hd;have⟨z,hz,hd⟩:=bS hd;have⟨s,hs,hd⟩:=bS hd;have⟨a,ha,hd⟩:=bS hd;have⟨sf,a4,hd⟩:=bS hd;have⟨la,a5,hd⟩:=bS hd;have⟨lb,a6,hd⟩:=bS hd;obtain rfl:=iS hd;obtain⟨G,hG⟩:∃G:List Chk,G=⟨lK 131,[.pointer (jX A)],[.slice none 0 0,.slice none 0 0,.slice none 0 0,.int .i64 0]⟩::F:=⟨_,rfl⟩;rw[←hG]at s0;refine Av (λ(y:Int×Unit) w g=>∃(ψ:AD),Sub φ ψ∧y.1=g.1∧g.2.2.length=ss.length∧St ψ (fsC n g.2.1 (ps++qs) g.2.2 G) w) (g:=z) ?_ ?_
 ·refine FF hz (λ(y:Int×Unit) w g=>∃(ψ:AD),Sub φ ψ∧y.1=g.1∧g.2.2.length=ss.length∧St ψ (fsC n g.2.1 (ps++qs) g.2.2 G) w) ((1:Int),()) rfl ⟨φ,kI _,rfl,rfl,s0⟩ ?_;rintro y w ⟨gc,gn,gs⟩ e ⟨ψ,le,rfl,u,st⟩ l hb;dsimp only at l u st;have⟨rr,hr,l⟩:=bS l;refine AE (YZ (W.mono le) (K.mono le) (X.trans u.symm) hr st) ?_;rintro _ h1 ⟨Y,m,rfl,N,o⟩;refine⟨_,rfl,?_⟩;refine kD l rfl (λl=>?_) (λl=>?_)
  ·obtain rfl:=iS l;exact jZ rfl rfl ⟨Y,le.trans m,rfl,N.trans u,o⟩
  ·obtain rfl:=iS l;obtain rfl:=hb _ rfl;exact AO (kB rfl ⟨Y,le.trans m,rfl,N.trans u,o⟩)
 ·rintro y1 h1 ⟨Y,m,a7,u,o⟩;refine AL (x:=g) ((K.mono m).at o (j:=8) rfl) rfl<|AL (x:=t.2.1) (AM o.sub ((cB.mono m).at 1 rfl)) rfl ?_;have n1:t.2.1.2.1=p.2.1.length:=K.pl.k1.length;rw[n1];have⟨i0,i1,i2⟩:=CU hs;rw[Int.toNat_natCast]at i2;rw[lL]at i2;have a8:p.2.1.length<qs.length:=by
   rw[List.length_drop]at i1;rw[kX]at X;omega
  have hq:=kT a8;obtain⟨A2,b9,a9,b0,q2,b1⟩:=((K.mono m).kg).get (i:=(p.2.1.length:Int)) (by rw[Bu];exact hq);refine AF _ a9 (Am b0 ?_);obtain rfl:=q2;refine AL (x:=qs[p.2.1.length]) (AM o.sub (b1 0 _ rfl)) rfl ?_;have⟨rs,a1,a2⟩:=E0 (OY (ps:=ps) hq) i2;have b2:St Y (Bc qs[p.2.1.length] s::(rs++(cR 4 lH n z.2.1::G))) h1:=(o.perm (bO (l₁:=AV (ps++qs) z.2.2)).symm).perm (hA _ a1);refine AE (CX b2 ha) ?_;rintro _ h2 ⟨ψ2,y,l2,b3,rfl,e2,b4⟩;refine⟨_,rfl,?_⟩;have b5:l2=a.2:=by rw[←e2]
  subst b5;have O:=m.trans b3;have b6:St ψ2 (fsC n z.2.1 (ps++qs) (z.2.2.set (ps.length+p.2.1.length) a.2) G) h2:=(b4.perm (hA _ (a2 a.2)).symm).perm (bO (l₁:=AV (ps++qs) (z.2.2.set (ps.length+p.2.1.length) a.2)));refine Av (λ(y:Unit) w g=>∃(ψ:AD),Sub φ ψ∧g.length=ss.length∧St ψ (fsC n z.2.1 (ps++qs) g G) w) (g:=sf) ?_ ?_
  ·refine FF a4 (λ(y:Unit) w g=>∃(ψ:AD),Sub φ ψ∧g.length=ss.length∧St ψ (fsC n z.2.1 (ps++qs) g G) w) () rfl ⟨ψ2,O,by simp[u],b6⟩ ?_;rintro y w gs e ⟨ψ,le,B,st⟩ l hb;have⟨rr,hr,l⟩:=bS l;refine AE (WQ (W.mono le) (K.mono le) a3 (X.trans B.symm) hr st) ?_;rintro _ h3 ⟨ψ3,D,rfl,P,E⟩;refine⟨_,rfl,?_⟩;refine kD l rfl (λl=>?_) (λl=>?_)
   ·obtain rfl:=iS l;exact jZ rfl rfl ⟨ψ3,le.trans D,P.trans B,E⟩
   ·obtain rfl:=iS l;obtain rfl:=hb _ rfl;exact AO (kB rfl ⟨ψ3,le.trans D,P.trans B,E⟩)
  ·rintro _ h3 ⟨ψ3,D,B,E⟩;have⟨ψ4,b7,kn,H⟩:=kO (t:=n) E;have c:=D.trans b7;refine AL (x:=n) ((K.mono c).at H (j:=6) rfl) rfl<|AL (x:=f) ((K.mono c).at H (j:=7) rfl) rfl<|AL (x:=g) ((K.mono c).at H (j:=8) rfl) rfl ?_;have b8:sf.length=ps.length+qs.length:=by rw[B,←X,kX]
   refine AE (ST (W.mono c) (off:=0) (K.mono c).kf (λi q C=>by rw[lD];exact WP C) (λi s C=>by
    rw[List.getElem?_take]at C;split at C
    ·rw[lD];exact C
    ·cases C) (by simp;omega) H a5) ?_
   rintro _ h4 ⟨ψ5,Z,Q,rfl,k5,J⟩;refine⟨Z,rfl,?_⟩;have d:=c.trans Q;refine AI ((K.mono d).at J (j:=8) rfl)<|AI ((K.mono d).at J (j:=6) rfl)<|AE (ST (W.mono d) (off:=ps.length) (K.mono d).kg (λi q C=>OY C) (λi s C=>by
    rw[lL]at C;exact C) (by simp;omega) J a6) ?_
   rintro _ h5 ⟨ψ6,y6,L,rfl,k6,R⟩;refine⟨y6,rfl,?_⟩;have I:=d.trans L;refine AI ((K.mono I).at R (j:=6) rfl) ?_;have S:=St.drop _ R;rw[hG]at S;refine Cj (b:=A) (j:=0) (v:=sv n) S rfl (by simp) ?_;intro h6 T;refine Cj (b:=A) (j:=1) (v:=sv Z) T rfl (by simp) ?_;intro h7 U;refine Cj (b:=A) (j:=2) (v:=sv y6) U rfl (by simp) ?_;intro h8 V;refine Cj (b:=A) (j:=3) (v:=.int .i64 y1.1) V rfl (by simp) ?_;intro h9 k;refine AA (b:=A) (j:=0) (x:=n) k rfl<|AA (b:=A) (j:=1) (x:=Z) k rfl<|AA (b:=A) (j:=2) (x:=y6) k rfl<|AA (b:=A) (j:=3) (x:=y1.1) k rfl<|AB ⟨ψ6,(n,Z,y6,y1.1,()),a0.trans I,rfl,kn.mono (Q.trans L),k5.mono L,k6,a7,k.tail⟩
theorem WS:R9 eE 107 4 (.bool false):=⟨underlying107,⟨t4,by kernel_rfl,rfl,⟨_,rfl,rfl⟩,by decide⟩⟩
theorem WT (x:Dg.Glob φ) (j:Sub φ0 φ) {v w:Nat}(y:DC φ (jX v) (plV t)) (k:PlK φ t p) {null:List Bool}{s1 b:List Aa}(l:ps.length=s1.length) (z:qs.length=b.length) (G:b.length=s1.length) {r:dtF}(hd:L0 p s1.length null (s1++b)=some r)
 (A:St φ (FW f ps::FW g qs::cR 4 lH n null::(AV ps s1++(AV qs b++(⟨lK 131,[.pointer (jX w)],[.slice none 0 0,.slice none 0 0,.slice none 0 0,.int .i64 0]⟩::F)))) h):
 (T.new (.cells #[sv t.1,sv t.2.1,sv t.2.2.1,sv t.2.2.2.1,sv t.2.2.2.2.1,sv t.2.2.2.2.2.1,sv n,sv f,sv g] 188 (0,0)) λd=>PM v w d).wp eE (Kf (Ae (WR φ0 F r))) h:=by
 refine AU (vs:=plV t++ [sv n,sv f,sv g]) A ?_;intro d B m;have⟨H,o,c1,q⟩:=lJ m;have⟨I,i,C,s⟩:=kO (t:=f) q;have⟨D,c,E,u⟩:=kO (t:=g) s;have a:=(o.trans i).trans c;refine dE (ps:=ps) (qs:=qs) (f:=f) (g:=g) (n:=n) (t:=t) (x.mono a) (j.trans a) (y.mono a) ⟨c1.mono (i.trans c),k.mono a,C.mono c,E⟩ (by omega) (null:=null) (ss:=s1++b) (by rw[kX,kX,l,z]) (by rw[l];exact hd) ?_;have e:AV (ps++qs) (s1++b)=AV ps s1++AV qs b:=by
  unfold AV;exact List.zipWith_append l
 show St D (cR 4 lH n null::(AV (ps++qs) (s1++b) ++_)) B;rw[e,kF];exact u
theorem ga (a c n:Chk) (B D G:List Chk):(a::(B++(c::(D++(n::G))))).Perm (c::a::n::(D++(B++G))):=
 (bD a (List.perm_middle.trans (bD c ((lA B bO).trans (List.perm_middle.trans (bD n (by rw[←kF,←kF];exact hA _ lB))))))).trans (kG _ _ _)
theorem gb (a c n:Chk) (B D G:List Chk):(a::(B++(n::c::(D++G)))).Perm (c::a::n::(D++(B++G))):=
 (bD a (List.perm_middle.trans ((bD n (List.perm_middle.trans (bD c (by rw[←kF,←kF];exact hA _ lB)))).trans (kG _ _ _)))).trans (kG _ _ _)
theorem ge (a c n:Chk) (B D G:List Chk):(n::a::(B++(c::(D++G)))).Perm (c::a::n::(D++(B++G))):=
 (kG _ _ _).trans (((bD a ((bD n (List.perm_middle.trans (bD c (by rw[←kF,←kF];exact hA _ lB)))).trans (kG _ _ _)))).trans (kG _ _ _))
theorem Te (K:Dg.Glob φ) (k:PlK φ t p) (L:St φ F h) {r:dtF}(hd:RB p=some r):
 CallsH eE 65 [.agg #[sv t.1,sv t.2.1,sv t.2.2.1,sv t.2.2.2.1,sv t.2.2.2.2.1,sv t.2.2.2.2.2.1]] h (Ae (WR φ F r)):=by
 refine BF mixed func65 ?_;rw[Tc];unfold RC;unfold RB at hd;have⟨null,M,hd⟩:=bS hd;have⟨C,c,hd⟩:=bS hd;have⟨N,B,hd⟩:=bS hd;obtain rfl:C=N:=by rw[c]at B;exact iS B
 have hd:L0 p C.length null (C++C)=some r:=hd;refine AU (vs:=plV t) L ?_;intro O T s1;have⟨P,d,D,s1⟩:=lJ s1;refine AU (vs:=[.slice none 0 0,.slice none 0 0,.slice none 0 0,.int .i64 0]) s1 ?_;intro U V E;have Q:t.2.1.2.1=p.2.1.length:=k.k1.length;have m:∀ {ψ:AD} {Γ:List Chk} {h':AH},Sub P ψ→St ψ Γ h'→ ∀j v,(plV t)[j]? =some v→BJ h' ⟨O,j,none⟩=some v:=λ{ψ Γ h'} le st j v hv=>by
  have:=AM st.sub ((D.mono le).at j hv)
  rw[DB,lD]at this;exact this
 have o:=m (kI _) E;refine LS o<|AL (x:=t.2.1) (o 1 _ rfl) rfl<|LS o<|LS o ?_;have s:=k.mono d;have y:=K.mono d;have G:GW (kJ .i64 ((t.2.1.2.1:Int)+1)) false=some null:=by rw[Q];exact M
 refine Dk ?_ ?_
 ·refine Kk (r:=lH) (x:=false) WS E rfl rfl G ?_;intro n H u;have e:=m (kI _) u
  repeat refine AI (e _ _ rfl) ?_
  refine AE (Ix s u c) ?_;rintro _ R ⟨S,f,ps,a,rfl,q,A⟩;refine⟨f,rfl,?_⟩;have z:=m a A
  repeat refine AI (z _ _ rfl) ?_
  refine AE (Ix (s.mono a) A c) ?_;rintro _ I ⟨J,g,qs,b,rfl,i,w⟩;refine⟨g,rfl,?_⟩;have l:=m (a.trans b) w
  repeat refine AI (l _ _ rfl) ?_
  exact WT (f:=f) (g:=g) (n:=n) (ps:=ps) (qs:=qs) (y.mono (a.trans b)) (d.trans (a.trans b)) (D.mono (a.trans b)) (s.mono (a.trans b)) q i rfl hd (w.perm (ga _ _ _ _ _ _))
 ·refine AE (Ix s E c) ?_;rintro _ R ⟨S,f,ps,a,rfl,q,A⟩;refine⟨f,rfl,?_⟩;have z:=m a A
  repeat refine AI (z _ _ rfl) ?_
  refine Dk ?_ ?_
  ·refine Kk (r:=lH) (x:=false) WS A rfl rfl G ?_;intro n H u;have e:=m a u
   repeat refine AI (e _ _ rfl) ?_
   refine AE (Ix (s.mono a) u c) ?_;rintro _ I ⟨J,g,qs,b,rfl,i,w⟩;refine⟨g,rfl,?_⟩;have l:=m (a.trans b) w
   repeat refine AI (l _ _ rfl) ?_
   exact WT (f:=f) (g:=g) (n:=n) (ps:=ps) (qs:=qs) (y.mono (a.trans b)) (d.trans (a.trans b)) (D.mono (a.trans b)) (s.mono (a.trans b)) q i rfl hd (w.perm (gb _ _ _ _ _ _))
  ·refine AE (Ix (s.mono a) A c) ?_;rintro _ I ⟨J,g,qs,b,rfl,i,w⟩;refine⟨g,rfl,?_⟩;have l:=m (a.trans b) w
   repeat refine AI (l _ _ rfl) ?_
   refine Kk (r:=lH) (x:=false) WS w rfl rfl G ?_;intro n H u;have e:=m (a.trans b) u
   repeat refine AI (e _ _ rfl) ?_
   exact WT (f:=f) (g:=g) (n:=n) (ps:=ps) (qs:=qs) (y.mono (a.trans b)) (d.trans (a.trans b)) (D.mono (a.trans b)) (s.mono (a.trans b)) q i rfl hd (u.perm (ge _ _ _ _ _ _))
end
end Go.Proofs.YtnlkgidlfnefbaaGreatDoor
namespace Go.Proofs.YtnlkgidlfnefbaaGreatDoor
open Go Go.Eng
section
variable {φ:AD}{h:AH}{F:List Chk}
noncomputable def ED (f_0:eA) (p_1:As) (b:List Int):Option (List Int×Bool):=
 (CH (p_1.1.length:Int)).bind λt4=>
 (DF (σ:=C9) (β:=(List Int×Bool)) 0 (b.length:Int) t4 λc j=>
  (((idx b c).bind λa=>
  (BU p_1 a).bind λk=>
  cond k
  ((Aw j a).bind λl=>
   (SM l.2).bind λm=>
   some (lT (m,false)))
  ((cond (decide ((kJ .i64 (a - (p_1.1.length:Int))) < 0))
   (some true)
   (some (decide ((kJ .i64 (a - (p_1.1.length:Int))) ≥ (f_0.2.1.length:Int))))).bind λn=>
   cond n
   (some (lS j))
   ((idx f_0.2.1 (kJ .i64 (a - (p_1.1.length:Int)))).bind λo=>
    (DM (p_1.1.length:Int) o).bind λp=>
    (TP j p).bind λd=>
    (idx f_0.1 (kJ .i64 (a - (p_1.1.length:Int)))).bind λe=>
    cond (!e)
    ((SM d.2).bind λq=>
     some (lT (q,false)))
    (some (lS d.2))))):Option (AY C9 (List Int×Bool))).bind λf=>match f with
  |.next s=>
   some (lS s)
  |.done g=>some (lT g)).bind λh=>match h with
 |.next t=>
  (SM t).bind λr=>
  some (r,true)
 |.done i=>some i
theorem MX {A:Slc×Slc×Slc×Int×Unit}{o:List Bool}{j:List (List Int)}{p:List (List Int)}{B:Pl6}{k:As}{C:Slc}{l:List Int}(I:Dg.Glob φ) (X:hC lH φ A.1 o) (q:hC (kV (hM .i64)) φ A.2.1 j) (d3:hC (kV (hM .i64)) φ A.2.2.1 p) (s:Gw φ B k) (u:hC (hM .i64) φ C l) (Y:St φ F h) {r:(List Int×Bool)}(hd:ED (o,j,p,A.2.2.2.1) k l=some r):
 CallsH eE 122 [(.agg #[(sv A.1),(sv A.2.1),(sv A.2.2.1),(.int .i64 A.2.2.2.1)]),(aG B),(sv C)] h (Ae λv Z=>∃ψ:AD,∃y:Slc×Bool×Unit,∃w:List Int,Sub φ ψ∧v=((.tuple [aS,aB]):Sh).val y∧(w,y.2.1)=r∧hC (hM .i64) ψ y.1 w∧St ψ F Z):=by
 refine AN mixed func122 (MT ..) ?_;have ad:A.2.1.2.1=kH j:=q.length;have b:B.1.2.1=kH k.1:=s.k0.length;have x:C.2.1=kH l:=u.length;refine AU (vs:=[sv A.1,sv A.2.1,sv A.2.2.1,.int .i64 A.2.2.2.1]) Y λJ d4 al=>Db (t:=B) al λK d5 z=>AA z rfl ?_;have⟨d6,a0,hd⟩:=bS hd;rw[←b]at a0;refine AE (ER z a0) ?_;rintro _ d7 ⟨P,t4,ap,d8,rfl,rfl,b0⟩;refine⟨t4,rfl,?_⟩;have⟨d9,b1,hd⟩:=bS hd;refine BR b1 (λb2 y D g=>∃ψ:AD,∃Q:C9,Sub P ψ∧y.1=b2∧Q=g∧St ψ (cO 229 Em t4 Q::Wq2 K B::Wq7 J A::F) D) ((0:Int),false,((none,0,0):Slc),()) rfl ⟨P,ap,sb,rfl,rfl,b0.at2.at2.at2⟩ ?_ ?_ ?_
 ·rintro _ z6 dd _ _ ⟨b3,R,dg,rfl,rfl,m⟩ c dk b4 b5 S;refine Ai (dT x b4) ?_;have⟨b6,a,c⟩:=bS c;refine Av (λy D g=>∃ψ:AD,∃T:C9,Sub b3 ψ∧lS T=g∧St ψ (cO 229 Em t4 T::Wq2 K B::Wq7 J A::F) D) (g:=b6) ?_ ?_
  ·refine gx u a m λb7 a=>Bi (t:=B) m.at1 ?_;have⟨dl,b8,a⟩:=bS a;refine AE (Dc s.up m b8) ?_;rintro _ dp ⟨n,L,ds,rfl,rfl,d⟩;refine⟨L,rfl,?_⟩;refine kD a rfl (λa=>?_) (λa=>?_)
   ·have⟨dx,b9,a⟩:=bS a;refine AE (CX d b9) ?_;rintro _ dy ⟨e0,M,e1,e2,rfl,rfl,ba⟩;refine⟨M,rfl,?_⟩;have⟨e3,bb,a⟩:=bS a;refine AE (PB (I.mono sb) ba bb) ?_;rintro _ e4 ⟨bd,E,bf,e5,rfl,rfl,bg,bi⟩;refine⟨E,rfl,?_⟩;obtain rfl:=iS a;obtain rfl:=iS c;obtain rfl:=S _ rfl;obtain rfl:=iS hd;exact Al (Ak (Al (AB ⟨bd,(E,false,()),bf,sb,rfl,rfl,bg,bi.tail.tail.tail⟩)))
   refine AA d.at1 rfl ?_;have⟨bj,e,a⟩:=bS a;refine Ad (λy D g=>∃ψ:AD,Sub n ψ∧y.1=g∧St ψ (cO 229 Em t4 R::Wq2 K B::Wq7 J A::F) D) (g:=bj) ?_ ?_
   ·refine kD e (by rw[b] <;>rfl) (λe=>?_) (λe=>?_)
    ·have bl:=d.at2;exact jY rfl ⟨n,sb,iS e,bl.at2.at2⟩
    refine AA d.at2 rfl ?_;have bp:=d.at2.at2.at2;obtain rfl:=iS e;exact jY rfl ⟨n,sb,(by rw[b,ad]),bp⟩
   rintro f5 e6 ⟨bs,e7,rfl,f⟩;refine kD a rfl (λa=>?_) (λa=>?_)
   ·have bt:=f.at2;exact kB rfl ⟨bs,R,sb,iS a,bt.at2.at2⟩
   refine AA f.at1 rfl<|AA f.at2 rfl ?_;have⟨e8,U,a⟩:=bS a;rw[←b]at U;refine ZF q U (lI sb f.sub) λe9 bw=> ?_;have⟨ea,V,a⟩:=bS a;rw[←b]at V;refine AE (Ez bw.up f V) ?_;rintro _ ec ⟨ed,N,ee,ef,rfl,rfl,bx⟩;refine⟨N,rfl,?_⟩;have⟨eg,bz,a⟩:=bS a;refine AE (WC (I.mono sb) bx.at1 bz) ?_;rintro _ ek ⟨c0,O,c1,el,rfl,rfl,i⟩;refine⟨O,rfl,?_⟩;refine AA i.at3 rfl ?_;have⟨em,W,a⟩:=bS a;rw[←b]at W;refine SC X W (lI sb i.sub)<|kD a rfl (λa=>?_) (λa=>?_)
   ·have⟨en,c2,a⟩:=bS a;refine AE (PB (I.mono sb) i c2) ?_;rintro _ eo ⟨c3,G,c4,er,rfl,rfl,c5,c6⟩;refine⟨G,rfl,?_⟩;obtain rfl:=iS a;obtain rfl:=iS c;obtain rfl:=S _ rfl;obtain rfl:=iS hd;exact Al (Ak (Al (AB ⟨c3,(G,false,()),c4,sb,rfl,rfl,c5,c6.tail.tail.tail.tail⟩)))
   exact kC rfl ⟨c0,c1,sb,iS a,i.at1.tail.at2.at2.at2⟩
  rintro z7 es ⟨c7,c8,ev,rfl,c9⟩;obtain rfl:=iS c;exact jZ rfl rfl ⟨c7,c8,sb,b5,rfl,c9.at2.at2.at2⟩
 ·rintro _ z6 ew _ ⟨ch,cl,ex,rfl,rfl,cm⟩ cp cs;subst cs;refine AW (dF x cp)<|AO (kB rfl ⟨_,rfl,_,ch,cl,sb,rfl,rfl,cm.at2.at2.at2⟩)
 rintro z5 ey ⟨_,rfl,_,ez,f0,f1,_,rfl,cu⟩;have⟨f2,cw,hd⟩:=bS hd;refine AE (PB (I.mono sb) cu cw) ?_;rintro _ f3 ⟨cx,H,d0,f4,rfl,rfl,d1,d2⟩;refine⟨H,rfl,?_⟩;exact AB ⟨cx,(H,true,()),d0,sb,rfl,iS hd,d1,d2.tail.tail.tail⟩
noncomputable def CJ (c:SD) (b:Int) (a:Int):Option Bool:=(cond (decide (a< 0)) (some true) (some (decide (a≥ (c.2.2.1.length:Int))))).bind λg=>cond g (some false) ((idx c.2.2.1 a).bind λd=>(Cm c.2.2.2.2.2.2.1 b).bind λe=>(Az e (a,(d.2.1.length:Int))).bind λf=>some f)
theorem G8 {C:Option lW}{e:SD}{B:Int}{A:Int}(c:Pt UV φ C e) (E:St φ F h) {r:Bool}(hd:CJ e B A=some r):
 CallsH eE 112 [(.pointer C),(.int .i64 B),(.int .i64 A)] h (Ae λv H=>∃ψ:AD,∃y:Bool,Sub φ ψ∧v=((.one aB):Sh).val y∧y=r∧St ψ F H):=by
 refine AN mixed func112 (MV ..) ?_;have⟨m,a,hd⟩:=bS hd;refine Ad (λy I g=>∃ψ:AD,Sub φ ψ∧y.1=g∧St ψ F I) (g:=m) ?_ ?_
 ·refine kD a rfl (λa=>?_) (λa=>?_)
  ·exact jY rfl ⟨φ,sb,iS a,E⟩
  refine pfR Wz c E λn o=> ?_;have p:=o.length;obtain rfl:=iS a;exact jY rfl ⟨φ,sb,(by rw[p]),E⟩
 rintro Q ap ⟨f,R,rfl,b⟩;refine kD hd rfl (λhd=>?_) (λhd=>?_)
 ·exact AB ⟨f,false,sb,rfl,iS hd,b⟩
 refine pfR W0 c b λb1 q=> ?_;obtain⟨S,T,s,⟨_,_,rfl,⟨U,rfl,V⟩,_,_,rfl,⟨W,rfl,X⟩,_,_,rfl,⟨t,rfl,u⟩,_,_,rfl,⟨Y,rfl,Z⟩,_,_,rfl,⟨ba,rfl,bb⟩,_,_,rfl,⟨bd,rfl,bf⟩,_,_,rfl,⟨bg,rfl,bi⟩,_,_,rfl,⟨bj,rfl,bl⟩,_,_,rfl,⟨bp,rfl,bs⟩,_,_,rfl,⟨bt,rfl,bw⟩,_,_,rfl,rfl,_,_,rfl,⟨bx,rfl,bz⟩,_,_,rfl,rfl,rfl⟩,i⟩:=id c;refine AF _ s<|AL (x:=t) (AM (lI sb b.sub) (i.at 2 rfl)) rfl ?_;have⟨c0,w,hd⟩:=bS hd;obtain⟨c1,c2,z,a0,J,j⟩:=(u.up (ψ:=f)).get w;refine AF _ z (Am a0 ?_);obtain⟨_,_,rfl,rfl,⟨_,_,rfl,⟨k,rfl,K⟩,L⟩⟩:=J;have M:=K.length;obtain rfl:=L;refine AL (x:=k) (by rw[Ac];exact(AM (lI sb b.sub) (j 1 _ rfl))) rfl ?_;have⟨c3,N,hd⟩:=bS hd;refine AE (F6 q.up b N) ?_;rintro _ c4 ⟨c5,G,c6,c7,rfl,rfl,O,d⟩;refine⟨G,rfl,?_⟩;refine AI (by rw[Ac];exact(AM (lI sb d.sub) (j 1 _ rfl)))<|AI (AM (lI sb d.sub) (i.at 2 rfl)) ?_;have⟨c8,l,hd⟩:=bS hd;rw[←M]at l;refine AE (D4 (l:=(A,(k.2.1:Int),())) O d l) ?_;rintro _ c9 ⟨P,D,ch,rfl,rfl,al⟩;refine⟨D,rfl,?_⟩;exact AB ⟨P,D,sb,rfl,iS hd,al⟩
noncomputable def EE (c:SD) (a:Int):Option (List Int):=(Cm c.2.2.2.2.2.2.1 a).bind λt3=>(forS (σ:=List Int) 0 (t3.length:Int) ([]:List Int) λd h=>(idx t3 d).bind λb=>(idx c.2.2.1 b.1).bind λe=>(cond (b.2==(e.2.1.length:Int)) ((app h ([b.1]:List Int)).bind λf=>some f) (some h)).bind λg=>some g).bind λi=>some i
theorem MY {B:Option lW}{i:SD}{A:Int}(j:Pt UV φ B i) (D:St φ F h) {r:(List Int)}(hd:EE i A=some r):
 CallsH eE 123 [(.pointer B),(.int .i64 A)] h (Ae λv G=>∃ψ:AD,∃y:Slc,∃k:List Int,Sub φ ψ∧v=((.one aS):Sh).val y∧k=r∧hC (hM .i64) ψ y k∧St ψ F G):=by
 refine AN mixed func123 (MW ..)<|pfR W0 j D λbd u=> ?_;have⟨bf,w,hd⟩:=bS hd;refine AE (F6 u D w) ?_;rintro _ bg ⟨l,t3,bi,bj,rfl,rfl,m,x⟩;refine⟨t3,rfl,?_⟩;have n:=m.length;have⟨bl,z,hd⟩:=bS hd;refine Bb z (λa0 y C g=>∃ψ:AD,∃o:List Int,Sub l ψ∧y.1=a0∧o=g∧St ψ (cR 3 (hM .i64) y.2.1 o::F) C) ((0:Int),((none,0,0):Slc),()) rfl ⟨l,[],sb,rfl,rfl,(x.nil 3 (hM .i64))⟩ ?_ ?_ ?_
 ·rintro _ H bp _ _ ⟨f,I,bs,rfl,rfl,p⟩ b bt J K;refine Ai (dT n J)<|YC m b p λe b=>AU (vs:=[.int .i64 (0:Int),.int .i64 (0:Int)]) p λL bw M=>AG M rfl rfl λbx N=>AG N rfl rfl λbz c=>AA c rfl<|pfR Wz j c λc0 O=>AA c rfl<|ixR Km O b c λc1 c2 P b=> ?_;have Q:=P.length;have⟨R,d,b⟩:=bS b;refine Ad (λy C g=>∃ψ:AD,∃q:List Int,Sub f ψ∧q=g∧St ψ (cR 3 (hM .i64) y.1 q::cW 124 L [.int .i64 e.1,.int .i64 e.2]::F) C) (g:=R) ?_ ?_
  ·refine kD d (by rw[Q] <;>rfl) (λd=>?_) (λd=>?_)
   ·refine AA c rfl<|AU (vs:=[.int .i64 e.1]) c λS c3 s=> ?_;have⟨T,al,d⟩:=bS d;refine AZ (r:=(hM .i64)) (ms:=([e.1]:List Int)) Ci s.tail.at1 rfl (kW s) (.cons (a:=[_]) rfl .nil) rfl al ?_;intro U c4 ap;exact jY rfl ⟨f,T,sb,iS d,ap.at1.at1⟩
   exact jY rfl ⟨f,I,sb,iS d,c.at1.at1.at1⟩
  rintro V c5 ⟨W,b1,c6,rfl,X⟩;obtain rfl:=iS b;exact jZ rfl rfl ⟨W,b1,sb,K,rfl,X.at1.tail⟩
 ·rintro _ H c7 ⟨Y,Z,c8,rfl,rfl,b5⟩ b6;refine AW (dF n b6)<|AO (kB rfl ⟨_,Y,Z,sb,rfl,rfl,b5⟩)
 rintro E c9 ⟨_,ch,b7,cl,_,rfl,b8⟩;have⟨b9,cm,ba,bb⟩:=kO (t:=E.2.1) b8;exact AB ⟨b9,E.2.1,b7,sb,rfl,iS hd,ba,bb⟩
end
end Go.Proofs.YtnlkgidlfnefbaaGreatDoor
namespace Go.Proofs.YtnlkgidlfnefbaaGreatDoor
open Go Go.Eng Dg
abbrev Stp:Type:=ZG
noncomputable def Rs {σ:Type}(p:dtP) (A:dtA) (f:σ→Stp→Int→Option σ) (s:σ):Option σ:=(CI A).bind λn=>forS 0 n s λi s=>(Cn A i).bind λes=>forS 0 (es.length:Int) s λj s=>(idx es j).bind λe=>(BU p e.1).bind λt=>cond (!t) (f s (i,e.1) e.2) (some s)
abbrev EnS:Type:=List Stp×List (Stp×Int)
def LT (st:EnS) (s:Stp) (_:Int):Option EnS:=(app st.1 [s]).bind λl=>some (l,CA s (st.1.length:Int) st.2)
noncomputable def dG (d:Option lW) (g:Nat) (args:Int→Int→Int→List lV):T:=deref d λt=>jT t 6 λt2=>lN 32 [(.pointer t2)] (.one aI) λt3=>T.block 0 [aI] (T.loop [aI] [(.int .i64 0)] λe=>cond (decide (e.1<t3)) (deref d λu=>jT u 6 λt7=>lN 109 [(.pointer t7),(.int .i64 e.1)] (.one aS) λt8=>T.block 2 [aI] (T.loop [aI] [(.int .i64 0)] λa=>cond (decide (a.1< (t8.2.1:Int))) (deref t8.1 λf=>chk (0≤a.1∧a.1< (t8.2.1:Nat))<|iW f a.1 2 λh=>iZ f a.1 2 1 λi=>iP #[(.int .i64 0),(.int .i64 0)] 128 λc=>jB c 0 h<|jB c 1 i<|deref d λb=>jS b λj=>iU b 1 λk=>iU b 2 λl=>iU b 3 λm=>iU b 4 λn=>iU b 5 λo=>jA c 0 λp=>lN 85 [(.agg #[(sv j),(sv k),(sv l),(sv m),(sv n),(sv o)]),(.int .i64 p)] (.one aB) λq=>T.join [] (cond (!q) (jA c 0 λr=>jA c 1 λs=>lN g (args e.1 r s) (.tuple []) λ_=>lQ []) (lQ [])) λ_=>lQ [(.int .i64 (kJ .i64 (a.1+(1:Int))))]) (T.brk 2 [(.int .i64 a.1)])) λ_=>lQ [(.int .i64 (kJ .i64 (e.1+(1:Int))))]) (T.brk 0 [(.int .i64 e.1)])) λ_=>T.ret (.tuple #[])
section
variable {φ ψ:AD}{h:AH}{F:List Chk}{a:lW}{t:Slc×Slc×Slc×Slc×Slc×Slc×Unit}{p:dtP}{ap:Option lW}{A:dtA}
theorem U8 {K:Bool→T}{P:Bs→AH→Prop}{b:Nat}{v:lV}{s:Int}(cells:∀j v,(plV t)[j]? =some v→BJ h (a.add j)=some v) (f:BJ h ⟨b,0,none⟩=some (.int .i64 s)) (k:PlK φ t p) (st:St φ F h) {r:Bool}(hd:BU p s=some r)
 (g:∀ψ h',Sub φ ψ→St ψ F h'→(K r).wp eE P h'):
 (kU .slice a λ(t6:Slc)=>kU .slice (a.add 1) λ(t7:Slc)=>kU .slice (a.add 2) λ(t8:Slc)=>kU .slice (a.add 3) λ(i:Slc)=>kU .slice (a.add 4) λ(c:Slc)=>kU .slice (a.add 5) λ(d:Slc)=>
  kU (.int .i64) ⟨b,0,none⟩ λ(e:Int)=>
  lN 85 [(.agg #[(sv t6),(sv t7),(sv t8),(sv i),(sv c),(sv d)]),(.int .i64 e)] (.one aB) K).wp eE P h:=by refine AL (x:=t.1) (by have:=cells 0 _ rfl;rwa [add_zero]at this) rfl<|AL (x:=t.2.1) (cells 1 _ rfl) rfl<|AL (x:=t.2.2.1) (cells 2 _ rfl) rfl<|AL (x:=t.2.2.2.1) (cells 3 _ rfl) rfl<|AL (x:=t.2.2.2.2.1) (cells 4 _ rfl) rfl<|AL (x:=t.2.2.2.2.2.1) (cells 5 _ rfl) rfl<|AL (x:=s) f rfl<|AE (Dc k st hd) ?_;rintro _ l ⟨ψ,y,le,rfl,rfl,s1⟩;exact⟨y,rfl,g ψ l le s1⟩
theorem XS {X σ:Type}(Γ:X→List Chk) (al:X→σ) (f:σ→Stp→Int→Option σ) (g:Nat) (args:Int→Int→Int→List lV)
 (c:∀ψ x w Δ,Sub φ ψ→St ψ (Γ x++Δ) w→ ∀j v,(plV t++ [.pointer ap])[j]? =some v→BJ w (a.add j)=some v)
 (u:∀ψ w x s' n s to Δ,Sub φ ψ→St ψ (Γ x++Δ) w→f (al x) (n,s) to=some s'→CallsH eE g (args n s to) w (Ae λv P=>v= .tuple #[] ∧ ∃r x',Sub ψ r∧al x'=s'∧St r (Γ x'++Δ) P))
 (kA:Pt F4 φ ap A) (kP:PlK φ t p) {x:X} {s':σ} (hd:Rs p A f (al x)=some s') (s0:St φ (Γ x++F) h):
 (dG (some a) g args).wp eE (Kf (Ae λv P=>v= .tuple #[] ∧ ∃ψ x',Sub φ ψ∧al x'=s'∧St ψ (Γ x'++F) P)) h:=by
 unfold dG;unfold Rs at hd;have⟨n,hn,hd⟩:=bS hd;have pc:∀ {ψ x w Δ},Sub φ ψ→St ψ (Γ x++Δ) w→ ∀j v,(plV t)[j]? =some v→BJ w (a.add j)=some v:=λ{ψ x w Δ} le st j v hv=>c ψ x w Δ le st j v (by rw[kK (kL.1 hv).1];exact hv);refine AF _ rfl<|AL (x:=ap) (c _ _ _ _ (kI _) s0 6 _ rfl) rfl<|AE (DW kA s0 hn) ?_;rintro _ h1 ⟨ψ1,y,Q,rfl,rfl,R⟩;refine⟨y,rfl,?_⟩;refine Av (λ(z:Int×Unit) w g=>∃ψ x',Sub φ ψ∧al x'=g∧St ψ (Γ x'++F) w) (g:=s') ?_ ?_
 ·refine Cp hd (λi (z:Int×Unit) w g=>z.1=i∧ ∃ψ x',Sub φ ψ∧al x'=g∧St ψ (Γ x'++F) w) ((0:Int),()) rfl ⟨rfl,ψ1,x,Q,rfl,R⟩ ?_ ?_
  ·rintro i z w s e ⟨rfl,ψ,x1,le,rfl,st⟩ S h0 hlt hw;refine Ai (decide_eq_true hlt) ?_;have⟨es,T,S⟩:=bS S;refine AF _ rfl<|AL (x:=ap) (c _ _ _ _ le st 6 _ rfl) rfl<|AE (F7 (kA.mono le) st T) ?_;rintro _ h2 ⟨U,t8,l2,E,rfl,rfl,k8,V⟩;refine⟨t8,rfl,?_⟩;have n8:=k8.length;refine Av (λ(z:Int×Unit) w g=>∃ψ x',Sub φ ψ∧al x'=g∧St ψ (Γ x'++F) w) (g:=e) ?_ ?_
   ·refine Cp S (λi (z:Int×Unit) w g=>z.1=i∧ ∃r x',Sub U r∧al x'=g∧St r (Γ x'++F) w) ((0:Int),()) rfl ⟨rfl,U,x1,kI _,rfl,V⟩ ?_ ?_
    ·rintro i2 z2 w2 s2 e2 ⟨rfl,W,x3,m,rfl,B⟩ d a7 G Y;have o:=(le.trans E).trans m;refine Ai (by rw[n8];exact decide_eq_true G) ?_;have⟨l,Z,d⟩:=bS d;have⟨tm,a0,d⟩:=bS d;obtain⟨A1,a8,a1,a2,q1,I⟩:=(k8.mono m).get Z;refine AF _ a1 (Am a2 ?_);obtain⟨_,_,rfl,rfl,rfl⟩:=q1;refine AL (x:=l.1) (AM B.sub (I 0 _ rfl)) rfl<|AL (x:=l.2) (by rw[Ac];exact AM B.sub (I 1 _ rfl)) rfl<|AU (vs:=[.int .i64 0,.int .i64 0]) B ?_;intro k h3 a3;refine Cj (b:=k) (j:=0) (v:=.int .i64 l.1) a3 rfl (by simp) ?_;intro h4 a4;refine Cj (b:=k) (j:=1) (v:=.int .i64 l.2) a4 rfl (by simp) ?_;intro h5 J;have K:St W (Γ x3++(⟨lK 128,[.pointer (jX k)],[.int .i64 l.1,.int .i64 l.2]⟩::F)) h5:=J.perm (bO (l₁:=Γ x3)).symm;refine AF _ rfl (U8 (v:=.nilFunc) (pc o K) (J.cell rfl) (kP.mono o) K a0 ?_);intro N h6 C D;refine Ad (λ(_:Unit) w g=>∃r x',Sub U r∧al x'=g∧St r (Γ x'++F) w) (g:=e2) ?_ ?_
     ·refine kD d rfl (λd=>?_) (λd=>?_)
      ·have q:St N (⟨lK 128,[.pointer (jX k)],[.int .i64 l.1,.int .i64 l.2]⟩::(Γ x3++F)) h6:=D.perm (bO (l₁:=Γ x3));refine AA (b:=k) (j:=0) (x:=l.1) q rfl<|AA (b:=k) (j:=1) (x:=l.2) q rfl<|AE (u N h6 x3 e2 z.1 l.1 l.2 _ (o.trans C) D d) ?_;rintro _ O ⟨rfl,ψ5,x5,a5,a6,L⟩;refine⟨(),rfl,?_⟩;have M:St ψ5 (⟨lK 128,[.pointer (jX k)],[.int .i64 l.1,.int .i64 l.2]⟩::(Γ x5++F)) O:=L.perm (bO (l₁:=Γ x5));exact jY rfl ⟨ψ5,x5,(m.trans C).trans a5,a6,M.tail⟩
      ·obtain rfl:=iS d;have q:St N (⟨lK 128,[.pointer (jX k)],[.int .i64 l.1,.int .i64 l.2]⟩::(Γ x3++F)) h6:=D.perm (bO (l₁:=Γ x3));exact jY rfl ⟨N,x3,m.trans C,rfl,q.tail⟩
     ·rintro _ O H;exact jZ rfl rfl ⟨Y,H⟩
    ·rintro i2 z2 w2 ⟨rfl,W,x3,m,H⟩ hge;refine AW (by rw[n8];exact decide_eq_false (kQ.2 hge))<|AO (kB rfl ⟨W,x3,(le.trans E).trans m,H⟩)
   ·rintro _ O H;exact jZ rfl rfl ⟨hw,H⟩
  ·rintro i z w ⟨rfl,H⟩ hge;refine AW (decide_eq_false (kQ.2 hge))<|AO (kB rfl H)
 ·rintro _ O H;exact AB ⟨rfl,H⟩
end
theorem Tf:S5 eE 193:=⟨_,_,underlying193,by kernel_rfl,by decide,by decide,rfl,rfl,lC,lC⟩
theorem U9:S5 eE 197:=⟨_,_,underlying197,by kernel_rfl,by decide,by decide,rfl,rfl,lC,lC⟩
theorem dH:GU eE 135 135 193 2:=⟨lM,.inl lM,⟨t193,by kernel_rfl,rfl,⟨_,rfl,rfl⟩,by decide,by decide⟩,by decide⟩
abbrev lkV (t:Slc×Slc×Slc×Slc×Slc×Slc×Unit) (ap:Option lW) (fz:Slc×Slc×Slc×Int×Unit) (sl:Slc) (nm lm:Nat):List lV:=
 plV t++ [.pointer ap,sv fz.1,sv fz.2.1,sv fz.2.2.1,.int .i64 fz.2.2.2.1,sv sl,.map (some nm),.map (some lm)]
abbrev lkB (b:Nat) (t:Slc×Slc×Slc×Slc×Slc×Slc×Unit) (ap:Option lW) (fz:Slc×Slc×Slc×Int×Unit) (sl:Slc) (nm lm:Nat):Chk:=cW 137 b (lkV t ap fz sl nm lm)
structure EnX where
 sl:Slc
 steps:List Stp
 num:List (Stp×Int)
abbrev enC (b:Nat) (t:Slc×Slc×Slc×Slc×Slc×Slc×Unit) (ap:Option lW) (fz:Slc×Slc×Slc×Int×Unit) (nm lm:Nat) (x:EnX):List Chk:=
 [lkB b t ap fz x.sl nm lm,cR 193 UU x.sl x.steps,cM DG (hM .i64) nm x.num]
section
variable {φ ψ:AD}{h:AH}{F:List Chk}{t:Slc×Slc×Slc×Slc×Slc×Slc×Unit}{p:dtP}{ap:Option lW}{A:dtA}{fz:Slc×Slc×Slc×Int×Unit}{nm lm b:Nat}
theorem Ya {x:EnX}{n s to:Int}{r:EnS}(hd:LT (x.steps,x.num) (n,s) to=some r) (i:St φ (enC b t ap fz nm lm x++F) h):
 CallsH eE 67 [.pointer (jX b),.agg #[.int .i64 n,.int .i64 s],.int .i64 to] h (Ae λv m=>v= .tuple #[] ∧ ∃ψ x',Sub φ ψ∧(x'.steps,x'.num)=r∧St ψ (enC b t ap fz nm lm x'++F) m):=by refine BF mixed func67 ?_;rw[show AT eE f67 [.pointer (jX b),.agg #[.int .i64 n,.int .i64 s],.int .i64 to] =FM (jX b) (n,s,()) to from LQ (jX b) (n,s,()) to];unfold FM;unfold LT at hd;have⟨l,o,hd⟩:=bS hd;obtain rfl:=iS hd;have c:=(i.at1).rowLen;refine AU (vs:=[.int .i64 n,.int .i64 s]) i ?_;intro e z s1;refine AF _ rfl<|AA (b:=b) (j:=12) (x:=some nm) s1.at1 rfl<|AA (b:=e) (j:=0) (x:=n) s1 rfl<|AA (b:=e) (j:=1) (x:=s) s1 rfl<|AF _ rfl<|AA (b:=b) (j:=11) (x:=x.sl) s1.at1 rfl<|Ki (kk:=DG) (k:=(n,s)) (y:=(x.steps.length:Int)) lF Tf (s1.at3) (by rw[←c];rfl) ?_;intro A f;refine AF _ rfl<|AA (b:=b) (j:=11) (x:=x.sl) (f.at2) rfl<|AA (b:=e) (j:=0) (x:=n) (f.at1) rfl<|AA (b:=e) (j:=1) (x:=s) (f.at1) rfl<|AU (vs:=[.int .i64 n,.int .i64 s]) f ?_;intro p B g;refine AI (g.at3.cell (b:=b) (j:=11) rfl) ?_;have q:=kW g;refine AZ (r:=UU) (ms:=[(n,s)]) dH (g.at4) rfl q (.cons (a:=[_,_]) ⟨[_],_,rfl,rfl,rfl⟩ .nil) rfl o ?_;intro d C u;refine AF _ rfl<|Cj (b:=b) (j:=11) (v:=sv d) (u.at4) rfl (by simp) ?_;intro D w;refine AB ⟨rfl,φ,⟨d,l,CA (n,s) (x.steps.length:Int) x.num⟩,kI _,rfl,w.at2.tail.at3.tail⟩
theorem fb (l k:Option lW):Hi l k=dG l 67 λn s to=>[.pointer k,.agg #[.int .i64 n,.int .i64 s],.int .i64 to]:=rfl
theorem aN (a:Pt F4 φ ap A) (c:PlK φ t p) {x:EnX}{s':EnS}(hd:Rs p A LT (x.steps,x.num)=some s') (d:St φ (enC b t ap fz nm lm x++F) h):
 CallsH eE 66 [.pointer (jX b),.func (.func 67) #[.pointer (jX b)] #[]] h (Ae λv f=>v= .tuple #[] ∧ ∃ψ x',Sub φ ψ∧(x'.steps,x'.num)=s'∧St ψ (enC b t ap fz nm lm x'++F) f):=by
 refine BF mixed func66 ?_;rw[LO,fb];refine XS (φ:=φ) (F:=F) (A:=A) (ap:=ap) (t:=t) (p:=p) (λx:EnX=>enC b t ap fz nm lm x) (λx=>(x.steps,x.num)) LT _ _ ?_ ?_ a c hd d
 ·intro ψ x w Δ le st j v hv;have g:(lkV t ap fz x.sl nm lm)[j]? =some v:=by
   have e:lkV t ap fz x.sl nm lm=(plV t++ [.pointer ap]) ++ [sv fz.1,sv fz.2.1,sv fz.2.2.1,.int .i64 fz.2.2.2.1,sv x.sl,.map (some nm),.map (some lm)]:=rfl;rw[e,kK (kL.1 hv).1];exact hv
  rw[DB,lD];exact St.cell st g
 ·intro ψ w x s' n s to Δ le st hf;exact Ya hf st
end
abbrev iL:Type:=SD
abbrev lkT (p:dtP) (A:dtA) (fa:dtF) (steps:List Stp) (nm lm:Option Nat):iL:=(p.1,p.2.1,p.2.2.1,p.2.2.2.1,p.2.2.2.2.1,p.2.2.2.2.2,A,fa.1,fa.2.1,fa.2.2.1,fa.2.2.2,steps,nm,lm)
structure LkK (φ:AD) (a:lW) (t:Slc×Slc×Slc×Slc×Slc×Slc×Unit) (ap:Option lW) (fz:Slc×Slc×Slc×Int×Unit) (sl:Slc) (nm lm:Nat) (p:dtP) (A:dtA) (fa:dtF) (steps:List Stp):Prop where
 cells:DC φ (some a) (lkV t ap fz sl nm lm)
 pl:PlK φ t p
 kA:Pt F4 φ ap A
 f0:hC lH φ fz.1 fa.1
 f1:hC (kV (hM .i64)) φ fz.2.1 fa.2.1
 f2:hC (kV (hM .i64)) φ fz.2.2.1 fa.2.2.1
 f3:fz.2.2.2.1=fa.2.2.2
 ks:hC UU φ sl steps
section
variable {φ ψ:AD}{h:AH}{F:List Chk}{a:lW}{t:Slc×Slc×Slc×Slc×Slc×Slc×Unit}{p:dtP}{ap:Option lW}{A:dtA}{fz:Slc×Slc×Slc×Int×Unit}{sl:Slc}{nm lm b:Nat}{fa:dtF}{steps:List Stp}
theorem LkK.mono (H:LkK φ a t ap fz sl nm lm p A fa steps) (b:Sub φ ψ):LkK ψ a t ap fz sl nm lm p A fa steps:=
 ⟨H.cells.mono b,H.pl.mono b,H.kA.mono b,H.f0.mono b,H.f1.mono b,H.f2.mono b,H.f3,H.ks.mono b⟩
theorem LkK.at (H:LkK φ a t ap fz sl nm lm p A fa steps) (st:St φ F h) {j:Nat}{v:lV}(b:(lkV t ap fz sl nm lm)[j]? =some v):BJ h (a.add j)=some v:=AM st.sub (H.cells.at j b)
theorem LkK.pv (H:LkK φ a t ap fz sl nm lm p A fa steps) (st:St φ F h):∀j v,(plV t)[j]? =some v→BJ h (a.add j)=some v:=λj v b=>H.at st (by
 rw[kK (kL.1 b).1];exact b)
theorem LkK.pt (H:LkK φ a t ap fz sl nm lm p A fa steps):Pt UV φ (some a) (lkT p A fa steps (some nm) (some lm)):=by
 refine⟨a,_,rfl,?_,H.cells⟩;exact⟨[_],_,rfl,⟨t.1,rfl,H.pl.k0⟩,[_],_,rfl,⟨t.2.1,rfl,H.pl.k1⟩,[_],_,rfl,⟨t.2.2.1,rfl,H.pl.k2⟩,[_],_,rfl,⟨t.2.2.2.1,rfl,H.pl.k3⟩,[_],_,rfl,⟨t.2.2.2.2.1,rfl,H.pl.k4⟩,[_],_,rfl,⟨t.2.2.2.2.2.1,rfl,H.pl.k5⟩,[_],_,rfl,⟨ap,rfl,H.kA⟩,
  [_],_,rfl,⟨fz.1,rfl,H.f0⟩,[_],_,rfl,⟨fz.2.1,rfl,H.f1⟩,[_],_,rfl,⟨fz.2.2.1,rfl,H.f2⟩,[_],_,rfl,(show[Value.int .i64 fz.2.2.2.1] = [Value.int .i64 fa.2.2.2] by rw[H.f3]),[_],_,rfl,⟨sl,rfl,H.ks⟩,[_],_,rfl,rfl,rfl⟩
end
abbrev RdS:Type:=List Aa×List (List Int)
noncomputable def RF (p:dtP) (A:dtA) (fa:dtF) (steps:List Stp) (a:List (Stp×Int)) (st:RdS) (s:Stp) (to:Int):Option RdS:=(CH (nT p)).bind λc=>(CJ (lkT p A fa steps none none) to 0).bind λb=>(cond b ((Aw c 0).bind λu=>some u.2) (some c)).bind λs1=>(Cn A to).bind λes=>(forS (σ:=Aa×List Int) 0 (es.length:Int) (s1,[]) λj z=>(idx es j).bind λe=>(BU p e.1).bind λt=>cond t ((Aw z.1 e.1).bind λu=>some (u.2,z.2)) ((idx fa.1 (kJ .i64 (e.1 - nT p))).bind λb=>cond b ((app z.2 [(BX (to,e.1) a).getD 0]).bind λl=>some (z.1,l)) (some z))).bind λz=>(app st.1 [z.1]).bind λd=>(app st.2 [z.2]).bind λf=>some (d,f)
structure RdX where
 dl:Slc
 el:Slc
 ps:List (Option lW)
 ds:List Aa
 es:List (List Int)
 eq:ps.length=ds.length
abbrev rdC (b c nm:Nat) (a:List (Stp×Int)) (x:RdX):List Chk:=
 cW 140 b [sv x.dl]::cW 129 c [sv x.el]::FW x.dl x.ps::WB x.el x.es::cM DG (hM .i64) nm a::AV x.ps x.ds
theorem aO:GU eE 30 30 3 1:=app28
section
variable {φ ψ:AD}{h:AH}{F:List Chk}{a:lW}{t:Slc×Slc×Slc×Slc×Slc×Slc×Unit}{p:dtP}{ap:Option lW}{A:dtA}{fz:Slc×Slc×Slc×Int×Unit}{sl:Slc}{nm lm b:Nat}{fa:dtF}{steps:List Stp}
theorem Tg {b c:Nat}{a:List (Stp×Int)}{x:RdX}{q:Option lW}{s:Aa}{d e:Slc}{es:List (List Int)}
 (H:St φ (cW 129 c [sv e]::cW 140 b [sv d]::WB e es::FW d (x.ps++ [q])::Bc q s::cM DG (hM .i64) nm a::(AV x.ps x.ds++F)) h):
 St φ (rdC b c nm a ⟨d,e,x.ps++ [q],x.ds++ [s],es,by simp[x.eq]⟩ ++F) h:=by have f:AV (x.ps++ [q]) (x.ds++ [s])=AV x.ps x.ds++ [Bc q s]:=Ls x.eq q s;show St φ (cW 140 b [sv d]::cW 129 c [sv e]::FW d (x.ps++ [q])::WB e es::cM DG (hM .i64) nm a::(AV (x.ps++ [q]) (x.ds++ [s]) ++F)) h;rw[f,kF];refine H.perm<|(kG _ _ _).trans (bD _ (bD _ ((kG _ _ _).trans (bD _ (bD _ ((kG _ _ _).trans (bD _ ?_)))))));exact(bO (l₁:=AV x.ps x.ds)).symm
theorem WU {c2 D E:Nat}(K:LkK φ a t ap fz sl nm lm p A fa steps) (a6:EN φ ⟨c2,0,none⟩=some (.pointer (some a))) {f:List (Stp×Int)}{x:RdX}{n s to:Int}{r:RdS}(hd:RF p A fa steps f (x.ds,x.es) (n,s) to=some r) (s0:St φ (rdC D E nm f x++F) h):
 CallsH eE 110 [.agg #[.int .i64 n,.int .i64 s],.int .i64 to,.pointer (jX c2),.pointer (jX D),.pointer (jX E)] h (Ae λv h'=>v= .tuple #[] ∧ ∃ψ x',Sub φ ψ∧(x'.ds,x'.es)=r∧St ψ (rdC D E nm f x'++F) h'):=by
 refine BF mixed func110 ?_;rw[show AT eE f110 [.agg #[.int .i64 n,.int .i64 s],.int .i64 to,.pointer (jX c2),.pointer (jX D),.pointer (jX E)] =EX (n,s,()) to c2 D E from JW (n,s,()) to c2 D E];unfold EX;unfold RF at hd;have⟨s00,b9,hd⟩:=bS hd;have⟨b,hb,hd⟩:=bS hd;have⟨c0,G,hd⟩:=bS hd;have⟨es,c1,hd⟩:=bS hd;have⟨X,c5,hd⟩:=bS hd;obtain⟨d',c6,hd⟩:=bS hd;obtain⟨e',Y,hd⟩:=bS hd;obtain rfl:=iS hd;have Z:∀ {ψ:AD} {Γ:List Chk} {w:AH},Sub φ ψ→St ψ Γ w→BJ w ⟨c2,0,none⟩=some (.pointer (some a)):=λle st=>AM st.sub (Aq le a6);have n0:t.1.2.1=p.1.length:=K.pl.k0.length;refine AU (vs:=[.int .i64 n,.int .i64 s]) s0 ?_;intro r1 h1 s1;have s1:=s1.tail;refine AL (x:=some a) (Z (kI _) s1) rfl<|AF _ rfl<|AL (x:=t.1) (by have:=K.at s1 (j:=0) rfl;rwa [add_zero]at this) rfl ?_;rw[n0];refine AE (ER s1 b9) ?_;rintro _ h2 ⟨ψ2,q,l2,a0,rfl,rfl,s2⟩;refine⟨q,rfl,?_⟩;refine AL (x:=some a) (Z a0 s2) rfl<|AE (G8 (K.mono a0).pt s2 (show CJ (lkT p A fa steps (some nm) (some lm)) to 0=some b from hb)) ?_;rintro _ h3 ⟨ψ3,y3,c7,rfl,rfl,s3⟩;refine⟨y3,rfl,?_⟩;have V:=a0.trans c7;refine Ad (λ(_:Unit) w g=>∃ψ,Sub φ ψ∧St ψ (Bc q g::(rdC D E nm f x++F)) w) (g:=c0) ?_ ?_
 ·refine kD G rfl (λG=>?_) (λG=>?_)
  ·have⟨u,hu,G⟩:=bS G;obtain rfl:=iS G;refine AE (CX s3 hu) ?_;rintro _ h4 ⟨ψ4,y4,l4,N,rfl,e4,s4⟩;refine⟨y4,rfl,?_⟩
   have:u.2=l4:=by rw[←e4]
   rw[this];exact jY rfl ⟨ψ4,V.trans N,s4⟩
  ·obtain rfl:=iS G;exact jY rfl ⟨ψ3,V,s3⟩
 ·rintro _ h4 ⟨ψ4,N,s4⟩;refine AL (x:=some a) (Z N s4) rfl<|AF _ rfl<|AL (x:=ap) ((K.mono N).at s4 (j:=6) rfl) rfl<|AE (F7 (K.mono N).kA s4 c1) ?_;rintro _ h5 ⟨ψ5,c8,l5,c9,rfl,rfl,a7,s5⟩;refine⟨c8,rfl,?_⟩;have a8:=a7.length;have W:=N.trans c9;refine Av (λ(z:Int×Slc×Unit) w g=>∃ψ,Sub φ ψ∧St ψ (cR 3 (hM .i64) z.2.1 g.2::Bc q g.1::(rdC D E nm f x++F)) w) (g:=X) ?_ ?_
  ·refine Cp c5 (λi (z:Int×Slc×Unit) w g=>z.1=i∧ ∃ψ,Sub ψ5 ψ∧St ψ (cR 3 (hM .i64) z.2.1 g.2::Bc q g.1::(rdC D E nm f x++F)) w) ((0:Int),((none,0,0):Slc),()) rfl ⟨rfl,ψ5,kI _,lO _ _ s5⟩ ?_ ?_
   ·rintro i z w ⟨gs,gl⟩ e ⟨rfl,ψ6,B,s6⟩ o h0 hlt hw;dsimp only at s6 o;have L:=W.trans B;refine Ai (by rw[a8];exact decide_eq_true hlt) ?_;have⟨U,d0,o⟩:=bS o;have⟨tm,d1,o⟩:=bS o;obtain⟨A1,e5,d2,d3,q1,a9⟩:=(a7.mono B).get d0;refine AF _ d2 (Am d3 ?_);obtain⟨_,_,rfl,rfl,rfl⟩:=q1;refine AL (x:=U.1) (AM s6.sub (a9 0 _ rfl)) rfl<|AL (x:=U.2) (by rw[Ac];exact AM s6.sub (a9 1 _ rfl)) rfl<|AU (vs:=[.int .i64 0,.int .i64 0]) s6 ?_;intro P h7 s7;refine Cj (b:=P) (j:=0) (v:=.int .i64 U.1) s7 rfl (by simp) ?_;intro h8 Q;refine Cj (b:=P) (j:=1) (v:=.int .i64 U.2) Q rfl (by simp) ?_;intro h9 C;refine AL (x:=some a) (Z L C) rfl<|AF _ rfl (U8 (v:=.nilFunc) ((K.mono L).pv C) (C.cell rfl) (K.mono L).pl C d1 ?_);intro b0 a1 M c;have d:=L.trans M;refine Ad (λ(y:Slc×Unit) w g=>∃ψ,Sub ψ5 ψ∧St ψ (cR 3 (hM .i64) y.1 g.2::Bc q g.1::(rdC D E nm f x++F)) w) (g:=e) ?_ ?_
    ·refine kD o rfl (λo=>?_) (λo=>?_)
     ·have⟨u,hu,o⟩:=bS o;obtain rfl:=iS o;refine AA (b:=P) (j:=0) (x:=U.1) c rfl<|AE (CX (c.tail.at1) hu) ?_;rintro _ O ⟨d4,d5,d6,b1,rfl,d7,l⟩;refine⟨d5,rfl,?_⟩
      have:u.2=d6:=by rw[←d7]
      rw[this];exact jY rfl ⟨d4,(B.trans M).trans b1,l.at1⟩
     ·have⟨bb,d8,o⟩:=bS o;refine AL (x:=some a) (Z d c) rfl<|AF _ rfl<|AL (x:=fz.1) ((K.mono d).at c (j:=7) rfl) rfl<|AA (b:=P) (j:=0) (x:=U.1) c rfl<|AL (x:=some a) (Z d c) rfl<|AF _ rfl<|AL (x:=t.1) (by have:=(K.mono d).at c (j:=0) rfl;rwa [add_zero]at this) rfl ?_;rw[n0];obtain⟨A2,e6,d9,e0,q4,e1⟩:=((K.mono d).f0).get d8;refine AF _ d9 (Am e0 ?_);obtain rfl:=q4;refine AL (x:=bb) (AM c.sub (e1 0 _ rfl)) rfl<|Ad (λ(y:Slc×Unit) w g=>∃ψ,Sub ψ5 ψ∧St ψ (cR 3 (hM .i64) y.1 g.2::Bc q g.1::(rdC D E nm f x++F)) w) (g:=e) ?_ ?_
      ·refine kD o rfl (λo=>?_) (λo=>?_)
       ·obtain⟨l',e2,o⟩:=bS o;obtain rfl:=iS o;refine AL (x:=some a) (Z d c) rfl<|AF _ rfl<|AL (x:=some nm) ((K.mono d).at c (j:=12) rfl) rfl<|AA (b:=P) (j:=0) (x:=U.1) c rfl<|HR (kk:=DG) (a:=.int .i64) (k:=(to,U.1)) (m:=f) (0:Int) lF Tf (i:=t3) (by kernel_rfl) rfl (c.at7)<|AU (vs:=[.int .i64 ((BX (to,U.1) f).getD 0)]) c ?_;intro e7 O l;have cw:=kW l;refine AZ (r:=hM .i64) (ms:=[(BX (to,U.1) f).getD 0]) aO (l.at2) rfl cw (.cons (a:=[_]) rfl .nil) rfl e2 ?_;intro e8 a2 I;exact jY rfl ⟨b0,B.trans M,I.at1.tail.at1.tail⟩
       ·obtain rfl:=iS o;exact jY rfl ⟨b0,B.trans M,c.tail⟩
      ·rintro y O H;exact jY rfl H
    ·rintro y O H;exact jZ rfl rfl ⟨hw,H⟩
   ·rintro i z w ⟨rfl,ψ6,B,H⟩ hge;refine AW (by rw[a8];exact decide_eq_false (kQ.2 hge))<|AO (kB rfl ⟨ψ6,W.trans B,H⟩)
  ·rintro J h6 ⟨ψ6,B,s6⟩;have⟨ψ7,e3,a3,s7⟩:=kO (t:=J.2.1) s6;have R:=B.trans e3;obtain⟨a4,rfl⟩:=OK c6 x.eq q;refine AA (b:=D) (j:=0) (x:=x.dl) s7.at1 rfl<|AA (b:=E) (j:=0) (x:=x.el) s7.at2 rfl<|Dk ?_ ?_
   ·refine AU (vs:=[.pointer q]) s7 ?_;intro e9 h8 Q;refine AI (Q.at3.cell rfl)<|AI (Q.at2.cell rfl) ?_;have cw:=kW Q;refine Dk ?_ ?_
    ·refine AZ (r:=lG) (ms:=[q]) SK (Q.at4) rfl cw (.cons (a:=[_]) rfl .nil) rfl a4 ?_;intro b2 h9 C;refine AI (C.at4.cell rfl)<|AU (vs:=[sv J.2.1]) C ?_;intro f1 a1 c;refine AI (c.at5.cell rfl) ?_;have S:=kW c;refine AZ (r:=kV (hM .i64)) (ms:=[X.2]) XB (c.at6) rfl S (.cons (a:=[_]) ⟨J.2.1,rfl,a3⟩ .nil) rfl Y ?_;intro b3 O l;refine Cj (b:=D) (j:=0) (v:=sv b2) (l.at5) rfl (by simp) ?_;intro a2 I;refine Cj (b:=E) (j:=0) (v:=sv b3) (I.at6) rfl (by simp) ?_;intro b4 T;exact AB ⟨rfl,ψ7,⟨b2,b3,x.ps++ [q],x.ds++ [X.1],e',by simp[x.eq]⟩,R,rfl,Tg T.at3.tail.at4.tail⟩
    ·refine AU (vs:=[sv J.2.1]) Q ?_;intro f2 h9 C;refine AI (C.at4.cell rfl)<|AI (C.at3.cell rfl) ?_;have a5:=kW C.at1;refine AZ (r:=lG) (ms:=[q]) SK (C.at5) rfl a5 (.cons (a:=[_]) rfl .nil) rfl a4 ?_;intro b5 a1 c;refine AI (c.at5.cell rfl) ?_;have S:=kW c.at1;refine AZ (r:=kV (hM .i64)) (ms:=[X.2]) XB (c.at6) rfl S (.cons (a:=[_]) ⟨J.2.1,rfl,a3⟩ .nil) rfl Y ?_;intro b6 O l;refine Cj (b:=D) (j:=0) (v:=sv b5) (l.at5) rfl (by simp) ?_;intro a2 I;refine Cj (b:=E) (j:=0) (v:=sv b6) (I.at6) rfl (by simp) ?_;intro b4 T;exact AB ⟨rfl,ψ7,⟨b5,b6,x.ps++ [q],x.ds++ [X.1],e',by simp[x.eq]⟩,R,rfl,Tg T.at4.tail.at4.tail⟩
   ·refine AU (vs:=[sv J.2.1]) s7 ?_;intro f3 h8 Q;refine AI (Q.at3.cell rfl)<|AI (Q.at2.cell rfl)<|AU (vs:=[.pointer q]) Q ?_;intro f4 h9 C;refine AI (C.at4.cell rfl)<|AI (C.at3.cell rfl) ?_;have a5:=kW C;refine AZ (r:=lG) (ms:=[q]) SK (C.at5) rfl a5 (.cons (a:=[_]) rfl .nil) rfl a4 ?_;intro b7 a1 c;refine AI (c.at5.cell rfl) ?_;have S:=kW c.at2;refine AZ (r:=kV (hM .i64)) (ms:=[X.2]) XB (c.at6) rfl S (.cons (a:=[_]) ⟨J.2.1,rfl,a3⟩ .nil) rfl Y ?_;intro b8 O l;refine Cj (b:=D) (j:=0) (v:=sv b7) (l.at5) rfl (by simp) ?_;intro a2 I;refine Cj (b:=E) (j:=0) (v:=sv b8) (I.at6) rfl (by simp) ?_;intro b4 T;exact AB ⟨rfl,ψ7,⟨b7,b8,x.ps++ [q],x.ds++ [X.1],e',by simp[x.eq]⟩,R,rfl,Tg T.at4.tail.at4.tail⟩
end
noncomputable def PN (p:dtP) (A:dtA) (fa:dtF) (steps:List Stp) (a:List (Stp×Int)):Option RdS:=Rs p A (RF p A fa steps a) ([],[])
noncomputable def aQ (p:dtP) (A:dtA) (fa:dtF) (c:List (Stp×Int)) (n:Int) (a:List Int) (i:Int) (z:Int×List (List Int)):Option (Int×List (List Int)):=(idx a i).bind λsym=>need (0≤i∧i< (a.length:Int))<|(ED fa p (a.drop (i+1).toNat)).bind λe=>(cond e.2 ((BU p sym).bind λt=>some (!t)) (some false)).bind λb=>(cond b ((idx z.2 ((BX (z.1,sym) c).getD 0)).bind λrow=>(app row [n]).bind λd=>Ea z.2 ((BX (z.1,sym) c).getD 0) d) (some z.2)).bind λf=>(Ay A z.1 sym).bind λst=>some (st,f)
noncomputable def HT (p:dtP) (A:dtA) (fa:dtF) (steps:List Stp) (a:List (Stp×Int)):Option (List (List Int)):=(GW (steps.length:Int) ([]:List Int)).bind λb=>forS (σ:=List (List Int)) 0 (steps.length:Int) b λn E=>(idx steps n).bind λs=>forS (σ:=List (List Int)) 0 (p.2.2.1.length:Int) E λk E=>(idx p.2.2.1 k).bind λr=>cond (r.1 !=s.2) (some E) ((forS (σ:=Int×List (List Int)) 0 (r.2.1.length:Int) (s.1,E) (aQ p A fa a n r.2.1)).bind λz=>some z.2)
section
variable {φ ψ:AD}{h:AH}{F:List Chk}{a:lW}{t:Slc×Slc×Slc×Slc×Slc×Slc×Unit}{p:dtP}{ap:Option lW}{A:dtA}{fz:Slc×Slc×Slc×Int×Unit}{sl:Slc}{nm lm b:Nat}{fa:dtF}{steps:List Stp}
theorem fc (l:Option lW) (c2 a b:Nat):Hk l c2 a b=dG l 110 λn s to=>[.agg #[.int .i64 n,.int .i64 s],.int .i64 to,.pointer (jX c2),.pointer (jX a),.pointer (jX b)]:=rfl
theorem aR {c2 d f:Nat}(K:LkK φ a t ap fz sl nm lm p A fa steps) (c:EN φ ⟨c2,0,none⟩=some (.pointer (some a))) {b:List (Stp×Int)}{x:RdX}{r:RdS}(hd:Rs p A (RF p A fa steps b) (x.ds,x.es)=some r) (g:St φ (rdC d f nm b x++F) h):
 CallsH eE 66 [.pointer (some a),.func (.func 110) #[] #[.pointer (jX c2),.pointer (jX d),.pointer (jX f)]] h (Ae λv i=>v= .tuple #[] ∧ ∃ψ x',Sub φ ψ∧(x'.ds,x'.es)=r∧St ψ (rdC d f nm b x'++F) i):=by
 refine BF mixed func66 ?_;rw[LP,fc];refine XS (φ:=φ) (F:=F) (A:=A) (ap:=ap) (t:=t) (p:=p) (λx:RdX=>rdC d f nm b x) (λx=>(x.ds,x.es)) (RF p A fa steps b) _ _ ?_ ?_ K.kA K.pl hd g
 ·intro ψ x w Δ le st j v hv;refine(K.mono le).at st ?_;have e:lkV t ap fz sl nm lm=(plV t++ [.pointer ap]) ++ [sv fz.1,sv fz.2.1,sv fz.2.2.1,.int .i64 fz.2.2.2.1,sv sl,.map (some nm),.map (some lm)]:=rfl;rw[e,kK (kL.1 hv).1];exact hv
 ·intro ψ w x s' n s to Δ le st hf;exact WU (K.mono le) (Aq le c) hf st
theorem Yb (K:LkK φ a t ap fz sl nm lm p A fa steps) {c:List (Stp×Int)}{r:RdS}(hd:PN p A fa steps c=some r) (u:St φ (cM DG (hM .i64) nm c::F) h):
 CallsH eE 68 [.pointer (some a)] h (Ae λv w=>∃(ψ:AD) (m n:Slc) (ps:List (Option lW)),Sub φ ψ∧v=((.tuple [aS,aS]):Sh).val (m,n,())∧ps.length=r.1.length∧hC lG ψ m ps∧hC (kV (hM .i64)) ψ n r.2∧St ψ (AV ps r.1++(cM DG (hM .i64) nm c::F)) w):=by refine BF mixed func68 ?_;rw[LR];unfold Hl;unfold PN at hd;refine AU (vs:=[.pointer (some a)]) u ?_;intro M N s1;have⟨y,d,c1,s1⟩:=Dg.St.box s1;refine AU (vs:=[.slice none 0 0]) s1 ?_;intro o O z;refine AU (vs:=[.slice none 0 0]) z ?_;intro q B s;refine AL (x:=some a) (AM s.sub c1) rfl ?_;have C:St y (rdC o q nm c ⟨(none,0,0),(none,0,0),[],[],[],rfl⟩ ++F) B:=(lO 189 lG (lO 30 (kV (hM .i64)) s.at1)).at3.at3;refine AE (aR (K.mono d) c1 (x:=⟨(none,0,0),(none,0,0),[],[],[],rfl⟩) hd C) ?_;rintro _ P ⟨rfl,Q,x',f,D,g⟩;refine⟨(),rfl,?_⟩;obtain⟨i,k,ps,E,es,eq⟩:=x';obtain rfl:=D;refine AA (b:=o) (j:=0) (x:=i) g rfl<|AA (b:=q) (j:=0) (x:=k) g.at1 rfl ?_;have⟨R,l,G,H⟩:=kO (t:=i) g.at2;have⟨I,e,J,L⟩:=kO (t:=k) H.at2;exact AB ⟨I,i,k,ps,((d.trans f).trans l).trans e,rfl,eq,G.mono e,J,L.tail.tail.perm (bO (l₁:=AV ps E)).symm⟩
end
theorem gh:R9 eE 129 30 (.slice none 0 0):=⟨underlying129,⟨t30,by kernel_rfl,rfl,⟨_,rfl,rfl⟩,by decide⟩⟩
theorem aT {α:Type}{e:TypeId}{r:Ro α}{φ:AD}{h:AH}{F:List Chk}(st:St φ F h):∀n:Nat,St φ (SA e r (kZ n ((none,0,0):Slc)) (kZ n []) ++F) h:=by
 intro n
 induction n with
 |zero=>exact st
 |succ n a=>exact lO e r a
theorem aU {α:Type}{r:Ro α}{φ:AD}:∀ {ts:List Slc}{E:List (List α)}{vs:List lV},ts.length=E.length→(∀(i:Nat) t l,ts[i]? =some t→E[i]? =some l→hC r φ t l)→Ro.slc.All φ vs ts→(kV r).All φ vs E:=by
 intro ts
 induction ts with
 |nil=>
  intro E vs b c H;cases E with
  |nil=>cases H;exact .nil
  |cons _ _=>cases b
 |cons t ts d=>
  intro E vs b c H;cases E with
  |nil=>cases b
  |cons l E=>
   cases H with
   | @cons x v _ _ e f=>
    obtain rfl:x= [sv t]:=e;exact Ro.All.cons (a:=[_]) ⟨t,rfl,c 0 t l rfl rfl⟩ (d (by simpa using b) (λi g l' h j=>c (i+1) g l' (by simpa using h) (by simpa using j)) f)
theorem WV {α:Type}{r:Ro α}{φ:AD}{o:Slc}{ts:List Slc}{E:List (List α)}(a:ts.length=E.length) (b:∀(i:Nat) t l,ts[i]? =some t→E[i]? =some l→hC r φ t l) (H:hC lP φ o ts):hC (kV r) φ o E:=by obtain⟨c,d,e,f,vs,g,h⟩:=H;exact⟨a.symm.trans c,d,e,λj=>List.eq_nil_of_length_eq_zero (by rw[←a,f j];rfl),vs,aU a b g,h⟩
abbrev P3 (o:Slc) (ts:List Slc) (E:List (List Int)) (Δ:List Chk):List Chk:=cR 30 lP o ts::(SA 3 (hM .i64) ts E++Δ)
section
variable {φ ψ:AD}{h:AH}{F:List Chk}{a:lW}{t:Slc×Slc×Slc×Slc×Slc×Slc×Unit}{p:dtP}{ap:Option lW}{A:dtA}{fz:Slc×Slc×Slc×Int×Unit}{sl:Slc}{nm lm b:Nat}{fa:dtF}{steps:List Stp}
theorem dI {o:Slc}{ts:List Slc}{E l:List (List Int)}{Δ:List Chk}{k n:Int}{row c:List Int}{K:T}{P:Bs→AH→Prop}(z:ts.length=E.length) (A:idx E k=some row) (B:app row [n] =some c) (C:Ea E k c=some l) (st:St φ (P3 o ts E Δ) h)
 (D:∀ts' h',ts'.length=l.length→St φ (P3 o ts' l Δ) h'→K.wp eE P h'):
 (deref o.1 λm=>chk (0≤k∧k< (o.2.1:Nat))<|kU .slice (m.add (lR k *1)) λ(p:Slc)=>T.new (.cells #[(.int .i64 n)] 3 (0,0)) λd=>
  lU (Builtin.append_ #[30,30] 30 #[(sv p),(.slice (jX d) 1 1)]) (.one aS) λ(b:Slc)=>
  deref o.1 λq=>chk (0≤k∧k< (o.2.1:Nat))<|T.store (q.add (lR k *1)) (sv b)<|K).wp eE P h:=by
 have⟨k0,W,F⟩:=CU A;have g:k.toNat<ts.length:=by omega
 have w:=kT g;obtain⟨u,i⟩:∃u,ts[k.toNat] =u:=⟨_,rfl⟩;rw[i]at w;have G:idx ts k=some u:=by rw[JM k0 g,i]
 have⟨X,H,s,t,I,v⟩:=St.get st G;refine AF _ s (Am t ?_);obtain rfl:=I;refine AL (x:=u) (v 0 _ rfl) rfl<|AU (vs:=[.int .i64 n]) st ?_;intro d J s4;have L:=kW s4;have⟨rest,M,N⟩:=YB (f:=cR 3 (hM .i64)) w F;have O:St φ (cR 3 (hM .i64) u row::cW 3 d [.int .i64 n]::cR 30 lP o ts::(rest++Δ)) J:=
  s4.perm ((bD _ (bD _ (hA Δ M))).trans (BK 2 (cW 3 d [.int .i64 n]::cR 30 lP o ts::cR 3 (hM .i64) u row::(rest++Δ))))
 refine AZ (r:=hM .i64) (ms:=[n]) aO O rfl L (.cons (a:=[_]) rfl .nil) rfl B ?_;intro b Y Q;obtain⟨Z,e1,rfl⟩:=Eb C;have e:Ea ts k b=some (ts.set k.toNat b):=by unfold Ea;rw[if_pos ⟨k0,by omega⟩]
 have y:=Q.at2;have⟨A2,j,R⟩:=y.there e;refine AF _ j (Am R (Jq y e rfl j ?_));intro S U;refine D (ts.set k.toNat b) S (by simp[z]) ?_;have V:=U.at2.tail;exact V.perm (bD _ (hA Δ (N b c).symm))
theorem dJ {K:Slc→Slc→Slc→Slc→Slc→Slc→T}{P:Bs→AH→Prop}(b:∀j v,(plV t)[j]? =some v→BJ h (a.add j)=some v) (H:(K t.1 t.2.1 t.2.2.1 t.2.2.2.1 t.2.2.2.2.1 t.2.2.2.2.2.1).wp eE P h):
 (kU .slice a λ(t3:Slc)=>kU .slice (a.add 1) λ(t4:Slc)=>kU .slice (a.add 2) λ(t5:Slc)=>kU .slice (a.add 3) λ(t6:Slc)=>kU .slice (a.add 4) λ(t7:Slc)=>kU .slice (a.add 5) λ(t8:Slc)=>K t3 t4 t5 t6 t7 t8).wp eE P h:=by refine AL (x:=t.1) (by have:=b 0 _ rfl;rwa [add_zero]at this) rfl<|AL (x:=t.2.1) (b 1 _ rfl) rfl<|AL (x:=t.2.2.1) (b 2 _ rfl) rfl<|AL (x:=t.2.2.2.1) (b 3 _ rfl) rfl<|AL (x:=t.2.2.2.2.1) (b 4 _ rfl) rfl<|AL (x:=t.2.2.2.2.2.1) (b 5 _ rfl) rfl H
theorem CK {b:Nat}{vs:List lV}(c:DC φ (jX b) vs) (st:St φ F h) {j:Nat}{v:lV}(a:vs[j]? =some v):BJ h ⟨b,j,none⟩=some v:=by
 have:=AM st.sub (c.at j a)
 rwa [DB,lD]at this
theorem Th (gk:Dg.Glob φ) (K:LkK φ a t ap fz sl nm lm p A fa steps) {G:List (Stp×Int)}{r:List (List Int)}(hd:HT p A fa steps G=some r) (s0:St φ (cM DG (hM .i64) nm G::F) h):
 CallsH eE 71 [.pointer (some a)] h (Ae λv h'=>∃(ψ:AD) (y:Slc),Sub φ ψ∧v=((.one aS):Sh).val y∧hC (kV (hM .i64)) ψ y r∧St ψ (cM DG (hM .i64) nm G::F) h'):=by
 refine BF mixed func71 ?_;rw[Iw];unfold F9;unfold HT at hd;have⟨e0,b3,hd⟩:=bS hd;obtain⟨m0,m1,rfl⟩:=Qa b3;have nS:sl.2.1=steps.length:=K.ks.length;have nR:t.2.2.1.2.1=p.2.2.1.length:=K.pl.k2.length;obtain⟨I,X⟩:∃I:List Chk,I=cM DG (hM .i64) nm G::F:=⟨_,rfl⟩;refine AF _ rfl<|AL (x:=sl) (K.at s0 (j:=11) rfl) rfl<|Kk (r:=lP) (x:=((none,0,0):Slc)) (l:=kZ (steps.length:Int).toNat ((none,0,0):Slc)) gh s0 rfl rfl (by rw[nS];unfold GW;rw[if_pos ⟨m0,m1⟩]) ?_;intro o h1 s1;have s2:St φ (P3 o (kZ (steps.length:Int).toNat ((none,0,0):Slc)) (kZ (steps.length:Int).toNat []) I) h1:=by
  rw[X];exact(aT (e:=3) (r:=hM .i64) s1 _).perm (bO (l₁:=SA 3 (hM .i64) _ _))
 refine AF _ rfl<|AL (x:=sl) (K.at s2 (j:=11) rfl) rfl<|Av (λ(y:Int×Unit) w E=>∃ψ ts,Sub φ ψ∧ts.length=E.length∧St ψ (P3 o ts E I) w) (g:=r) ?_ ?_
 ·refine Cp hd (λi (y:Int×Unit) w E=>y.1=i∧ ∃ψ ts,Sub φ ψ∧ts.length=E.length∧St ψ (P3 o ts E I) w) ((0:Int),()) rfl ⟨rfl,φ,_,kI _,by simp,s2⟩ ?_ ?_
  ·rintro i z w E e ⟨rfl,ψ,ts,le,hl,st⟩ he h0 hlt hw;refine Ai (by rw[nS];exact decide_eq_true hlt) ?_;have⟨s,hs,he⟩:=bS he;obtain⟨A1,d6,b4,b5,q1,a3⟩:=(K.ks.mono le).get hs;refine AF _ b4 (Am b5 ?_);obtain⟨_,_,rfl,rfl,rfl⟩:=q1;refine AL (x:=s.1) (AM st.sub (a3 0 _ rfl)) rfl<|AL (x:=s.2) (by rw[Ac];exact AM st.sub (a3 1 _ rfl)) rfl<|AU (vs:=[.int .i64 0,.int .i64 0]) st ?_;intro a4 h3 s3;refine Cj (b:=a4) (j:=0) (v:=.int .i64 s.1) s3 rfl (by simp) ?_;intro h4 s4;refine Cj (b:=a4) (j:=1) (v:=.int .i64 s.2) s4 rfl (by simp) ?_;intro h5 s5;have⟨ψ1,Y,cB,P⟩:=lJ s5;have J:=le.trans Y;refine AF _ rfl<|AL (x:=t.2.2.1) ((K.mono J).at P (j:=2) rfl) rfl<|Av (λ(y:Int×Unit) w E=>∃ψ ts,Sub φ ψ∧ts.length=E.length∧St ψ (P3 o ts E I) w) (g:=e) ?_ ?_
   ·refine Cp he (λi (y:Int×Unit) w E=>y.1=i∧ ∃ψ ts,Sub ψ1 ψ∧ts.length=E.length∧St ψ (P3 o ts E I) w) ((0:Int),()) rfl ⟨rfl,ψ1,ts,kI _,hl,P⟩ ?_ ?_
    ·rintro i2 z2 w2 E2 e2 ⟨rfl,ψ2,R,d,a5,S⟩ f d7 a6 b6;have W:=J.trans d;refine Ai (by rw[nR];exact decide_eq_true a6) ?_;have⟨ru,b7,f⟩:=bS f;refine Av (λ(_:Unit) w (_:Unit)=>∃ψ ts,Sub ψ1 ψ∧ts.length=e2.length∧St ψ (P3 o ts e2 I) w) (g:=()) ?_ ?_
     ·refine QI (K.pl.k2.mono W) b7 S ?_;intro d8 u h7 ku s7;have⟨ψ3,L,Z,s8⟩:=lJ s7;have ku:=ku.mono L;have a7:=W.trans L;have a8:=cB.mono (d.trans L);refine AL (x:=ru.1) (CK Z s8 (j:=0) rfl) rfl<|AL (x:=s.2) (CK a8 s8 (j:=1) rfl) rfl<|kD f rfl (λf=>?_) (λf=>?_)
      ·obtain rfl:=iS f;exact Vt () rfl ⟨ψ3,R,d.trans L,a5,s8⟩
      ·have⟨zz,b8,f⟩:=bS f;obtain rfl:=iS f;refine AL (x:=s.1) (CK a8 s8 (j:=0) rfl) rfl<|AL (x:=u) (CK Z s8 (j:=1) rfl) rfl ?_;have nu:=ku.length;refine Av (λ(y:Int×Int×Unit) w (g:Int×List (List Int))=>∃ψ ts,Sub ψ1 ψ∧ts.length=g.2.length∧St ψ (P3 o ts g.2 I) w) (g:=zz) ?_ ?_
       ·refine Cp b8 (λi (y:Int×Int×Unit) w (g:Int×List (List Int))=>y.1=i∧y.2.1=g.1∧ ∃ψ ts,Sub ψ3 ψ∧ts.length=g.2.length∧St ψ (P3 o ts g.2 I) w) ((0:Int),s.1,()) rfl ⟨rfl,rfl,ψ3,R,kI _,a5,s8⟩ ?_ ?_
        ·rintro i4 z4 w4 ⟨g1,E4⟩ e4 ⟨rfl,hg,ψ4,D,B,a0,n⟩ c d9 a9 T;dsimp only at hg a0 n c;subst hg;have M:=a7.trans B;unfold aQ at c;refine Ai (by rw[nu];exact decide_eq_true a9) ?_;have⟨sym,b9,c⟩:=bS c;have⟨_,c⟩:=CQ c;have⟨sq,b0,c⟩:=bS c;have⟨bb,C,c⟩:=bS c;obtain⟨E',q,c⟩:=bS c;have⟨so,c0,c⟩:=bS c;obtain rfl:=iS c;obtain⟨A4,e1,c1,c2,q4,c3⟩:=(ku.mono B).get b9;refine AF _ c1 (Am c2 ?_);obtain rfl:=q4;refine AL (x:=sym) (AM n.sub (c3 0 _ rfl)) rfl<|AF _ rfl ?_;have Q:=K.mono M;refine AL (x:=fz.1) (Q.at n (j:=7) rfl) rfl<|AL (x:=fz.2.1) (by rw[Ac];exact Q.at n (j:=8) rfl) rfl<|AL (x:=fz.2.2.1) (by rw[Ac];exact Q.at n (j:=9) rfl) rfl<|AL (x:=fz.2.2.2.1) (by rw[Ac];exact Q.at n (j:=10) rfl) rfl<|AF _ rfl (dJ (Q.pv n) ?_);refine AL (x:=u) (CK (Z.mono B) n (j:=1) rfl) rfl ?_;obtain⟨q5,kt⟩:=(ku.mono B).cut (cut_ok (ku.mono B) (lo:=kJ .i64 (z4.1+1)) (by rw[T];omega) (by rw[T];omega)) (sz:=1) rfl;refine Am q5 ?_;rw[←T]at b0;refine AE (MX (A:=fz) (gk.mono M) Q.f0 Q.f1 Q.f2 Q.pl kt n (r:=sq) (by rw[Q.f3];exact b0)) ?_;rintro _ h9 ⟨ψ5,y5,l5,b1,rfl,e5,k5,a1⟩;refine⟨y5,rfl,?_⟩;have c4:sq.2=y5.2.1:=by rw[←e5]
         rw[c4]at C;have N:=M.trans b1;refine Ad (λ(y:Bool×Unit) w g=>y.1=g∧ ∃ψ,Sub ψ5 ψ∧St ψ (P3 o D E4 I) w) (g:=bb) ?_ ?_
         ·refine kD C rfl (λC=>?_) (λC=>?_)
          ·have⟨tm,c5,C⟩:=bS C;obtain rfl:=iS C;refine AF _ rfl (Td ((K.mono N).pv a1) (K.mono N).pl a1 c5 ?_);intro ψ6 h6 U P;exact jY rfl ⟨rfl,ψ6,U,P⟩
          ·obtain rfl:=iS C;exact jY rfl ⟨rfl,ψ5,kI _,a1⟩
         ·rintro y c6 ⟨hy,ψ6,U,P⟩;obtain rfl:=hy;have O:=N.trans U;refine Ad (λ(_:Unit) w g=>∃ts,ts.length=g.length∧St ψ6 (P3 o ts g I) w) (g:=E') ?_ ?_
          ·refine AK q rfl (λ_ q=> ?_) (λ_ q=> ?_)
           ·obtain⟨row,b2,q⟩:=bS q;obtain⟨d5,a2,q⟩:=bS q;refine AF _ rfl<|AL (x:=some nm) ((K.mono O).at P (j:=12) rfl) rfl ?_;have sM:St ψ6 (cM DG (hM .i64) nm G::(cR 30 lP o D::(SA 3 (hM .i64) D E4++F))) c6:=by
             rw[X]at P;exact P.perm ((bD _ (bO (l₁:=SA 3 (hM .i64) D E4))).trans (kG _ _ _))
            refine HR (kk:=DG) (a:=.int .i64) (k:=(z4.2.1,sym)) (m:=G) (0:Int) lF Tf (i:=t3) (by kernel_rfl) rfl sM<|dI a0 b2 a2 q P ?_;intro c7 c8 c9 V;exact jY rfl ⟨c7,c9,V⟩
           ·obtain rfl:=iS q;exact jY rfl ⟨D,a0,P⟩
          ·rintro _ c8 ⟨d0,d1,V⟩;refine AF _ rfl<|AL (x:=ap) ((K.mono O).at V (j:=6) rfl) rfl<|AE (Dr (K.mono O).kA V c0) ?_;rintro _ e3 ⟨ψ7,y7,d2,rfl,rfl,d3⟩;refine⟨y7,rfl,?_⟩;exact jZ rfl rfl ⟨T,rfl,ψ7,d0,((B.trans b1).trans U).trans d2,d1,d3⟩
        ·rintro i4 z4 w4 ⟨rfl,hg,ψ4,D,B,H⟩ hge;refine AW (by rw[nu];exact decide_eq_false (kQ.2 hge))<|AO (kB rfl ⟨ψ4,D,(d.trans L).trans B,H⟩)
       ·rintro _ h9 H;exact kC rfl H
     ·rintro _ h9 H;exact jZ rfl rfl ⟨b6,H⟩
    ·rintro i2 z2 w2 ⟨rfl,ψ2,R,d,H⟩ hge;refine AW (by rw[nR];exact decide_eq_false (kQ.2 hge))<|AO (kB rfl ⟨ψ2,R,J.trans d,H⟩)
   ·rintro _ h9 H;exact jZ rfl rfl ⟨hw,H⟩
  ·rintro i z w ⟨rfl,H⟩ hge;refine AW (by rw[nS];exact decide_eq_false (kQ.2 hge))<|AO (kB rfl H)
 ·rintro _ h9 ⟨ψ,ts,le,hl,st⟩;have⟨ψ1,Y,k1,d4⟩:=kO (t:=o) st;have⟨ψ2,d,k2,S⟩:=St.freezeRows hl d4;rw[X]at S;exact AB ⟨ψ2,o,(le.trans Y).trans d,rfl,WV hl k2 (k1.mono d),S⟩
end
abbrev At:Type:=gM
def mz (ps:List (Option lW)) (L:List (At×Aa)):List (At×Option lW):=List.zipWith (λp e=>(e.1,p)) ps L
theorem XT {k:At}:∀ {ps:List (Option lW)}{L:List (At×Aa)},BX k L=none→BX k (mz ps L)=none:=by
 intro ps
 induction ps with
 |nil=>intro L _;rfl
 |cons p ps a=>
  intro L h;cases L with
  |nil=>rfl
  |cons e L=>
   simp only[BX]at h;split at h
   ·cases h
   ·rename_i b
    show BX k ((e.1,p)::mz ps L)=none;simp only[BX];rw[if_neg b];exact a h
theorem VA {k:At}{s:Aa}{p:Option lW}:∀ {ps:List (Option lW)}{L:List (At×Aa)},ps.length=L.length→BX k L=none→CA k s L=L++ [(k,s)] ∧CA k p (mz ps L)=mz (ps++ [p]) (L++ [(k,s)]):=by
 intro ps
 induction ps with
 |nil=>
  intro L a _;cases L with
  |nil=>exact⟨rfl,rfl⟩
  |cons _ _=>cases a
 |cons q ps c=>
  intro L a h;cases L with
  |nil=>cases a
  |cons e L=>
   simp only[BX]at h;split at h
   ·cases h
   ·rename_i b
    obtain⟨d,f⟩:=c (L:=L) (by simpa using a) h;refine⟨?_,?_⟩
    ·simp only[CA,if_neg b,d];rfl
    ·show CA k p ((e.1,q)::mz ps L)=(e.1,q)::mz (ps++ [p]) (L++ [(k,s)]);simp only[CA,if_neg b,f]
theorem QJ {k:At}{s:Aa}:∀ {ps:List (Option lW)}{L:List (At×Aa)},ps.length=L.length→BX k L=some s→
 ∃(i:Nat) (p:Option lW),ps[i]? =some p∧(L.map (·.2))[i]? =some s∧BX k (mz ps L)=some p∧(∀s',(CA k s' L).map (·.2)=(L.map (·.2)).set i s'∧mz ps (CA k s' L)=mz ps L∧(CA k s' L).length=L.length)∧ ∀s' a,CA k a (mz ps L)=mz (ps.set i a) (CA k s' L):=by
 intro ps
 induction ps with
 |nil=>
  intro L c h;cases L with
  |nil=>cases h
  |cons _ _=>cases c
 |cons q ps d=>
  intro L c h;cases L with
  |nil=>cases c
  |cons e L=>
   simp only[BX]at h;split at h
   ·rename_i b
    cases h;refine⟨0,q,rfl,rfl,?_,λs'=> ?_,λs' a=> ?_⟩
    ·show BX k ((e.1,q)::mz ps L)=some q;simp only[BX,if_pos b]
    ·simp only[CA,if_pos b];exact⟨rfl,rfl,rfl⟩
    ·show CA k a ((e.1,q)::mz ps L)=mz (a::ps) (CA k s' (e::L));simp only[CA,if_pos b];rfl
   ·rename_i b
    obtain⟨i,p,f,g,j,l,m⟩:=d (L:=L) (by simpa using c) h;refine⟨i+1,p,by simpa using f,by simpa using g,?_,λs'=> ?_,λs' a=> ?_⟩
    ·show BX k ((e.1,q)::mz ps L)=some p;simp only[BX,if_neg b];exact j
    ·have⟨n,o,r⟩:=l s';simp only[CA,if_neg b,List.map_cons,List.set_cons_succ,List.length_cons];refine⟨by rw[n],?_,by rw[r]⟩;show(e.1,q)::mz ps (CA k s' L)=(e.1,q)::mz ps L;rw[o]
    ·show CA k a ((e.1,q)::mz ps L)=mz (q::ps.set i a) (CA k s' (e::L));simp only[CA,if_neg b];show(e.1,q)::CA k a (mz ps L)=(e.1,q)::mz (ps.set i a) (CA k s' L);rw[m s']
abbrev LkL:Type:=List (At×Aa)
noncomputable def VB (p:dtP) (A:dtA) (b:List Aa) (n:Int) (s:Stp) (k:Int) (L:LkL):Option LkL:=(idx p.2.2.1 k).bind λr=>cond (r.1 !=s.2) (some L) ((C1 A s.1 r.2.1).bind λw=>(cond (BX (w,k) L).isNone ((CH (nT p)).bind λc=>some (CA (w,k) c L)) (some L)).bind λa=>(idx b n).bind λo=>(BX (w,k) a).bind λs'=>need (OkS s'∧OkS o)<|some (CA (w,k) (BN s' o) a))
noncomputable def SU (p:dtP) (A:dtA) (fa:dtF) (steps:List Stp) (a:List Aa):Option LkL:=(forS (σ:=LkL) 0 (steps.length:Int) [] λn L=>(idx steps n).bind λs=>forS (σ:=LkL) 0 (p.2.2.1.length:Int) L λk L=>VB p A a n s k L).bind λL=>(CI A).bind λm=>forS (σ:=LkL) 0 m L λn L=>(CJ (lkT p A fa steps none none) n 0).bind λb=>cond b ((DM (nT p) [0]).bind λs=>some (CA (n,0) s L)) (some L)
abbrev giC (lm:Nat) (ps:List (Option lW)) (L:LkL) (Δ:List Chk):List Chk:=cM DG lG lm (mz ps L)::(AV ps (L.map (·.2)) ++Δ)
section
variable {φ ψ:AD}{h:AH}{F:List Chk}{a:lW}{t:Slc×Slc×Slc×Slc×Slc×Slc×Unit}{p:dtP}{ap:Option lW}{A:dtA}{fz:Slc×Slc×Slc×Int×Unit}{sl:Slc}{nm lm b:Nat}{fa:dtF}{steps:List Stp}
theorem SV {φ:AD}{h:AH}{F:List Chk}{p:Option lW}{s:Aa}(H:St φ (Bc p s::F) h):p.isNone=false:=by have⟨b,e⟩:=St.ptr H;rw[e];rfl
theorem aV {ps:List (Option lW)}{L:LkL}{Δ:List Chk}{k:At}{q:Option lW}{s:Aa}(a:ps.length=L.length) (st:St φ (cM DG lG lm (CA k q (mz ps L))::Bc q s::(AV ps (L.map (·.2)) ++Δ)) h):
 ∃b,b.length=(CA k s L).length∧St φ (giC lm b (CA k s L) Δ) h:=by
 cases hg:BX k L with
 |none=>
  have⟨c,d⟩:=VA (s:=s) (p:=q) a hg;refine⟨ps++ [q],by rw[c];simp[a],?_⟩;rw[d]at st;have e:AV (ps++ [q]) ((CA k s L).map (·.2))=AV ps (L.map (·.2)) ++ [Bc q s]:=by
   rw[c,List.map_append];exact Ls (by simpa using a) q s
  show St φ (cM DG lG lm (mz (ps++ [q]) (CA k s L))::(AV (ps++ [q]) ((CA k s L).map (·.2)) ++Δ)) h;rw[e,kF,c];exact st.perm (bD _ (bO (l₁:=AV ps (L.map (·.2)))).symm)
 |some t=>
  have⟨i,u,c,d,v,j,l⟩:=QJ a hg;have⟨m,w,n⟩:=j s;refine⟨ps.set i q,by simp[n,a],?_⟩;rw[l s q]at st;have⟨rest,o,r⟩:=JQ c d;show St φ (cM DG lG lm (mz (ps.set i q) (CA k s L))::(AV (ps.set i q) ((CA k s L).map (·.2)) ++Δ)) h;rw[m];have f:=st.perm (bD _ (bD _ (hA Δ o)));have g:=f.at2.tail;exact g.perm (bD _ (hA Δ (r q s).symm))
noncomputable def aW (b i:Option lW) (j:Nat) (n:Int) (a:Nat):T:=deref b λk=>jU k 13 λl=>jA a 0 λm=>jA a 1 λo=>lU (Instr.lookup 134 (.map l) (.agg #[(.int .i64 m),(.int .i64 o)]) false) (.one aP) λp=>T.join [] (cond (Option.isNone p) (deref b λc=>jU c 13 λd=>jA a 0 λe=>jA a 1 λf=>deref b λq=>jS q λr=>lN 111 [(.int .i64 (r.2.1:Int))] (.one aP) λs=>jV a 0 e<|jV a 1 f<|T.still (c.add 13) (.map d)<|lU (Sem.bind (Instr.mapUpdate 134 (.map d) (.agg #[(.int .i64 e),(.int .i64 f)]) (.pointer s)) λ_=>.pure undef) (.tuple []) λ_=>lQ []) (lQ [])) λ_=>deref b λt=>jU t 13 λu=>jA a 0 λv=>jA a 1 λw=>deref i λg=>chk (0≤n∧n< (j:Nat))<|jP g n 1 λh=>lU (Instr.lookup 134 (.map u) (.agg #[(.int .i64 v),(.int .i64 w)]) false) (.one aP) λx=>T.still (g.add (lR n *1)) (.pointer h)<|lN 114 [(.pointer x),(.pointer h)] (.one aB) λ_=>lQ []
theorem aX (gk:Dg.Glob φ) (K:LkK φ a t ap fz sl nm lm p A fa steps) {G:Slc}{qs:List (Option lW)}{f:List Aa}(kf:hC lG φ G qs) (hq:qs.length=f.length) {n w k:Int}{u:Nat}(l:DC φ (jX u) [.int .i64 w,.int .i64 k]) {L c:LkL}{o s':Aa}{ps:List (Option lW)}{Δ:List Chk}{P:Bs→AH→Prop}
 (s:cond (BX (w,k) L).isNone ((CH (nT p)).bind λv=>some (CA (w,k) v L)) (some L)=some c) (ho:idx f n=some o) (hs:BX (w,k) c=some s') (ok:OkS s'∧OkS o) (H:ps.length=L.length) (st:St φ (giC lm ps L (AV qs f++Δ)) h)
 (hk:∀ψ b h',Sub φ ψ→b.length=(CA (w,k) (BN s' o) c).length→St ψ (giC lm b (CA (w,k) (BN s' o) c) (AV qs f++Δ)) h'→P (.out []) h'):(aW (some a) G.1 G.2.1 n u).wp eE P h:=by
 unfold aW;have n0:t.1.2.1=p.1.length:=K.pl.k0.length;refine AF _ rfl<|AL (x:=some lm) (K.at st (j:=13) rfl) rfl<|AL (x:=w) (CK l st (j:=0) rfl) rfl<|AL (x:=k) (CK l st (j:=1) rfl) rfl<|HR (kk:=DG) (a:=.pointer) (k:=(w,k)) (m:=mz ps L) (none:Option lW) kY U9 (i:=t189) (by kernel_rfl) rfl st<|Ad (λ(_:Unit) wd g=>∃ψ b,Sub φ ψ∧b.length=g.length∧St ψ (giC lm b g (AV qs f++Δ)) wd) (g:=c) ?_ ?_
 ·cases hg:BX (w,k) L with
  |none=>
   rw[hg]at s;have⟨v,h0,s⟩:=bS (show((CH (nT p)).bind λv=>some (CA (w,k) v L))=some c from s);obtain rfl:=iS s;rw[XT hg];refine Ai rfl<|AF _ rfl<|AL (x:=some lm) (K.at st (j:=13) rfl) rfl<|AL (x:=w) (CK l st (j:=0) rfl) rfl<|AL (x:=k) (CK l st (j:=1) rfl) rfl<|AF _ rfl<|AL (x:=t.1) (by have:=K.at st (j:=0) rfl;rwa [add_zero]at this) rfl ?_;rw[n0];refine AE (ER st h0) ?_;rintro _ D ⟨ψ2,q,l2,e,rfl,rfl,E⟩;refine⟨q,rfl,?_⟩;refine AI (CK (l.mono e) E (j:=0) rfl)<|AI (CK (l.mono e) E (j:=1) rfl)<|AI ((K.mono e).at E (j:=13) rfl)<|Ki (kk:=DG) (k:=(w,k)) (y:=q) kY U9 E.at1 rfl ?_;intro F s3;obtain⟨b,I,J⟩:=aV H s3;exact jY rfl ⟨ψ2,b,e,I,J⟩
  |some v=>
   rw[hg]at s;obtain rfl:=iS (show some L=some c from s);have⟨i,W,N,D,F,O,X⟩:=QJ H hg;have⟨rest,Q,_⟩:=JQ N D;have hp:W.isNone=false:=SV (st.tail.perm (hA (AV qs f++Δ) Q));rw[F];refine AW hp<|jY rfl ⟨φ,ps,kI _,H,st⟩
 ·rintro _ O ⟨Y,b,d,z,r⟩;have⟨i0,i1,i2⟩:=CU ho;have B:n.toNat<qs.length:=by omega
  have R:=kT B;have⟨i,W,N,D,F,X,h6⟩:=QJ z hs;refine AF _ rfl<|AL (x:=some lm) ((K.mono d).at r (j:=13) rfl) rfl<|AL (x:=w) (CK (l.mono d) r (j:=0) rfl) rfl<|AL (x:=k) (CK (l.mono d) r (j:=1) rfl) rfl ?_;obtain⟨A1,a0,S,T,Q,C⟩:=(kf.mono d).get (JM i0 B);refine AF _ S (Am T ?_);obtain rfl:=Q;refine AL (x:=qs[n.toNat]) (AM r.sub (C 0 _ rfl)) rfl<|HR (kk:=DG) (a:=.pointer) (k:=(w,k)) (m:=mz b c) (none:Option lW) kY U9 (i:=t189) (by kernel_rfl) rfl r ?_;rw[F];refine AI (AM r.sub (C 0 _ rfl)) ?_;have⟨rq,b1,_⟩:=E0 R i2;obtain⟨M,Z⟩:∃M:Chk,M=cM DG lG lm (mz b c):=⟨_,rfl⟩;have s5:St Y (Bc qs[n.toNat] o::(AV b (c.map (·.2)) ++(M::(rq++Δ)))) O:=by
   have U:St Y (M::(AV b (c.map (·.2)) ++(AV qs f++Δ))) O:=by rw[Z];exact r
   refine U.perm<|(bD M (lA _ (hA Δ b1))).trans<|(bD M (bO (l₁:=AV b (c.map (·.2))))).trans ((kG _ _ _).trans (bD _ (bO (l₁:=AV b (c.map (·.2)))).symm))
  refine AE (Up (gk.mono d) D N ok s5) ?_;rintro _ h7 ⟨ψ7,V,rfl,s7⟩;refine⟨_,rfl,?_⟩;have⟨I,J,g3⟩:=X (BN s' o);refine hk ψ7 b h7 (d.trans V) (by rw[g3];exact z) ?_;show St ψ7 (cM DG lG lm (mz b (CA (w,k) (BN s' o) c))::(AV b ((CA (w,k) (BN s' o) c).map (·.2)) ++(AV qs f++Δ))) h7;rw[I,J,←Z];refine s7.perm<|((bD _ (bO (l₁:=AV b ((c.map (·.2)).set i (BN s' o))))).trans (kG _ _ _)).trans (bD M ?_);exact(bO (l₁:=AV b ((c.map (·.2)).set i (BN s' o)))).symm.trans (lA _ (hA Δ b1.symm))
end
section
variable {φ ψ:AD}{h:AH}{F:List Chk}{a:lW}{t:Slc×Slc×Slc×Slc×Slc×Slc×Unit}{p:dtP}{ap:Option lW}{A:dtA}{fz:Slc×Slc×Slc×Int×Unit}{sl:Slc}{nm lm b:Nat}{fa:dtF}{steps:List Stp}
theorem Ti (lm:Nat) (ps:List (Option lW)) (L:LkL) (Δ M:List Chk):giC lm ps L Δ++M=giC lm ps L (Δ++M):=by unfold giC;rw[List.cons_append,kF]
theorem aY (gk:Dg.Glob φ) (K:LkK φ a t ap fz sl nm lm p A fa steps) {fs:Slc}{qs:List (Option lW)}{C:List Aa}(kf:hC lG φ fs qs) (hq:qs.length=C.length) {r:LkL}(hd:SU p A fa steps C=some r) (s0:St φ (giC lm [] [] (AV qs C++F)) h):
 CallsH eE 69 [.pointer (some a),sv fs] h (Ae λv h'=>v= .tuple #[] ∧ ∃(ψ:AD) (ps:List (Option lW)),Sub φ ψ∧ps.length=r.length∧St ψ (giC lm ps r (AV qs C++F)) h'):=by
 refine BF mixed func69 ?_;rw[MU];unfold IF;unfold SU at hd;have⟨L1,b7,hd⟩:=bS hd;have⟨mm,b8,hd⟩:=bS hd;have nS:sl.2.1=steps.length:=K.ks.length;have nR:t.2.2.1.2.1=p.2.2.1.length:=K.pl.k2.length;have n0:t.1.2.1=p.1.length:=K.pl.k0.length;refine AF _ rfl<|AL (x:=sl) (K.at s0 (j:=11) rfl) rfl<|Av (λ(y:Int×Unit) w L=>∃ψ ps,Sub φ ψ∧ps.length=kH L∧St ψ (giC lm ps L (AV qs C++F)) w) (g:=L1) ?_ ?_
 ·refine Cp b7 (λi (y:Int×Unit) w L=>y.1=i∧ ∃ψ ps,Sub φ ψ∧ps.length=kH L∧St ψ (giC lm ps L (AV qs C++F)) w) ((0:Int),()) rfl ⟨rfl,φ,[],kI _,rfl,s0⟩ ?_ ?_
  ·rintro i z w L e ⟨rfl,ψ,ps,le,hl,st⟩ E h0 hlt hw;refine Ai (by rw[nS];exact decide_eq_true hlt) ?_;have⟨s,hs,E⟩:=bS E;obtain⟨A1,d9,b9,c0,q1,a9⟩:=(K.ks.mono le).get hs;refine AF _ b9 (Am c0 ?_);obtain⟨_,_,rfl,rfl,rfl⟩:=q1;refine AL (x:=s.1) (AM st.sub (a9 0 _ rfl)) rfl<|AL (x:=s.2) (by rw[Ac];exact AM st.sub (a9 1 _ rfl)) rfl<|AU (vs:=[.int .i64 0,.int .i64 0]) st ?_;intro r8 h3 s3;refine Cj (b:=r8) (j:=0) (v:=.int .i64 s.1) s3 rfl (by simp) ?_;intro h4 s4;refine Cj (b:=r8) (j:=1) (v:=.int .i64 s.2) s4 rfl (by simp) ?_;intro h5 s5;have⟨ψ1,Q,cB,s6⟩:=lJ s5;have J:=le.trans Q;refine AF _ rfl<|AL (x:=t.2.2.1) ((K.mono J).at s6 (j:=2) rfl) rfl<|Av (λ(y:Int×Unit) w L=>∃ψ ps,Sub φ ψ∧ps.length=kH L∧St ψ (giC lm ps L (AV qs C++F)) w) (g:=e) ?_ ?_
   ·refine Cp E (λi (y:Int×Unit) w L=>y.1=i∧ ∃ψ ps,Sub ψ1 ψ∧ps.length=kH L∧St ψ (giC lm ps L (AV qs C++F)) w) ((0:Int),()) rfl ⟨rfl,ψ1,ps,kI _,hl,s6⟩ ?_ ?_
    ·rintro i2 z2 w2 L2 e2 ⟨rfl,ψ2,R,G,b0,W⟩ c e0 b1 c1;have D:=J.trans G;unfold VB at c;refine Ai (by rw[nR];exact decide_eq_true b1) ?_;have⟨ru,c2,c⟩:=bS c;refine Av (λ(_:Unit) w (_:Unit)=>∃ψ ps,Sub ψ1 ψ∧ps.length=kH e2∧St ψ (giC lm ps e2 (AV qs C++F)) w) (g:=()) ?_ ?_
     ·refine QI (K.pl.k2.mono D) c2 W ?_;intro e1 u h7 ku s7;have⟨ψ3,M,X,U⟩:=lJ s7;have ku:=ku.mono M;have d:=D.trans M;have N:=G.trans M;have Y:=cB.mono N;have Z:=K.mono d;refine AL (x:=ru.1) (CK X U (j:=0) rfl) rfl<|AL (x:=s.2) (CK Y U (j:=1) rfl) rfl<|kD c rfl (λc=>?_) (λc=>?_)
      ·obtain rfl:=iS c;exact Vt () rfl ⟨ψ3,R,N,b0,U⟩
      ·have⟨wk,b2,c⟩:=bS c;obtain⟨L',c3,c⟩:=bS c;have⟨o,ho,c⟩:=bS c;obtain⟨s',c4,c⟩:=bS c;have⟨ok,c⟩:=CQ c;obtain rfl:=iS c;refine AF _ rfl<|AL (x:=ap) (Z.at U (j:=6) rfl) rfl<|AL (x:=s.1) (CK Y U (j:=0) rfl) rfl<|AL (x:=u) (CK X U (j:=1) rfl) rfl ?_;have fin:∀ {ψ5:AD} {S:AH} {I:Nat},Sub ψ3 ψ5→DC ψ5 (jX I) [.int .i64 wk,.int .i64 z2.1] →St ψ5 (giC lm R L2 (AV qs C++F)) S→ ∀ {P:Bs→AH→Prop},
        (∀(ψ:AD) (f:List (Option lW)) (h':AH),Sub ψ1 ψ→f.length=kH (CA (wk,z2.1) (BN s' o) L')→St ψ (giC lm f (CA (wk,z2.1) (BN s' o) L') (AV qs C++F)) h'→P (.out []) h')→
        (aW (some a) fs.1 fs.2.1 z.1 I).wp eE P S:=by
        intro ψ5 S I m cX a0 P hP;refine aX (gk.mono (d.trans m)) (Z.mono m) (kf.mono (d.trans m)) hq cX c3 ho c4 ok b0 a0 ?_;intro ψ6 f a1 B O b3;exact hP ψ6 f a1 ((N.trans m).trans B) O b3
       refine Dk ?_ ?_
       ·refine AE (Gf Z.kA ku U b2) ?_;rintro _ S ⟨ψ4,y4,a2,rfl,rfl,s9⟩;refine⟨y4,rfl,?_⟩;refine AU (vs:=[.int .i64 0,.int .i64 0]) s9 ?_;intro I a1 a3;refine Cj (b:=I) (j:=0) (v:=.int .i64 y4) a3 rfl (by simp) ?_;intro c5 a4;refine Cj (b:=I) (j:=1) (v:=.int .i64 z2.1) a4 rfl (by simp) ?_;intro c6 a5;have⟨ψ5,m,cX,a6⟩:=lJ a5;refine fin (a2.trans m) cX a6 ?_;intro ψ6 f c7 B O a7;exact⟨(),rfl,ψ6,f,B,O,a7⟩
       ·refine AU (vs:=[.int .i64 0,.int .i64 0]) U ?_;intro b4 S s9;refine AI (CK X s9 (j:=1) rfl)<|AI (CK Y s9 (j:=0) rfl)<|AI (Z.at s9 (j:=6) rfl)<|AE (Gf Z.kA ku s9 b2) ?_;rintro _ a1 ⟨ψ4,y4,a2,rfl,rfl,a3⟩;refine⟨y4,rfl,?_⟩;refine Cj (b:=b4) (j:=0) (v:=.int .i64 y4) a3 rfl (by simp) ?_;intro c5 a4;refine Cj (b:=b4) (j:=1) (v:=.int .i64 z2.1) a4 rfl (by simp) ?_;intro c6 a5;have⟨ψ5,m,cX,a6⟩:=lJ a5;refine fin (a2.trans m) cX a6 ?_;intro ψ6 f c7 B O a7;exact⟨(),rfl,ψ6,f,B,O,a7⟩
     ·rintro _ S H;exact jZ rfl rfl ⟨c1,H⟩
    ·rintro i2 z2 w2 ⟨rfl,ψ2,R,G,H⟩ hge;refine AW (by rw[nR];exact decide_eq_false (kQ.2 hge))<|AO (kB rfl ⟨ψ2,R,J.trans G,H⟩)
   ·rintro _ S H;exact jZ rfl rfl ⟨hw,H⟩
  ·rintro i z w ⟨rfl,H⟩ hge;refine AW (by rw[nS];exact decide_eq_false (kQ.2 hge))<|AO (kB rfl H)
 ·rintro _ h1 ⟨ψ1,c8,Q,c9,b5⟩;have K1:=K.mono Q;refine AF _ rfl<|AL (x:=ap) (K1.at b5 (j:=6) rfl) rfl<|AE (DW K1.kA b5 b8) ?_;rintro _ h2 ⟨ψ2,y2,G,rfl,rfl,W⟩;refine⟨y2,rfl,?_⟩;have D:=Q.trans G;refine Av (λ(y:Int×Unit) w L=>∃ψ ps,Sub φ ψ∧ps.length=kH L∧St ψ (giC lm ps L (AV qs C++F)) w) (g:=r) ?_ ?_
  ·refine Cp hd (λi (y:Int×Unit) w L=>y.1=i∧ ∃ψ ps,Sub φ ψ∧ps.length=kH L∧St ψ (giC lm ps L (AV qs C++F)) w) ((0:Int),()) rfl ⟨rfl,ψ2,c8,D,c9,W⟩ ?_ ?_
   ·rintro i z w L e ⟨rfl,ψ,ps,le,hl,st⟩ E h0 hlt hw;refine Ai (decide_eq_true hlt) ?_;have⟨bd,d0,E⟩:=bS E;have Z:=K.mono le;refine AE (G8 Z.pt st (show CJ (lkT p A fa steps (some nm) (some lm)) z.1 0=some bd from d0)) ?_;rintro _ h3 ⟨ψ3,y3,M,rfl,rfl,T⟩;refine⟨y3,rfl,?_⟩;have d:=le.trans M;refine Ad (λ(_:Unit) w L=>∃ψ ps,Sub φ ψ∧ps.length=kH L∧St ψ (giC lm ps L (AV qs C++F)) w) (g:=e) ?_ ?_
    ·refine kD E rfl (λE=>?_) (λE=>?_)
     ·have⟨sn,d1,E⟩:=bS E;obtain rfl:=iS E;refine AF _ rfl<|AL (x:=some lm) ((K.mono d).at T (j:=13) rfl) rfl<|AF _ rfl<|AL (x:=t.1) (by have:=(K.mono d).at T (j:=0) rfl;rwa [add_zero]at this) rfl<|AU (vs:=[.int .i64 0]) T ?_;intro d2 h4 a8;refine AI (by have:=(K.mono d).at a8 (j:=0) rfl;rwa [add_zero]at this)<|AI ((K.mono d).at a8 (j:=13) rfl) ?_;have d3:=St.lit (r:=hM .i64) (l:=[(0:Int)]) (n:=1) a8 (.cons (a:=[_]) rfl .nil) rfl (by decide);have⟨ψ5,m,k5,d4⟩:=kO (t:=(some ⟨d2,0,none⟩,1,1)) d3;rw[n0];refine AE (Ez k5 d4 d1) ?_;rintro _ h6 ⟨ψ6,q,l6,B,rfl,rfl,b6⟩;refine⟨q,rfl,?_⟩;have V:=(d.trans m).trans B;refine AI ((K.mono V).at b6 (j:=13) rfl)<|Ki (kk:=DG) (k:=(z.1,(0:Int))) (y:=q) kY U9 b6.at1 rfl ?_;intro h8 d5;obtain⟨f,g1,g2⟩:=aV hl d5;exact jY rfl ⟨ψ6,f,V,g1,g2⟩
     ·obtain rfl:=iS E;exact jY rfl ⟨ψ3,ps,d,hl,T⟩
    ·rintro _ S H;exact jZ rfl rfl ⟨hw,H⟩
   ·rintro i z w ⟨rfl,H⟩ hge;refine AW (decide_eq_false (kQ.2 hge))<|AO (kB rfl H)
  ·rintro _ S ⟨ψ9,d6,d7,d8,a0⟩;exact AB ⟨rfl,ψ9,d6,d7,d8,a0⟩
end
end Go.Proofs.YtnlkgidlfnefbaaGreatDoor
