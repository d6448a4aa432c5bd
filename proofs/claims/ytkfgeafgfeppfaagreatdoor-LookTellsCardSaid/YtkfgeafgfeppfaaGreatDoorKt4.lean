/-
  FirstT, FirstU, FirstV, SimL, LookS, LookE, LookR, LookI, LookJ, LookG, LookH, LookO, Build, DenR, DenW, SimR, DenT, SimX, Place, RefA, Rt1, P5, T1, put together.
  Conditions: none; each part tells its own.
-/
import Derived.Test.YtkfgeafgfeppfaaGreatDoorKt3
import Derived.Test.YtkfgeafgfeppfaaGreatDoorKt2
import Derived.KernelRfl
import Derived.Test.YtkfgeafgfeppfaaGreatDoorKt1
import Derived.Test.YtkfgeafgfeppfaaGreatDoorProg
set_option linter.unusedVariables false
set_option maxRecDepth 100000
set_option maxHeartbeats 4000000
open Go.IntKind renaming wrap → gO
open Go.Proofs.Tryz renaming prog → gP,underlying107 → jE,underlying3 → jS,underlying106 → jZ,underlying105 → kV,underlying68 → kY,underlying54 → kZ,underlying46 → lA,underlying47 → lB,t111 → lK
open Int renaming toNat → gQ,not_lt → iQ,toNat_natCast → jB,toNat_of_nonneg → jX
open Go.Builtin renaming append_ → gR
open Go.Eng.T renaming out → gS,call → gX,block → gZ,loop → iD,join → iE,ret → iF,brk → iJ,sem → iL,store → iV,load → jA,still → kO,both → kW
open Go.Eng.Ro renaming int → gT,list → hQ,bool → iC,str → iX,pt → jC,slc → kN
open List.Perm renaming cons → gU,append_right → hU,swap → iI,append_left → jR
open List renaming getElem?_eq_getElem → gV,perm_middle → gW,getElem?_eq_some_iff → gY,length → iA,append_assoc → iB,mem_of_getElem? → iM,getElem?_append_left → iR,getElem?_eq_none → iZ,perm_append_comm → jF,take_append_drop → jG,getElem?_of_mem → jH,drop_eq_getElem_cons → jI,mem_append → jK,length_append → jL,mem_cons_self → jM,replicate → jQ,getElem?_set_ne → jU,nil_append → jW,getElem?_drop → jY,mem_singleton → kD,take_add_one → kG,mem_cons → kH,length_cons → kM,getElem?_set_self → kQ,mem_cons_of_mem → kT,pairwise_append → kU
open Go.Eng.St renaming unpair → hO,freezeRow → hZ,unro → iN,cells → iO,lit → jV,cell → kF,nil → lC,unpack → lD,pack → lH,shutR → lJ,shut → lL,openR → lM,get → lQ
open Go.Eng.AW renaming done → iG,next → iH,get → lO
open Go.Eng.Sub renaming refl → iK,trans → jN
open Option renaming map → iP,bind_some → iT,isNone → iU,bind_eq_some_iff → jO
open Go.Instr renaming makeSlice → iW
open Go.Addr renaming add → iY
open Nat renaming zero_add → jD,lt_succ_iff_lt_or_eq → kJ,eq_zero_or_pos → kX,le_refl → lG
open Go.Eng.Rep renaming prod → jJ,raw → jT,ro → lF,row → lI
open Go.Eng.Ro.SliceIs renaming nil → jP
open Prod renaming ext → lN
open Go.Eng.Ok renaming eq → lP
namespace Go.Proofs.YtkfgeafgfeppfaaGreatDoor
open Go Go.Eng Dg
section
variable {φ ψ:AD}{h:AE}{F:List Chk}{a:Addr}{t:Slc×Slc×Slc×Slc×Slc×Slc×Unit}{n f g:Slc}{p:dtP}{ps qs:List gL}
theorem Oa {R:Slc}{rs:List Ax}{i:Int}{r:Ax}{K:Nat→T}{P:Bh→AE→Prop}(k:Ro.SliceIs CI φ R rs) (hr:idx rs i=some r) (st:St φ F h)
 (hk:∀(a:Nat) (u:Slc) (h':AE),Ro.SliceIs (gT .i64) φ u r.2.1→St φ (⟨jT 95,[.pointer (fH a)],[.int .i64 r.1,sv u,.int .i64 r.2.2]⟩::F) h'→(K a).wp gP P h'):
 (deref R.1 λd=>chk (0≤i∧i< (R.2.1:Nat))<|jA (.int .i64) (d.add (gQ i *3)) λ(g:Int)=>jA .slice ((d.add (gQ i *3)).add 1) λ(l:Slc)=>jA (.int .i64) ((d.add (gQ i *3)).add 2) λ(m:Int)=>
  T.new (.cells #[(.int .i64 (0:Int)),(.slice none 0 0),(.int .i64 (0:Int))] 95 (0,0)) λa=>iV ⟨a,0,none⟩ (.int .i64 g)<|iV ⟨a,1,none⟩ (sv l)<|iV ⟨a,2,none⟩ (.int .i64 m)<|K a).wp gP P h:=by
 have⟨A1,n,e,f,o,c⟩:=k.get hr;refine AF _ e (Ah f ?_);obtain⟨_,_,rfl,rfl,⟨_,_,rfl,⟨u,rfl,ku⟩,rfl⟩⟩:=o;refine AG (x:=r.1) (AJ st.sub (c 0 _ rfl)) rfl<|AG (x:=u) (by rw[An];exact AJ st.sub (c 1 _ rfl)) rfl<|AG (x:=r.2.2) (by rw[An];exact AJ st.sub (c 2 _ rfl)) rfl<|AV (vs:=[.int .i64 0,.slice none 0 0,.int .i64 0]) st ?_;intro a y p;refine Cf (b:=a) (j:=0) (v:=.int .i64 r.1) p rfl (by simp) ?_;intro z q;refine Cf (b:=a) (j:=1) (v:=sv u) q rfl (by simp) ?_;intro A s;refine Cf (b:=a) (j:=2) (v:=.int .i64 r.2.2) s rfl (by simp) ?_;intro t w;exact hk a u t ku w
theorem V2 (gk:Dg.Glob φ) (K:FsK φ a t n f g p ps qs) {null:List Bool}{ss:List Ad}(hl:(ps++qs).length=ss.length) {r:Bool×List Bool×List Ad}
 (hd:PM p (ps.length:Int) null ss=some r) (R:St φ (fsC n null (ps++qs) ss F) h):
 CallsH gP 87 [.pointer (some a)] h (Ap λv h'=>∃ψ:AD,Sub φ ψ∧v=fR.val r.1∧r.2.2.length=ss.length∧St ψ (fsC n r.2.1 (ps++qs) r.2.2 F) h'):=by
 refine Av mixed Tryz.func87 ?_;rw[KU];unfold Gu;unfold PM at hd;refine AF _ rfl<|AG (x:=t.2.2.1) (K.at R (j:=2) rfl) rfl ?_;have nk:=K.pl.k2.length;refine Ag (λ(y:Int×Bool×Unit) w g=>∃(ψ:AD),Sub φ ψ∧y.2.1=g.1∧g.2.2.length=ss.length∧St ψ (fsC n g.2.1 (ps++qs) g.2.2 F) w) (g:=r) ?_ ?_
 ·refine By hd (λi (y:Int×Bool×Unit) w g=>y.1=i∧ ∃(ψ:AD),Sub φ ψ∧y.2.1=g.1∧g.2.2.length=ss.length∧St ψ (fsC n g.2.1 (ps++qs) g.2.2 F) w) ((0:Int),false,()) rfl ⟨rfl,φ,iK _,rfl,rfl,R⟩ ?_ ?_
  ·rintro i z w ⟨gr,nu,Y⟩ e ⟨rfl,ψ,le,hg,l,st⟩ he Z hlt hw;dsimp only at hg l st he;subst hg;refine Ac (by rw[nk];exact gC hlt) ?_;have⟨ru,I,he⟩:=bS he;have⟨hm,he⟩:=CD he;have⟨gg,E,he⟩:=bS he;have⟨b,A,he⟩:=bS he;obtain⟨nu',o,he⟩:=bS he;obtain rfl:=iS he;obtain⟨k,hk⟩:∃k:Nat,gO .i64 (ru.1 - nT p)=(k:Int):=⟨_,(jX hm.1).symm⟩;rw[hk]at hm E A o;have hkp:k<ps.length:=by omega
   have hpk:ps[k]? =some ps[k]:=gV hkp;refine Oa (K.pl.k2.mono le) I st ?_;intro S u V ku G;refine AA (b:=S) (j:=0) (x:=ru.1) G rfl<|AK (PP (K.mono le) G ru.1) ?_;rintro _ h2 ⟨rfl,q⟩;refine⟨_,rfl,?_⟩;rw[hk];refine AA (b:=S) (j:=1) (x:=u) q rfl<|AF _ rfl<|AG (x:=f) ((K.mono le).at q (j:=7) rfl) rfl ?_;obtain⟨A2,W,J,L,X,M⟩:=((K.mono le).kf).get (i:=(k:Int)) (by rw[CK];exact hpk);refine AF _ J (Ah L ?_);obtain rfl:=X;refine AG (x:=ps[k]) (AJ q.sub (M 0 _ rfl)) rfl<|AK (PQ (gk.mono le) (K.mono le) ku (UK hpk) (hl.trans l.symm) E q.tail) ?_;rintro _ h3 ⟨N,O,rfl,P,c⟩;refine⟨_,rfl,?_⟩;have le':=le.trans O;refine Aa (λ(y:Bool×Unit) w (_:Unit)=>y=(z.2.1 || gg.1 || (gg.2.1 && !b),())∧St N (fsC n nu (ps++qs) gg.2.2 F) w) (g:=()) ?_ ?_
   ·cases hz:z.2.1
    ·refine AU rfl ?_;cases hgg:gg.1
     ·refine AU (by dsimp only) ?_;cases hgn:gg.2.1
      ·refine AU (by dsimp only)<|AO (false,()) rfl ⟨by simp,c⟩
      ·refine Ac (by dsimp only)<|AF _ rfl<|AG (x:=n) ((K.mono le').at c (j:=6) rfl) rfl ?_;have⟨A3,Q,B,C,r3,D⟩:=c.get A;refine AF _ B (Ah C ?_);obtain rfl:=r3;refine AG (x:=b) (D 0 _ rfl) rfl<|AO (!b,()) rfl ⟨by simp,c⟩
     ·refine Ac (by dsimp only)<|AO (true,()) rfl ⟨by simp,c⟩
    ·refine Ac rfl<|AO (true,()) rfl ⟨by simp,c⟩
   ·rintro y h4 ⟨rfl,d⟩;refine Aa (λ(y:Unit) w (_:Unit)=>St N (fsC n nu' (ps++qs) gg.2.2 F) w) (g:=()) ?_ ?_
    ·refine AF _ rfl<|AG (x:=n) ((K.mono le').at d (j:=6) rfl) rfl<|AF _ rfl<|AG (x:=n) ((K.mono le').at d (j:=6) rfl) rfl ?_;have⟨A3,Q,B,C,r3,D⟩:=d.get A;refine AF _ B (Ah C ?_);obtain rfl:=r3;refine AG (x:=b) (D 0 _ rfl) rfl ?_;have⟨A4,s,T⟩:=d.there o;cases b
     ·refine AU rfl<|AF _ s (Ah T (Ef d o rfl s ?_));intro U m;exact AO () rfl m
     ·refine Ac rfl<|AF _ s (Ah T (Ef d o rfl s ?_));intro U m;exact AO () rfl m
    ·rintro _ U m;exact AZ (gO .i64 (z.1+(1:Int)),z.2.1 || gg.1 || (gg.2.1 && !b),()) _ rfl rfl ⟨hw,N,le',rfl,P.trans l,m⟩
  ·rintro i z w ⟨rfl,H⟩ hge;refine AU (by rw[nk];exact gB (iQ.2 hge))<|AI (AL z rfl H)
 ·rintro z V ⟨ψ,le,hg,l,st⟩;exact AC ⟨ψ,le,by rw[hg];rfl,l,st⟩
theorem RH {u:Slc}{l:gM}{lo:Int}(k:Ro.SliceIs (gT .i64) φ u l) (a:0≤lo) (b:lo≤(l.length:Int)):cut l lo (u.2.1:Int)=some (l.drop lo.toNat):=by
 have hlen:=k.length;unfold cut;rw[gF ⟨by omega,by omega,by omega⟩,jB,hlen,List.take_length]
theorem NB {ps qs:List gL}{k:Nat}{q:gL}(h:qs[k]? =some q):(ps++qs)[ps.length+k]? =some q:=by
 rw[List.getElem?_append_right (by omega),Nat.add_sub_cancel_left];exact h
theorem UL (gk:Dg.Glob φ) (K:FsK φ a t n f g p ps qs) (hpq:qs.length=ps.length) {null:List Bool}{ss:List Ad}(hl:(ps++qs).length=ss.length) {r:Bool×List Ad}
 (hd:M3 p (ps.length:Int) null ss=some r) (s0:St φ (fsC n null (ps++qs) ss F) h):
 CallsH gP 89 [.pointer (some a)] h (Ap λv h'=>∃ψ:AD,Sub φ ψ∧v=fR.val r.1∧r.2.length=ss.length∧St ψ (fsC n null (ps++qs) r.2 F) h'):=by
 refine Av mixed Tryz.func89 ?_;rw[Jf];unfold GP;unfold M3 at hd;refine AF _ rfl<|AG (x:=t.2.2.1) (K.at s0 (j:=2) rfl) rfl ?_;have nk:=K.pl.k2.length;refine Ag (λ(y:Int×Bool×Unit) w g=>∃(ψ:AD),Sub φ ψ∧y.2.1=g.1∧g.2.length=ss.length∧St ψ (fsC n null (ps++qs) g.2 F) w) (g:=r) ?_ ?_
 ·refine By hd (λi (y:Int×Bool×Unit) w g=>y.1=i∧ ∃(ψ:AD),Sub φ ψ∧y.2.1=g.1∧g.2.length=ss.length∧St ψ (fsC n null (ps++qs) g.2 F) w) ((0:Int),false,()) rfl ⟨rfl,φ,iK _,rfl,rfl,s0⟩ ?_ ?_
  ·rintro i z w ⟨gr,s1⟩ e ⟨rfl,ψ,le,hg,L,st⟩ he h0 hlt hw;dsimp only at hg L st he;subst hg;refine Ac (by rw[nk];exact gC hlt) ?_;have⟨ru,a9,he⟩:=bS he;refine Oa (K.pl.k2.mono le) a9 st ?_;intro r9 u h1 ku a2;refine AA (b:=r9) (j:=1) (x:=u) a2 rfl ?_;have nu:=ku.length;obtain⟨G,hG⟩:∃G:List Chk,G=⟨jT 95,[.pointer (fH r9)],[.int .i64 ru.1,sv u,.int .i64 ru.2.2]⟩::F:=⟨_,rfl⟩;have b0:St ψ (fsC n null (ps++qs) s1 G) h1:=by
    rw[hG];exact a2.perm ((iI _ _ _).trans (gU _ (gW (l₁:=AT (ps++qs) s1)).symm))
   have raw:∀ {ψ':AD} {s':List Ad} {h':AE},St ψ' (fsC n null (ps++qs) s' G) h'→St ψ' (⟨jT 95,[.pointer (fH r9)],[.int .i64 ru.1,sv u,.int .i64 ru.2.2]⟩::fsC n null (ps++qs) s' F) h':=λ{ψ' s' h'} H=>by
    rw[hG]at H;exact H.perm ((gU _ (gW (l₁:=AT (ps++qs) s'))).trans (iI _ _ _))
   refine Ag (λ(y:Int×Bool×Unit) w g=>∃(ψ:AD),Sub φ ψ∧y.2.1=g.1∧g.2.length=ss.length∧St ψ (fsC n null (ps++qs) g.2 G) w) (g:=e) ?_ ?_
   ·refine By he (λi (y:Int×Bool×Unit) w g=>y.1=i∧ ∃(ψ':AD),Sub ψ ψ'∧y.2.1=g.1∧g.2.length=ss.length∧St ψ' (fsC n null (ps++qs) g.2 G) w) ((0:Int),z.2.1,()) rfl ⟨rfl,ψ,iK _,rfl,L,b0⟩ ?_ ?_
    ·rintro i2 Q w2 ⟨c7,s2⟩ e2 ⟨rfl,ψ2,m,a3,D,M⟩ c c8 a4 N;dsimp only at a3 D M c;subst a3;have E:=le.trans m;refine Ac (by rw[nu];exact gC a4) ?_;have⟨sym,b1,c⟩:=bS c;have⟨tm,b2,c⟩:=bS c;refine Ag (λ(y:Bool×Unit) w (_:Unit)=>∃(ψ':AD),Sub ψ ψ'∧y.1=e2.1∧e2.2.length=ss.length∧St ψ' (fsC n null (ps++qs) e2.2 G) w) (g:=()) ?_ ?_
     ·obtain⟨A1,c9,b3,b4,r1,b5⟩:=(ku.mono m).get b1;refine AF _ b3 (Ah b4 ?_);obtain rfl:=r1;refine AG (x:=sym) (AJ M.sub (b5 0 _ rfl)) rfl<|AF _ rfl (RY ((K.mono E).pv M) (K.mono E).pl M b2 ?_);intro ψ3 h3 C U;have d:=E.trans C;refine AH c rfl (λ_ c=> ?_) (λ_ c=> ?_)
      ·obtain rfl:=iS c;exact Oj (Q.2.1,()) rfl ⟨ψ3,m.trans C,rfl,D,U⟩
      ·have⟨hm,c⟩:=CD c;have⟨gg,V,c⟩:=bS c;have⟨hh,l,c⟩:=bS c;obtain rfl:=iS c;obtain⟨k,hk⟩:∃k:Nat,gO .i64 (sym - nT p)=(k:Int):=⟨_,(jX hm.1).symm⟩;have hx:(ps.length:Int)+(k:Int)=((ps.length+k:Nat):Int):=by omega
       rw[hk,hx]at V l;rw[hk]at hm;have hkp:k<qs.length:=by omega
       have hpk:qs[k]? =some qs[k]:=gV hkp;refine AF _ rfl<|AG (x:=g) ((K.mono d).at U (j:=8) rfl) rfl<|AK (PP (K.mono d) U sym) ?_;rintro _ h4 ⟨rfl,O⟩;refine⟨_,rfl,?_⟩;refine AN ((K.mono d).at O (j:=8) rfl) ?_;rw[hk];obtain⟨A2,d0,b6,b7,r2,b8⟩:=((K.mono d).kg).get (i:=(k:Int)) (by rw[CK];exact hpk);refine AF _ b6 (Ah b7 ?_);obtain rfl:=r2;refine AG (x:=qs[k]) (AJ O.sub (b8 0 _ rfl)) rfl<|AA (b:=r9) (j:=1) (x:=u) (raw O) rfl ?_;obtain⟨q1,kt⟩:=(ku.mono (m.trans C)).cut (RH (ku.mono (m.trans C)) (lo:=gO .i64 (Q.1+1)) (by rw[N];omega) (by rw[N];omega)) (sz:=1) rfl;refine Ah q1 ?_;rw[←N]at V;refine AK (PQ (gk.mono d) (K.mono d) kt (NB hpk) (hl.trans D.symm) V O) ?_;rintro _ h5 ⟨ψ5,W,rfl,a5,P⟩;refine⟨_,rfl,?_⟩;have q:=d.trans W;refine Aa (λ(y:Bool×Unit) w (_:Unit)=>y=(hh.1,())∧hh.2.length=ss.length∧ ∃ψ',Sub ψ ψ'∧St ψ' (fsC n null (ps++qs) hh.2 G) w) (g:=()) ?_ ?_
       ·refine AH l rfl (λ_ l=> ?_) (λ_ l=> ?_)
        ·have⟨a6,l⟩:=CD l;have⟨uu,hu,l⟩:=bS l;obtain rfl:=iS l;obtain⟨X,Y⟩:∃k:Nat,gO .i64 (ru.1 - nT p)=(k:Int):=⟨_,(jX a6.1).symm⟩;have b9:(ps.length:Int)+(X:Int)=((ps.length+X:Nat):Int):=by omega
         rw[Y,b9]at hu;rw[Y]at a6;have a7:X<qs.length:=by omega
         have R:qs[X]? =some qs[X]:=gV a7;unfold V1 at hu;have⟨s,hs,hu⟩:=bS hu;have⟨o,ho,hu⟩:=bS hu;have⟨ok,hu⟩:=CD hu;obtain rfl:=iS hu;refine Aa (λ(y:Bool×Unit) w (_:Unit)=>y=(FQ s o || gg.1,())∧ ∃ψ',Sub ψ ψ'∧St ψ' (fsC n null (ps++qs) (gg.2.2.set (ps.length+k) (BL s o)) G) w) (g:=()) ?_ ?_
         ·refine AF _ rfl<|AG (x:=g) ((K.mono q).at P (j:=8) rfl) rfl<|AA (b:=r9) (j:=0) (x:=ru.1) (raw P) rfl<|AK (PP (K.mono q) P ru.1) ?_;rintro _ h7 ⟨rfl,Z⟩;refine⟨_,rfl,?_⟩;refine AN ((K.mono q).at Z (j:=8) rfl) ?_;rw[Y];obtain⟨A3,d1,c0,c1,r3,c2⟩:=((K.mono q).kg).get (i:=(X:Int)) (by rw[CK];exact R);refine AF _ c0 (Ah c1 ?_);obtain rfl:=r3;refine AG (x:=qs[X]) (AJ Z.sub (c2 0 _ rfl)) rfl ?_;have c3:St ψ5 (AT (ps++qs) gg.2.2++(cR 4 iC n null::G)) h7:=Z.perm (gW (l₁:=AT (ps++qs) gg.2.2)).symm;refine AK (U0 (gk.mono q) (P8 hs) (P8 ho) (NB hpk) (NB R) ok c3) ?_;rintro _ h8 ⟨ψ8,c4,rfl,c5⟩;refine⟨_,rfl,?_⟩;have S:St ψ8 (fsC n null (ps++qs) (gg.2.2.set (ps.length+k) (BL s o)) G) h8:=c5.perm (gW (l₁:=AT (ps++qs) (gg.2.2.set (ps.length+k) (BL s o))));have T:=((m.trans C).trans W).trans c4;cases hgr:FQ s o
          ·exact AU rfl (AO (gg.1,()) rfl ⟨by simp,ψ8,T,S⟩)
          ·exact Ac rfl (AO (true,()) rfl ⟨by simp,ψ8,T,S⟩)
         ·rintro y h9 ⟨rfl,ψ9,a0,B⟩;refine AO (FQ s o || gg.1,()) rfl ⟨rfl,by simp[a5,D],ψ9,a0,?_⟩;rw[jB];exact B
        ·obtain rfl:=iS l;exact AO (gg.1,()) rfl ⟨rfl,by rw[a5,D],ψ5,(m.trans C).trans W,P⟩
       ·rintro y h9 ⟨rfl,c6,ψ9,a0,B⟩;refine Aa (λ(y:Bool×Unit) w (_:Unit)=>y=(Q.2.1 || hh.1,())∧St ψ9 (fsC n null (ps++qs) hh.2 G) w) (g:=()) ?_ ?_
        ·cases hz:Q.2.1
         ·exact AU rfl (AO (hh.1,()) rfl ⟨by simp,B⟩)
         ·exact Ac rfl (AO (true,()) rfl ⟨by simp,B⟩)
        ·rintro y a8 ⟨rfl,A⟩;exact FG (Q.2.1 || hh.1,()) rfl ⟨ψ9,a0,rfl,c6,A⟩
     ·rintro y a8 ⟨a1,I,hy,J,A⟩;exact AZ (gO .i64 (Q.1+(1:Int)),y.1,()) _ rfl rfl ⟨N,a1,I,hy,J,A⟩
    ·rintro i2 Q w2 ⟨rfl,ψ2,m,H⟩ hge;refine AU (by rw[nu];exact gB (iQ.2 hge))<|AI (AL Q rfl ⟨ψ2,le.trans m,H⟩)
   ·rintro y a8 ⟨a1,I,hy,J,A⟩;exact AZ (gO .i64 (z.1+(1:Int)),y.2.1,()) _ rfl rfl ⟨hw,a1,I,hy,J,(raw A).tail⟩
  ·rintro i z w ⟨rfl,H⟩ hge;refine AU (by rw[nk];exact gB (iQ.2 hge))<|AI (AL z rfl H)
 ·rintro z h1 ⟨ψ,le,hg,L,st⟩;exact AC ⟨ψ,le,by rw[hg];rfl,L,st⟩
end
section
variable {φ ψ:AD}{h:AE}{F:List Chk}{t:Slc×Slc×Slc×Slc×Slc×Slc×Unit}{p:dtP}
theorem St.blk {ty:TypeId}{b:Nat}{vs:List Value}(H:St φ (⟨jT ty,[.pointer (fH b)],vs⟩::F) h):∃ψ,Sub φ ψ∧Ci ψ (fH b) vs∧St ψ F h:=by
 obtain⟨ψ,G,le,⟨b',e,hb,hF⟩,hk,s⟩:=St.hide H;cases e;refine⟨ψ,le,λi v hv=>⟨_,rfl,?_⟩,s⟩
 have:=hk b ((hF b).2 rfl)
 rw[Dt];unfold EB;dsimp only;rw[this,hb];dsimp only;rw[jD];simp[hv]
theorem St.drop:∀(L:List Chk) {M:List Chk}{φ:AD}{h:AE},St φ (L++M) h→St φ M h
 | [],_,_,_,H=>H
 |_::L,_,_,_,H=>St.drop L H.tail
theorem Ek {b:Nat}{K:Slc→Slc→Slc→Slc→Slc→Slc→T}{P:Bh→AE→Prop}(hc:∀j v,(plV t)[j]? =some v→BW h ⟨b,j,none⟩=some v) (H:(K t.1 t.2.1 t.2.2.1 t.2.2.2.1 t.2.2.2.2.1 t.2.2.2.2.2.1).wp gP P h):
 (jA .slice ⟨b,0,none⟩ λ(t3:Slc)=>jA .slice ⟨b,1,none⟩ λ(t4:Slc)=>jA .slice ⟨b,2,none⟩ λ(t5:Slc)=>jA .slice ⟨b,3,none⟩ λ(a:Slc)=>jA .slice ⟨b,4,none⟩ λ(c:Slc)=>jA .slice ⟨b,5,none⟩ λ(d:Slc)=>K t3 t4 t5 a c d).wp gP P h:=by
 refine AG (x:=t.1) (hc 0 _ rfl) rfl<|AG (x:=t.2.1) (hc 1 _ rfl) rfl<|AG (x:=t.2.2.1) (hc 2 _ rfl) rfl<|AG (x:=t.2.2.2.1) (hc 3 _ rfl) rfl<|AG (x:=t.2.2.2.2.1) (hc 4 _ rfl) rfl<|AG (x:=t.2.2.2.2.2.1) (hc 5 _ rfl) rfl H
theorem ID (k:PlK φ t p) (u:St φ F h) {r:List Ad}(hd:Nq p=some r):
 CallsH gP 86 [.agg #[sv t.1,sv t.2.1,sv t.2.2.1,sv t.2.2.2.1,sv t.2.2.2.2.1,sv t.2.2.2.2.2.1]] h
  (Ap λv h'=>∃(ψ:AD) (y:Slc) (ps:List gL),Sub φ ψ∧v=fP.val y∧ps.length=r.length∧St ψ (FB y ps::(AT ps r++F)) h'):=by
 refine Av mixed Tryz.func86 ?_;rw[OQ];unfold Ls;unfold Nq at hd;refine AV (vs:=plV t) u ?_;intro r1 E c;have⟨n,d,cB,c⟩:=St.blk c;refine AG (x:=t.2.1) (AJ c.sub (cB.at 1 rfl)) rfl ?_;have o:t.2.1.2.1=p.2.1.length:=k.k1.length;have A:t.1.2.1=p.1.length:=k.k0.length;refine Ag (λ(z:Int×Slc×Unit) w g=>∃(ψ:AD) (ps:List gL),Sub φ ψ∧ps.length=g.length∧St ψ (FB z.2.1 ps::(AT ps g++F)) w) (g:=r) ?_ ?_
 ·refine By hd (λi (z:Int×Slc×Unit) w g=>z.1=i∧ ∃(ψ:AD) (ps:List gL),Sub n ψ∧ps.length=g.length∧St ψ (FB z.2.1 ps::(AT ps g++F)) w) ((0:Int),((none,0,0):Slc),()) rfl ⟨rfl,n,[],iK _,rfl,lC _ _ c⟩ ?_ ?_
  ·rintro i z w g e ⟨hz,ψ,ps,le,hl,st⟩ he G hlt hw;subst hz;refine Ac (by rw[o];exact gC hlt) ?_;have⟨s,f,he⟩:=bS he;refine AG (x:=t.1) (AJ st.sub ((cB.mono le).at 0 rfl)) rfl ?_;rw[A];refine AK (EF st f) ?_;rintro _ B ⟨C,q,I,j,rfl,rfl,l⟩;refine⟨q,rfl,?_⟩;refine AV (vs:=[.pointer q]) l ?_;intro J K b;have cw:=iO b;obtain⟨hap,rfl⟩:=Gq he hl q;refine AX (r:=jC) (ms:=[q]) QY (b.tail.at1) rfl cw (.cons (a:=[_]) rfl .nil) rfl hap ?_;intro D L m;exact AZ (gO .i64 (z.1+(1:Int)),D,()) _ rfl rfl ⟨hw,C,ps++ [q],le.trans j,by simp[hl],PB hl m⟩
  ·rintro i z w ⟨hz,ψ,ps,le,H⟩ hge;subst hz;refine AU (by rw[o];exact gB (iQ.2 hge))<|AI (AL z rfl ⟨ψ,ps,d.trans le,H⟩)
 ·rintro z B ⟨ψ,ps,le,hl,st⟩;exact AC ⟨ψ,z.2.1,ps,le,rfl,hl,st⟩
theorem Qg (gk:Dg.Glob φ) {l:Slc}{ws pp:List gL}{ss ss':List Ad}{off:Nat}(kl:Ro.SliceIs jC φ l ws) (hw:∀(i:Nat) q,ws[i]? =some q→pp[off+i]? =some q) (hs':∀(i:Nat) s,ss'[i]? =some s→ss[off+i]? =some s) (hl:ws.length=ss'.length) (D:St φ (AT pp ss++F) h) {r:List gM}(hd:KT ss'=some r):
 CallsH gP 90 [sv l] h (Ap λv h'=>∃(ψ:AD) (y:Slc),Sub φ ψ∧v=fP.val y∧Ro.SliceIs (hQ (gT .i64)) ψ y r∧St ψ (AT pp ss++F) h'):=by
 refine Av mixed Tryz.func90 ?_;rw[OR];unfold Lu;unfold KT at hd;have nl:l.2.1=ss'.length:=kl.length.trans hl;refine Ag (λ(z:Int×Slc×Unit) w (g:List gM)=>∃(ψ:AD),Sub φ ψ∧St ψ (T8 z.2.1 g::(AT pp ss++F)) w) (g:=r) ?_ ?_
 ·refine By hd (λi (z:Int×Slc×Unit) w (g:List gM)=>z.1=i∧ ∃(ψ:AD),Sub φ ψ∧St ψ (T8 z.2.1 g::(AT pp ss++F)) w) ((0:Int),((none,0,0):Slc),()) rfl ⟨rfl,φ,iK _,lC _ _ D⟩ ?_ ?_
  ·rintro i z w g e ⟨hz,ψ,le,st⟩ he M hlt k;subst hz;refine Ac (by rw[nl];exact gC hlt) ?_;have⟨s,hs,he⟩:=bS he;have⟨li,hli,he⟩:=bS he;have⟨E,N,G⟩:=CC hs;have b:z.1.toNat<ws.length:=by omega
   have hp:=gV b;obtain⟨A1,I,m,n,r1,o⟩:=(kl.mono le).get (Ku E b);refine AF _ m (Ah n ?_);obtain rfl:=r1;refine AG (x:=ws[z.1.toNat]) (AJ st.sub (o 0 _ rfl)) rfl ?_;have p:St ψ (AT pp ss++(T8 z.2.1 g::F)) w:=st.perm (gW (l₁:=AT pp ss)).symm;have⟨rr,J,K⟩:=Gs (hw _ _ hp) (hs' _ _ G) p;refine AK (Mz (gk.mono le) J hli) ?_;rintro _ t ⟨f,y,c,rfl,u,d⟩;refine⟨y,rfl,?_⟩;have A:=K f t [] d;have B:St f (T8 z.2.1 g::(AT pp ss++F)) t:=A.perm (gW (l₁:=AT pp ss));refine AV (vs:=[sv y]) B ?_;intro O P j;have cw:=iO j;refine AX (r:=hQ (gT .i64)) (ms:=[li]) Uz j.tail rfl cw (.cons (a:=[_]) ⟨y,rfl,u⟩ .nil) rfl he ?_;intro L Q C;exact AZ (gO .i64 (z.1+(1:Int)),L,()) _ rfl rfl ⟨k,f,le.trans c,C⟩
  ·rintro i z w ⟨hz,H⟩ hge;subst hz;refine AU (by rw[nl];exact gB (iQ.2 hge))<|AI (AL z rfl H)
 ·rintro z t ⟨ψ,le,st⟩;obtain⟨f,c,u,d⟩:=st.freezeRow;exact AC ⟨f,z.2.1,le.trans c,rfl,u,d⟩
end
abbrev UM (φ:AD) (F:List Chk) (r:dtF):Value→AE→Prop:=λv h'=>∃(ψ:AD) (y:Slc×Slc×Slc×Int×Unit),Sub φ ψ∧v=((.one (.agg [.slice,.slice,.slice,.int .i64])):Sh).val y∧
 Ro.SliceIs iC ψ y.1 r.1∧Ro.SliceIs (hQ (gT .i64)) ψ y.2.1 r.2.1∧Ro.SliceIs (hQ (gT .i64)) ψ y.2.2.1 r.2.2.1∧y.2.2.2.1=r.2.2.2∧St ψ F h'
noncomputable def K6 (p:dtP) (m:Nat) (null:List Bool) (ss:List Ad):Option dtF:=(loop (σ:=Int×List Bool×List Ad) (β:=Int×List Bool×List Ad) (1,null,ss) λz=>(PM p ((m:Nat):Int) z.2.1 z.2.2).bind λr=>cond r.1 (some (.next (gO .i64 (z.1+1),r.2))) (some (.done (z.1,r.2)))).bind λz=>(idx (z.2.2.drop m) (p.2.1.length:Int)).bind λs=>(Aq s 0).bind λa=>(loop (σ:=List Ad) (β:=List Ad) (z.2.2.set (m+p.2.1.length) a.2) λss=>(M3 p ((m:Nat):Int) z.2.1 ss).bind λr=>cond r.1 (some (.next r.2)) (some (.done r.2))).bind λss=>(KT (ss.take m)).bind λa=>(KT (ss.drop m)).bind λb=>some (z.2.1,a,b,z.1)
section
variable {φ φ0 ψ:AD}{h:AE}{F:List Chk}{t:Slc×Slc×Slc×Slc×Slc×Slc×Unit}{n f g:Slc}{p:dtP}{ps qs:List gL}
theorem ZK (gk:Dg.Glob φ) (X:Sub φ0 φ) {r1 u J:Nat}(cB:Ci φ (fH r1) (plV t)) (K:FsK φ ⟨J,0,none⟩ t n f g p ps qs) (hpq:qs.length=ps.length) {null:List Bool}{ss:List Ad}(hl:(ps++qs).length=ss.length) {r:dtF}(hd:K6 p ps.length null ss=some r)
 (s0:St φ (fsC n null (ps++qs) ss (⟨jT 104,[.pointer (fH u)],[.slice none 0 0,.slice none 0 0,.slice none 0 0,.int .i64 0]⟩::F)) h):(Nr r1 u J).wp gP (Ln (Ap (UM φ0 F r))) h:=by
 unfold Nr;unfold K6 at hd;have⟨z,hz,hd⟩:=bS hd;have⟨s,hs,hd⟩:=bS hd;have⟨a,ha,hd⟩:=bS hd;have⟨sf,hsf,hd⟩:=bS hd;have⟨la,hla,hd⟩:=bS hd;have⟨lb,hlb,hd⟩:=bS hd;obtain rfl:=iS hd;obtain⟨G,hG⟩:∃G:List Chk,G=⟨jT 104,[.pointer (fH u)],[.slice none 0 0,.slice none 0 0,.slice none 0 0,.int .i64 0]⟩::F:=⟨_,rfl⟩;rw[←hG]at s0;refine Ag (λ(y:Int×Unit) w g=>∃(ψ:AD),Sub φ ψ∧y.1=g.1∧g.2.2.length=ss.length∧St ψ (fsC n g.2.1 (ps++qs) g.2.2 G) w) (g:=z) ?_ ?_
 ·refine CA hz (λ(y:Int×Unit) w g=>∃(ψ:AD),Sub φ ψ∧y.1=g.1∧g.2.2.length=ss.length∧St ψ (fsC n g.2.1 (ps++qs) g.2.2 G) w) ((1:Int),()) rfl ⟨φ,iK _,rfl,rfl,s0⟩ ?_;rintro y w ⟨gc,gn,gs⟩ e ⟨ψ,le,rfl,o,st⟩ he hb;dsimp only at he o st;have⟨rr,hr,he⟩:=bS he;refine AK (V2 (gk.mono le) (K.mono le) (hl.trans o.symm) hr st) ?_;rintro _ h1 ⟨U,l,rfl,L,m⟩;refine⟨_,rfl,?_⟩;refine AH he rfl (λ_ he=> ?_) (λ_ he=> ?_)
  ·obtain rfl:=iS he;exact AZ (gO .i64 (y.1+(1:Int)),()) _ rfl rfl ⟨U,le.trans l,rfl,L.trans o,m⟩
  ·obtain rfl:=iS he;obtain rfl:=hb _ rfl;exact AI (AL (y.1,()) rfl ⟨U,le.trans l,rfl,L.trans o,m⟩)
 ·rintro Y h1 ⟨U,l,Z,o,m⟩;refine AG (x:=g) ((K.mono l).at m (j:=8) rfl) rfl<|AG (x:=t.2.1) (AJ m.sub ((cB.mono l).at 1 rfl)) rfl ?_;have n1:t.2.1.2.1=p.2.1.length:=K.pl.k1.length;rw[n1];have⟨i0,i1,i2⟩:=CC hs;rw[jB]at i2;rw[jY]at i2;have hlt:p.2.1.length<qs.length:=by
   rw[List.length_drop]at i1;rw[jL]at hl;omega
  have hq:=gV hlt;obtain⟨A2,b1,a0,a3,q2,a4⟩:=((K.mono l).kg).get (i:=(p.2.1.length:Int)) (by rw[CK];exact hq);refine AF _ a0 (Ah a3 ?_);obtain rfl:=q2;refine AG (x:=qs[p.2.1.length]) (AJ m.sub (a4 0 _ rfl)) rfl ?_;have⟨rs,a1,a2⟩:=Ej (NB (ps:=ps) hq) i2;have a5:St U (Bd qs[p.2.1.length] s::(rs++(cR 4 iC n z.2.1::G))) h1:=(m.perm (gW (l₁:=AT (ps++qs) z.2.2)).symm).perm (hU _ a1);refine AK (CV a5 ha) ?_;rintro _ h2 ⟨ψ2,y,l2,a6,rfl,e2,a7⟩;refine⟨_,rfl,?_⟩;have a8:l2=a.2:=by rw[←e2]
  subst a8;have M:=l.trans a6;have a9:St ψ2 (fsC n z.2.1 (ps++qs) (z.2.2.set (ps.length+p.2.1.length) a.2) G) h2:=(a7.perm (hU _ (a2 a.2)).symm).perm (gW (l₁:=AT (ps++qs) (z.2.2.set (ps.length+p.2.1.length) a.2)));refine Ag (λ(y:Unit) w g=>∃(ψ:AD),Sub φ ψ∧g.length=ss.length∧St ψ (fsC n z.2.1 (ps++qs) g G) w) (g:=sf) ?_ ?_
  ·refine CA hsf (λ(y:Unit) w g=>∃(ψ:AD),Sub φ ψ∧g.length=ss.length∧St ψ (fsC n z.2.1 (ps++qs) g G) w) () rfl ⟨ψ2,M,by simp[o],a9⟩ ?_;rintro y w gs e ⟨ψ,le,A,st⟩ he hb;have⟨rr,hr,he⟩:=bS he;refine AK (UL (gk.mono le) (K.mono le) hpq (hl.trans A.symm) hr st) ?_;rintro _ h3 ⟨ψ3,B,rfl,N,C⟩;refine⟨_,rfl,?_⟩;refine AH he rfl (λ_ he=> ?_) (λ_ he=> ?_)
   ·obtain rfl:=iS he;exact AZ () _ rfl rfl ⟨ψ3,le.trans B,N.trans A,C⟩
   ·obtain rfl:=iS he;obtain rfl:=hb _ rfl;exact AI (AL () rfl ⟨ψ3,le.trans B,N.trans A,C⟩)
  ·rintro _ h3 ⟨ψ3,B,A,C⟩;have⟨ψ4,b0,kn,D⟩:=hZ (t:=n) C;have c:=B.trans b0;refine AG (x:=n) ((K.mono c).at D (j:=6) rfl) rfl<|AG (x:=f) ((K.mono c).at D (j:=7) rfl) rfl<|AG (x:=g) ((K.mono c).at D (j:=8) rfl) rfl ?_;have hlen:sf.length=ps.length+qs.length:=by rw[A,←hl,jL]
   refine AK (Qg (gk.mono c) (off:=0) (K.mono c).kf (λi q hi=>by rw[jD];exact UK hi) (λi s hi=>by
    rw[List.getElem?_take]at hi;split at hi
    ·rw[jD];exact hi
    ·cases hi) (by simp;omega) D hla) ?_
   rintro _ h4 ⟨ψ5,V,O,rfl,k5,H⟩;refine⟨V,rfl,?_⟩;have d:=c.trans O;refine AN ((K.mono d).at H (j:=8) rfl)<|AN ((K.mono d).at H (j:=6) rfl)<|AK (Qg (gk.mono d) (off:=ps.length) (K.mono d).kg (λi q hi=>NB hi) (λi s hi=>by
    rw[jY]at hi;exact hi) (by simp;omega) H hlb) ?_
   rintro _ h5 ⟨ψ6,W,I,rfl,k6,P⟩;refine⟨W,rfl,?_⟩;have E:=d.trans I;refine AN ((K.mono E).at P (j:=6) rfl) ?_;have Q:=St.drop _ P;rw[hG]at Q;refine Cf (b:=u) (j:=0) (v:=sv n) Q rfl (by simp) ?_;intro h6 R;refine Cf (b:=u) (j:=1) (v:=sv V) R rfl (by simp) ?_;intro h7 S;refine Cf (b:=u) (j:=2) (v:=sv W) S rfl (by simp) ?_;intro h8 T;refine Cf (b:=u) (j:=3) (v:=.int .i64 Y.1) T rfl (by simp) ?_;intro h9 k;refine AA (b:=u) (j:=0) (x:=n) k rfl<|AA (b:=u) (j:=1) (x:=V) k rfl<|AA (b:=u) (j:=2) (x:=W) k rfl<|AA (b:=u) (j:=3) (x:=Y.1) k rfl<|AC ⟨ψ6,(n,V,W,Y.1,()),X.trans E,rfl,kn.mono (O.trans I),k5.mono I,k6,Z,k.tail⟩
theorem Iq:QO gP 68 4 (.bool false):=⟨kY,⟨Tryz.t4,by kernel_rfl,rfl,⟨_,rfl,rfl⟩,by decide⟩⟩
theorem UN (gk:Dg.Glob φ) (l:Sub φ0 φ) {r1 w:Nat}(cB:Ci φ (fH r1) (plV t)) (k:PlK φ t p) {null:List Bool}{b c:List Ad}(m:ps.length=b.length) (x:qs.length=c.length) (C:c.length=b.length) {r:dtF}(hd:K6 p b.length null (b++c)=some r)
 (y:St φ (FB f ps::FB g qs::cR 4 iC n null::(AT ps b++(AT qs c++(⟨jT 104,[.pointer (fH w)],[.slice none 0 0,.slice none 0 0,.slice none 0 0,.int .i64 0]⟩::F)))) h):
 (T.new (.cells #[sv t.1,sv t.2.1,sv t.2.2.1,sv t.2.2.2.1,sv t.2.2.2.2.1,sv t.2.2.2.2.2.1,sv n,sv f,sv g] 179 (0,0)) λi=>Nr r1 w i).wp gP (Ln (Ap (UM φ0 F r))) h:=by
 refine AV (vs:=plV t++ [sv n,sv f,sv g]) y ?_;intro i z o;have⟨D,q,A,s⟩:=St.blk o;have⟨E,j,kf,u⟩:=hZ (t:=f) s;have⟨B,d,kg,v⟩:=hZ (t:=g) u;have a:=(q.trans j).trans d;refine ZK (ps:=ps) (qs:=qs) (f:=f) (g:=g) (n:=n) (t:=t) (gk.mono a) (l.trans a) (cB.mono a) ⟨A.mono (j.trans d),k.mono a,kf.mono d,kg⟩ (by omega) (null:=null) (ss:=b++c) (by rw[jL,jL,m,x]) (by rw[m];exact hd) ?_;have e:AT (ps++qs) (b++c)=AT ps b++AT qs c:=by
  unfold AT;exact List.zipWith_append m
 show St B (cR 4 iC n null::(AT (ps++qs) (b++c) ++_)) z;rw[e,iB];exact v
theorem co (a c n:Chk) (B D G:List Chk):(a::(B++(c::(D++(n::G))))).Perm (c::a::n::(D++(B++G))):=
 (gU a (List.perm_middle.trans (gU c ((jR B gW).trans (List.perm_middle.trans (gU n (by rw[←iB,←iB];exact hU _ jF))))))).trans (iI _ _ _)
theorem cq (a c n:Chk) (B D G:List Chk):(a::(B++(n::c::(D++G)))).Perm (c::a::n::(D++(B++G))):=
 (gU a (List.perm_middle.trans ((gU n (List.perm_middle.trans (gU c (by rw[←iB,←iB];exact hU _ jF)))).trans (iI _ _ _)))).trans (iI _ _ _)
theorem cr (a c n:Chk) (B D G:List Chk):(n::a::(B++(c::(D++G)))).Perm (c::a::n::(D++(B++G))):=
 (iI _ _ _).trans (((gU a ((gU n (List.perm_middle.trans (gU c (by rw[←iB,←iB];exact hU _ jF)))).trans (iI _ _ _)))).trans (iI _ _ _))
theorem RZ (gk:Dg.Glob φ) (k:PlK φ t p) (I:St φ F h) {r:dtF}(hd:PN p=some r):
 CallsH gP 62 [.agg #[sv t.1,sv t.2.1,sv t.2.2.1,sv t.2.2.2.1,sv t.2.2.2.2.1,sv t.2.2.2.2.2.1]] h (Ap (UM φ F r)):=by
 refine Av mixed Tryz.func62 ?_;rw[RX];unfold PO;unfold PN at hd;have⟨null,hn,hd⟩:=bS hd;have⟨B,c,hd⟩:=bS hd;have⟨J,A,hd⟩:=bS hd;obtain rfl:B=J:=by rw[c]at A;exact iS A
 have hd:K6 p B.length null (B++B)=some r:=hd;refine AV (vs:=plV t) I ?_;intro r1 O C;have⟨K,d,cB,C⟩:=St.blk C;refine AV (vs:=[.slice none 0 0,.slice none 0 0,.slice none 0 0,.int .i64 0]) C ?_;intro P Q D;have L:t.2.1.2.1=p.2.1.length:=k.k1.length;have hc:∀ {ψ:AD} {Γ:List Chk} {h':AE},Sub K ψ→St ψ Γ h'→ ∀j v,(plV t)[j]? =some v→BW h' ⟨r1,j,none⟩=some v:=λ{ψ Γ h'} le st j v hv=>by
  have:=AJ st.sub ((cB.mono le).at j hv)
  rw[Dt,jD]at this;exact this
 have m:=hc (iK _) D;refine Ek m<|AG (x:=t.2.1) (m 1 _ rfl) rfl<|Ek m<|Ek m ?_;have q:=k.mono d;have w:=gk.mono d;have mk:Dh (gO .i64 ((t.2.1.2.1:Int)+1)) false=some null:=by rw[L];exact hn
 refine DY ?_ ?_
 ·refine Er (r:=iC) (x:=false) Iq D rfl rfl mk ?_;intro n E s;have e:=hc (iK _) s
  repeat refine AN (e _ _ rfl) ?_
  refine AK (ID q s c) ?_;rintro _ M ⟨N,f,ps,a,rfl,o,z⟩;refine⟨f,rfl,?_⟩;have y:=hc a z
  repeat refine AN (y _ _ rfl) ?_
  refine AK (ID (q.mono a) z c) ?_;rintro _ G ⟨H,g,qs,b,rfl,i,u⟩;refine⟨g,rfl,?_⟩;have l:=hc (a.trans b) u
  repeat refine AN (l _ _ rfl) ?_
  exact UN (f:=f) (g:=g) (n:=n) (ps:=ps) (qs:=qs) (w.mono (a.trans b)) (d.trans (a.trans b)) (cB.mono (a.trans b)) (q.mono (a.trans b)) o i rfl hd (u.perm (co _ _ _ _ _ _))
 ·refine AK (ID q D c) ?_;rintro _ M ⟨N,f,ps,a,rfl,o,z⟩;refine⟨f,rfl,?_⟩;have y:=hc a z
  repeat refine AN (y _ _ rfl) ?_
  refine DY ?_ ?_
  ·refine Er (r:=iC) (x:=false) Iq z rfl rfl mk ?_;intro n E s;have e:=hc a s
   repeat refine AN (e _ _ rfl) ?_
   refine AK (ID (q.mono a) s c) ?_;rintro _ G ⟨H,g,qs,b,rfl,i,u⟩;refine⟨g,rfl,?_⟩;have l:=hc (a.trans b) u
   repeat refine AN (l _ _ rfl) ?_
   exact UN (f:=f) (g:=g) (n:=n) (ps:=ps) (qs:=qs) (w.mono (a.trans b)) (d.trans (a.trans b)) (cB.mono (a.trans b)) (q.mono (a.trans b)) o i rfl hd (u.perm (cq _ _ _ _ _ _))
  ·refine AK (ID (q.mono a) z c) ?_;rintro _ G ⟨H,g,qs,b,rfl,i,u⟩;refine⟨g,rfl,?_⟩;have l:=hc (a.trans b) u
   repeat refine AN (l _ _ rfl) ?_
   refine Er (r:=iC) (x:=false) Iq u rfl rfl mk ?_;intro n E s;have e:=hc (a.trans b) s
   repeat refine AN (e _ _ rfl) ?_
   exact UN (f:=f) (g:=g) (n:=n) (ps:=ps) (qs:=qs) (w.mono (a.trans b)) (d.trans (a.trans b)) (cB.mono (a.trans b)) (q.mono (a.trans b)) o i rfl hd (s.perm (cr _ _ _ _ _ _))
end
end Go.Proofs.YtkfgeafgfeppfaaGreatDoor
namespace Go.Proofs.YtkfgeafgfeppfaaGreatDoor
open Go Go.Eng
section
variable {φ:AD}{h:AE}{F:List Chk}
theorem PR:Fv gP 54 54 79 2:=⟨kZ,.inl kZ,⟨Tryz.t79,by kernel_rfl,rfl,⟨_,rfl,rfl⟩,by decide,by decide⟩,by decide⟩
noncomputable def D5 (f_0:Z6) (a:Au) (c:gM):Option (gM×Bool):=
 (CM (a.1.length:Int)).bind λt4=>
 (DE (σ:=C8) (β:=(gM×Bool)) 0 (c.length:Int) t4 λd k=>
  (((idx c d).bind λb=>
  (Bu a b).bind λl=>
  cond l
  ((Aq k b).bind λm=>
   (Qa m.2).bind λn=>
   some (iG (n,false)))
  ((cond (decide ((gO .i64 (b - (a.1.length:Int))) < 0))
   (some true)
   (some (decide ((gO .i64 (b - (a.1.length:Int))) ≥ (f_0.2.1.length:Int))))).bind λo=>
   cond o
   (some (iH k))
   ((idx f_0.2.1 (gO .i64 (b - (a.1.length:Int)))).bind λp=>
    (DJ (a.1.length:Int) p).bind λq=>
    (RR k q).bind λe=>
    (idx f_0.1 (gO .i64 (b - (a.1.length:Int)))).bind λf=>
    cond (!f)
    ((Qa e.2).bind λr=>
     some (iG (r,false)))
    (some (iH e.2))))):Option (AW C8 (gM×Bool))).bind λg=>match g with
  |.next t=>
   some (iH t)
  |.done h=>some (iG h)).bind λi=>match i with
 |.next u=>
  (Qa u).bind λs=>
  some (s,true)
 |.done j=>some j
theorem LX {f_0:Slc×Slc×Slc×Int×Unit}{o:List Bool}{j:List gM}{p:List gM}{A:Pl6}{k:Au}{B:Slc}{l:gM}(gk:Dg.Glob φ) (V:Ro.SliceIs iC φ f_0.1 o) (q:Ro.SliceIs (hQ (gT .i64)) φ f_0.2.1 j) (d2:Ro.SliceIs (hQ (gT .i64)) φ f_0.2.2.1 p) (s:JR φ A k) (u:Ro.SliceIs (gT .i64) φ B l) (W:St φ (F) h) {r:(gM×Bool)}(hd:D5 (o,j,p,f_0.2.2.2.1) k l=some r):
 CallsH gP 101 [(.agg #[(sv f_0.1),(sv f_0.2.1),(sv f_0.2.2.1),(.int .i64 f_0.2.2.2.1)]),(aG A),(sv B)] h (Ap λv h'=>∃ψ:AD,∃y:Slc×Bool×Unit,∃w:gM,Sub φ ψ∧v=((.tuple fZ):Sh).val y∧(w,y.2.1)=r∧Ro.SliceIs (gT .i64) ψ y.1 w∧St ψ (F) h'):=by
 refine AY mixed Tryz.func101 (LS ..) ?_;have ad:f_0.2.1.2.1=iA j:=q.length;have b:A.1.2.1=iA k.1:=s.k0.length;have x:B.2.1=iA l:=u.length;refine AV (vs:=[sv f_0.1,sv f_0.2.1,sv f_0.2.2.1,.int .i64 f_0.2.2.2.1]) W λr1 d3 al=>GK (t:=A) al λI d4 z=>AA z rfl ?_;have⟨d5,a0,hd⟩:=bS hd;rw[←b]at a0;refine AK (EF z a0) ?_;rintro _ d6 ⟨N,t4,ap,d7,rfl,rfl,ax⟩;refine⟨t4,rfl,?_⟩;have⟨d8,X,hd⟩:=bS hd;refine BZ X (λY y w_ g=>∃ψ:AD,∃O:C8,Sub N ψ∧y.1=Y∧O=g∧St ψ (cO 199 EW t4 O::Wq2 I A::Wq7 r1 f_0::F) w_) ((0:Int),false,((none,0,0):Slc),()) rfl ⟨N,ap,sb,rfl,rfl,ax.at2.at2.at2⟩ ?_ ?_ ?_
 ·rintro _ C d9 _ _ ⟨Z,P,da,rfl,rfl,m⟩ c db b3 b4 Q;refine Ac (dT x b3) ?_;have⟨b5,a,c⟩:=bS c;refine Ag (λy w_ g=>∃ψ:AD,∃R:C8,Sub Z ψ∧iH R=g∧St ψ (cO 199 EW t4 R::Wq2 I A::Wq7 r1 f_0::F) w_) (g:=b5) ?_ ?_
  ·refine gx u a m λb6 a=>Bk (t:=A) m.at1 ?_;have⟨dc,b7,a⟩:=bS a;refine AK (FM s.up m b7) ?_;rintro _ dd ⟨n,J,de,rfl,rfl,d⟩;refine⟨J,rfl,?_⟩;refine AH a rfl (λ_ a=> ?_) (λ_ a=> ?_)
   ·have⟨df,b8,a⟩:=bS a;refine AK (CV d b8) ?_;rintro _ dg ⟨dh,K,di,dj,rfl,rfl,b9⟩;refine⟨K,rfl,?_⟩;have⟨dk,ba,a⟩:=bS a;refine AK (Ni (gk.mono sb) b9 ba) ?_;rintro _ dl ⟨bb,D,bd,dm,rfl,rfl,bf,bg⟩;refine⟨D,rfl,?_⟩;obtain rfl:=iS a;obtain rfl:=iS c;obtain rfl:=Q _ rfl;obtain rfl:=iS hd;exact Al (Aj (Al (AC ⟨bb,(D,false,()),bd,sb,rfl,rfl,bf,bg.tail.tail.tail⟩)))
   refine AA d.at1 rfl ?_;have⟨bi,e,a⟩:=bS a;refine Aa (λy w_ g=>∃ψ:AD,Sub n ψ∧y.1=g∧St ψ (cO 199 EW t4 P::Wq2 I A::Wq7 r1 f_0::F) w_) (g:=bi) ?_ ?_
   ·refine AH e (by rw[b] <;>rfl) (λ_ e=> ?_) (λ_ e=> ?_)
    ·have bj:=d.at2;obtain rfl:=iS e;exact AO (true,()) rfl ⟨n,sb,rfl,bj.at2.at2⟩
    refine AA d.at2 rfl ?_;have bl:=d.at2.at2.at2;obtain rfl:=iS e;exact AO ((decide ((gO .i64 (b6 - (A.1.2.1:Int))) ≥ (f_0.2.1.2.1:Int))),()) rfl ⟨n,sb,(by rw[b,ad]),bl⟩
   rintro f0 dn ⟨bn,dp,rfl,f⟩;refine AH a rfl (λ_ a=> ?_) (λ_ a=> ?_)
   ·have bp:=f.at2;obtain rfl:=iS a;exact AL (C.2.1,(C.2.2.1.1,C.2.2.1.2.1,C.2.2.1.2.2),()) rfl ⟨bn,P,sb,rfl,bp.at2.at2⟩
   refine AA f.at1 rfl<|AA f.at2 rfl ?_;have⟨dq,S,a⟩:=bS a;rw[←b]at S;refine RA q S (jN sb f.sub) λdr bq=> ?_;have⟨ds,T,a⟩:=bS a;rw[←b]at T;refine AK (Ei bq.up f T) ?_;rintro _ dt ⟨du,L,dv,dw,rfl,rfl,bs⟩;refine⟨L,rfl,?_⟩;have⟨dx,bt,a⟩:=bS a;refine AK (T9 (gk.mono sb) bs.at1 bt) ?_;rintro _ dy ⟨bx,M,bz,dz,rfl,rfl,i⟩;refine⟨M,rfl,?_⟩;refine AA i.at3 rfl ?_;have⟨e0,U,a⟩:=bS a;rw[←b]at U;refine On V U (jN sb i.sub)<|AH a rfl (λ_ a=> ?_) (λ_ a=> ?_)
   ·have⟨e1,c0,a⟩:=bS a;refine AK (Ni (gk.mono sb) i c0) ?_;rintro _ e2 ⟨c1,E,c2,e3,rfl,rfl,c3,c4⟩;refine⟨E,rfl,?_⟩;obtain rfl:=iS a;obtain rfl:=iS c;obtain rfl:=Q _ rfl;obtain rfl:=iS hd;exact Al (Aj (Al (AC ⟨c1,(E,false,()),c2,sb,rfl,rfl,c3,c4.tail.tail.tail.tail⟩)))
   obtain rfl:=iS a;exact FG (C.2.1,(C.2.2.1.1,C.2.2.1.2.1,C.2.2.1.2.2),()) rfl ⟨bx,bz,sb,rfl,i.at1.tail.at2.at2.at2⟩
  rintro H e4 ⟨c5,c6,e5,rfl,c7⟩;obtain rfl:=iS c;exact AZ ((wN C.1),H.1,(H.2.1.1,H.2.1.2.1,H.2.1.2.2),()) _ rfl rfl ⟨c5,c6,sb,b4,rfl,c7.at2.at2.at2⟩
 ·rintro _ C e6 _ ⟨c8,c9,e7,rfl,rfl,ch⟩ cl cm;subst cm;refine AU (dF x cl)<|AI (AL (C.1,C.2.1,(C.2.2.1.1,C.2.2.1.2.1,C.2.2.1.2.2),()) rfl ⟨_,rfl,_,c8,c9,sb,rfl,rfl,ch.at2.at2.at2⟩)
 rintro z5 e8 ⟨_,rfl,_,e9,ea,eb,_,rfl,cp⟩;have⟨ec,cs,hd⟩:=bS hd;refine AK (Ni (gk.mono sb) cp cs) ?_;rintro _ ed ⟨cw,G,cx,ee,rfl,rfl,d0,d1⟩;refine⟨G,rfl,?_⟩;obtain rfl:=iS hd;exact AC ⟨cw,(G,true,()),cx,sb,rfl,rfl,d0,d1.tail.tail.tail⟩
noncomputable def BN (c:N9) (b:Int) (a:Int):Option Bool:=(cond (decide (a< 0)) (some true) (some (decide (a≥ (c.2.2.1.length:Int))))).bind λg=>cond g (some false) ((idx c.2.2.1 a).bind λd=>(B4 c.2.2.2.2.2.2.1 b).bind λe=>(Aw e (a,(d.2.1.length:Int))).bind λf=>some f)
theorem Ea {C:gL}{e:N9}{B:Int}{A:Int}(c:Pt QP φ C e) (E:St φ (F) h) {r:Bool}(hd:BN e B A=some r):
 CallsH gP 41 [(.pointer C),(.int .i64 B),(.int .i64 A)] h (Ap λv h'=>∃ψ:AD,∃y:Bool,Sub φ ψ∧v=fR.val y∧y=r∧St ψ (F) h'):=by
 refine AY mixed Tryz.func41 (LU ..) ?_;have⟨m,a,hd⟩:=bS hd;refine Aa (λy w_ g=>∃ψ:AD,Sub φ ψ∧y.1=g∧St ψ (F) w_) (g:=m) ?_ ?_
 ·refine AH a rfl (λ_ a=> ?_) (λ_ a=> ?_)
  ·obtain rfl:=iS a;exact AO (true,()) rfl ⟨φ,sb,rfl,E⟩
  refine pfR RC c E λn o=> ?_;have p:=o.length;obtain rfl:=iS a;exact AO ((decide (A≥ (n.2.1:Int))),()) rfl ⟨φ,sb,(by rw[p]),E⟩
 rintro N ap ⟨f,ax,rfl,b⟩;refine AH hd rfl (λ_ hd=> ?_) (λ_ hd=> ?_)
 ·obtain rfl:=iS hd;exact AC ⟨f,false,sb,rfl,rfl,b⟩
 refine pfR Mg c b λO q=> ?_;obtain⟨P,Q,s,⟨_,_,rfl,⟨R,rfl,S⟩,_,_,rfl,⟨T,rfl,U⟩,_,_,rfl,⟨t,rfl,u⟩,_,_,rfl,⟨V,rfl,W⟩,_,_,rfl,⟨X,rfl,ba⟩,_,_,rfl,⟨bb,rfl,bd⟩,_,_,rfl,⟨bf,rfl,bg⟩,_,_,rfl,⟨bi,rfl,bj⟩,_,_,rfl,⟨bl,rfl,bn⟩,_,_,rfl,⟨bp,rfl,bq⟩,_,_,rfl,rfl,_,_,rfl,⟨bs,rfl,bt⟩,_,_,rfl,rfl,rfl⟩,i⟩:=id c;refine AF _ s<|AG (x:=t) (AJ (jN sb b.sub) (i.at 2 rfl)) rfl ?_;have⟨bx,w,hd⟩:=bS hd;obtain⟨bz,Y,z,a0,H,j⟩:=(u.up (ψ:=f)).get w;refine AF _ z (Ah a0 ?_);obtain⟨_,_,rfl,rfl,⟨_,_,rfl,⟨k,rfl,I⟩,J⟩⟩:=H;have K:=I.length;obtain rfl:=J;refine AG (x:=k) (by rw[An];exact(AJ (jN sb b.sub) (j 1 _ rfl))) rfl ?_;have⟨Z,L,hd⟩:=bS hd;refine AK (FX q.up b L) ?_;rintro _ c2 ⟨c3,G,c4,c5,rfl,rfl,M,d⟩;refine⟨G,rfl,?_⟩;refine AN (by rw[An];exact(AJ (jN sb d.sub) (j 1 _ rfl)))<|AN (AJ (jN sb d.sub) (i.at 2 rfl)) ?_;have⟨c6,l,hd⟩:=bS hd;rw[←K]at l;refine AK (Du (v_1:=(A,(k.2.1:Int),())) M d l) ?_;rintro _ c7 ⟨ad,D,c8,rfl,rfl,al⟩;refine⟨D,rfl,?_⟩;obtain rfl:=iS hd;exact AC ⟨ad,D,sb,rfl,rfl,al⟩
noncomputable def DL (c:N9) (a:Int):Option gM:=(B4 c.2.2.2.2.2.2.1 a).bind λt3=>(forS (σ:=gM) 0 (t3.length:Int) ([]:gM) λd h=>(idx t3 d).bind λb=>(idx c.2.2.1 b.1).bind λe=>(cond (b.2==(e.2.1.length:Int)) ((app h ([b.1]:gM)).bind λf=>some f) (some h)).bind λg=>some g).bind λi=>some i
theorem LY {B:gL}{i:N9}{A:Int}(j:Pt QP φ B i) (G:St φ (F) h) {r:gM}(hd:DL i A=some r):
 CallsH gP 13 [(.pointer B),(.int .i64 A)] h (Ap λv h'=>∃ψ:AD,∃y:Slc,∃k:gM,Sub φ ψ∧v=fP.val y∧k=r∧Ro.SliceIs (gT .i64) ψ y k∧St ψ (F) h'):=by
 refine AY mixed Tryz.func13 (LV ..)<|pfR Mg j G λbb u=> ?_;have⟨bd,w,hd⟩:=bS hd;refine AK (FX u G w) ?_;rintro _ bf ⟨l,t3,bg,bi,rfl,rfl,m,x⟩;refine⟨t3,rfl,?_⟩;have n:=m.length;have⟨bj,z,hd⟩:=bS hd;refine BM z (λa0 y w_ g=>∃ψ:AD,∃o:gM,Sub l ψ∧y.1=a0∧o=g∧St ψ (cR 3 (gT .i64) y.2.1 o::F) w_) ((0:Int),((none,0,0):Slc),()) rfl ⟨l,[],sb,rfl,rfl,(x.nil 3 (gT .i64))⟩ ?_ ?_ ?_
 ·rintro _ C bl _ _ ⟨f,I,bn,rfl,rfl,p⟩ b bp J K;refine Ac (dT n J)<|OM m b p λe b=>AV (vs:=[.int .i64 (0:Int),.int .i64 (0:Int)]) p λL bq M=>AQ M rfl rfl λbs N=>AQ N rfl rfl λbt c=>AA c rfl<|pfR RC j c λbx O=>AA c rfl<|ixR HX O b c λbz c0 P b=> ?_;have Q:=P.length;have⟨R,d,b⟩:=bS b;refine Aa (λy w_ g=>∃ψ:AD,∃q:gM,Sub f ψ∧q=g∧St ψ (cR 3 (gT .i64) y.1 q::cW 73 L [.int .i64 e.1,.int .i64 e.2]::F) w_) (g:=R) ?_ ?_
  ·refine AH d (by rw[Q] <;>rfl) (λ_ d=> ?_) (λ_ d=> ?_)
   ·refine AA c rfl<|AV (vs:=[.int .i64 e.1]) c λS c1 s=> ?_;have⟨ad,al,d⟩:=bS d;refine AX (r:=(gT .i64)) (ms:=([e.1]:gM)) B0 s.tail.at1 rfl (iO s) (.cons (a:=[_]) rfl .nil) rfl al ?_;intro D c2 ap;obtain rfl:=iS d;exact AO (D,()) rfl ⟨f,ad,sb,rfl,ap.at1.at1⟩
   obtain rfl:=iS d;exact AO (C.2.1,()) rfl ⟨f,I,sb,rfl,c.at1.at1.at1⟩
  rintro E c3 ⟨ax,T,c4,rfl,U⟩;obtain rfl:=iS b;exact AZ ((wN C.1),E.1,()) _ rfl rfl ⟨ax,T,sb,K,rfl,U.at1.tail⟩
 ·rintro _ C c5 ⟨V,W,c6,rfl,rfl,X⟩ Y;refine AU (dF n Y)<|AI (AL (C.1,C.2.1,()) rfl ⟨_,V,W,sb,rfl,rfl,X⟩)
 rintro H c7 ⟨_,c8,Z,c9,_,rfl,b7⟩;have⟨b8,ch,b9,ba⟩:=hZ (t:=H.2.1) b7;obtain rfl:=iS hd;exact AC ⟨b8,H.2.1,Z,sb,rfl,rfl,b9,ba⟩
noncomputable def DM (c:N9) (a:Int) (b:Int):Option (List C5):=(BN c a b).bind λt1=>cond (!t1) (some ([]:List C5)) ((idx c.2.2.1 b).bind λe=>(B5 c.2.2.2.2.2.2.1).bind λh=>(forS (σ:=List C5) 0 h ([]:List C5) λd f=>(BA c.2.2.2.2.2.2.1 d e.1).bind λg=>(cond (decide (g≥ 0)) ((Bt c.2.2.2.2.2.2.1 d e.2.1).bind λi=>some (i==a)) (some false)).bind λj=>(cond j ((app f ([(e.1,g)]:List C5)).bind λk=>some k) (some f)).bind λl=>some l).bind λm=>some m)
theorem LZ {E:gL}{q:N9}{A:Int}{B:Int}(i:Pt QP φ E q) (P:St φ (F) h) {r:(List C5)}(hd:DM q A B=some r):
 CallsH gP 18 [(.pointer E),(.int .i64 A),(.int .i64 B)] h (Ap λv h'=>∃ψ:AD,∃y:Slc,∃s:List C5,Sub φ ψ∧v=fP.val y∧s=r∧Ro.SliceIs DR ψ y s∧St ψ (F) h'):=by
 refine AY mixed Tryz.func18 (LW ..) ?_;have⟨c9,Q,hd⟩:=bS hd;refine AK (Ea i P Q) ?_;rintro _ ch ⟨l,t1,cl,rfl,rfl,f⟩;refine⟨t1,rfl,?_⟩;refine AH hd rfl (λ_ hd=> ?_) (λ_ hd=> ?_)
 ·obtain rfl:=iS hd;exact AC ⟨l,((none,0,0):Slc),[],sb,rfl,rfl,(jP DR l),f⟩
 refine pfR RC i f λcm R=> ?_;have⟨b,S,hd⟩:=bS hd;obtain⟨cp,cs,T,U,V,m⟩:=(R.up (ψ:=l)).get S;refine AF _ T (Ah U ?_);obtain⟨_,_,rfl,rfl,⟨_,_,rfl,⟨j,rfl,W⟩,rfl⟩⟩:=V;refine AG (x:=b.1) (AJ (jN sb f.sub) (m 0 _ rfl)) rfl<|AG (x:=j) (by rw[An];exact(AJ (jN sb f.sub) (m 1 _ rfl))) rfl<|AG (x:=b.2.2) (by rw[An];exact(AJ (jN sb f.sub) (m 2 _ rfl))) rfl<|AV (vs:=[.int .i64 (0:Int),.slice none 0 0,.int .i64 (0:Int)]) f λI cw X=>AQ X rfl rfl λcx Y=>AQ Y rfl rfl λd0 Z=>AQ Z rfl rfl λd1 u=>pfR Mg i u λd2 b4=> ?_;have⟨d3,b5,hd⟩:=bS hd;refine AK (Co b4.up u b5) ?_;rintro _ d4 ⟨w,J,d5,rfl,rfl,b6⟩;refine⟨J,rfl,?_⟩;have⟨d6,b7,hd⟩:=bS hd;refine BM b7 (λb8 y w_ g=>∃ψ:AD,∃z:List C5,Sub w ψ∧y.1=b8∧z=g∧St ψ (cR 79 DR y.2.1 z::cW 95 I [.int .i64 b.1,sv j,.int .i64 b.2.2]::F) w_) ((0:Int),((none,0,0):Slc),()) rfl ⟨w,[],sb,rfl,rfl,(((b6.nil 79 DR).at1).at1)⟩ ?_ ?_ ?_
 ·rintro _ C d7 _ _ ⟨d8,a0,d9,rfl,rfl,n⟩ c da b9 ba;refine Ac (by exact gC b9)<|pfR Mg i n λdb bb=>AA n.at1 rfl ?_;have⟨dc,bd,c⟩:=bS c;refine AK (De bb.up n bd) ?_;rintro _ dd ⟨M,D,de,rfl,rfl,k⟩;refine⟨D,rfl,?_⟩;have⟨bf,d,c⟩:=bS c;refine Aa (λy w_ g=>∃ψ:AD,Sub M ψ∧y.1=g∧St ψ (cR 79 DR C.2.1 a0::cW 95 I [.int .i64 b.1,sv j,.int .i64 b.2.2]::F) w_) (g:=bf) ?_ ?_
  ·refine AH d rfl (λ_ d=> ?_) (λ_ d=> ?_)
   ·refine pfR Mg i k λdf bg=>AA k.at1 rfl ?_;have⟨dg,bi,d⟩:=bS d;refine AK (EH bg.up W.up k bi) ?_;rintro _ dh ⟨bj,G,di,rfl,rfl,bl⟩;refine⟨G,rfl,?_⟩;obtain rfl:=iS d;exact AO ((G==A),()) rfl ⟨bj,sb,rfl,bl.at1.at1⟩
   obtain rfl:=iS d;exact AO (false,()) rfl ⟨M,sb,rfl,k.at1.at1⟩
  rintro e0 dj ⟨o,dk,rfl,p⟩;have⟨bn,e,c⟩:=bS c;refine Aa (λy w_ g=>∃ψ:AD,∃N:List C5,Sub o ψ∧N=g∧St ψ (cR 79 DR y.1 N::cW 95 I [.int .i64 b.1,sv j,.int .i64 b.2.2]::F) w_) (g:=bn) ?_ ?_
  ·refine AH e rfl (λ_ e=> ?_) (λ_ e=> ?_)
   ·refine AA p.at1 rfl<|AV (vs:=[.int .i64 b.1,.int .i64 D]) p λe1 dl O=> ?_;have⟨bp,bq,e⟩:=bS e;refine AX (r:=DR) (ms:=([(b.1,D)]:List C5)) PR O.tail rfl (iO O) (.cons (a:=[_,_]) ⟨[_],_,rfl,rfl,rfl⟩ .nil) rfl bq ?_;intro K dm bs;obtain rfl:=iS e;exact AO (K,()) rfl ⟨o,bp,sb,rfl,bs.at1.at1⟩
   obtain rfl:=iS e;exact AO (C.2.1,()) rfl ⟨o,a0,sb,rfl,p.at1.at1⟩
  rintro L dn ⟨bt,bx,dp,rfl,bz⟩;obtain rfl:=iS c;exact AZ ((wN C.1),L.1,()) _ rfl rfl ⟨bt,bx,sb,ba,rfl,bz.at1.at1⟩
 ·rintro _ C dq ⟨c0,c1,dr,rfl,rfl,c2⟩ c3;refine AU (by exact gB (iQ.2 c3))<|AI (AL (C.1,C.2.1,()) rfl ⟨_,c0,c1,sb,rfl,rfl,c2.at1.at1⟩)
 rintro H ds ⟨_,dt,c4,du,_,rfl,c5⟩;have⟨c6,dv,c7,c8⟩:=hZ (t:=H.2.1) c5;obtain rfl:=iS hd;exact AC ⟨c6,H.2.1,c4,sb,rfl,rfl,c7,c8.tail⟩
end
end Go.Proofs.YtkfgeafgfeppfaaGreatDoor
namespace Go.Proofs.YtkfgeafgfeppfaaGreatDoor
open Go Go.Eng Dg
abbrev Stp:Type:=Wp
noncomputable def P9 {σ:Type}(p:dtP) (A:dtA) (f:σ→Stp→Int→Option σ) (s:σ):Option σ:=(B5 A).bind λn=>forS 0 n s λi s=>(Cp A i).bind λes=>forS 0 (es.length:Int) s λj s=>(idx es j).bind λe=>(Bu p e.1).bind λt=>cond (!t) (f s (i,e.1) e.2) (some s)
abbrev EnS:Type:=List Stp×List (Stp×Int)
def KZ (st:EnS) (s:Stp) (_:Int):Option EnS:=(app st.1 [s]).bind λl=>some (l,CH s (st.1.length:Int) st.2)
noncomputable def ZL (d:gL) (g:Nat) (args:Int→Int→Int→List Value):T:=deref d λu=>fE u 6 λt2=>gX 11 [fN t2] fQ λt3=>gZ 0 fW (iD fW [fL 0] λe=>cond (decide (e.1<t3)) (deref d λv=>fE v 6 λw=>gX 91 [fN w,fL e.1] fP λh=>gZ 2 fW (iD fW [fL 0] λa=>cond (decide (a.1< (h.2.1:Int))) (deref h.1 λf=>chk (0≤a.1∧a.1< (h.2.1:Nat))<|eH f a.1 2 λi=>eK f a.1 2 1 λj=>dZ #[fL 0,fL 0] 79 λc=>eM c 0 i<|eM c 1 j<|deref d λb=>fD b λk=>eF b 1 λl=>eF b 2 λm=>eF b 3 λn=>eF b 4 λo=>eF b 5 λp=>eL c 0 λq=>gX 80 [.agg #[sv k,sv l,sv m,sv n,sv o,sv p],fL q] fR λr=>iE [] (cond (!r) (eL c 0 λs=>eL c 1 λt=>gX g (args e.1 s t) (.tuple []) λ_=>gS []) (gS [])) λ_=>gS [fL (gO .i64 (a.1+(1:Int)))]) (iJ 2 [fL a.1])) λ_=>gS [fL (gO .i64 (e.1+(1:Int)))]) (iJ 0 [fL e.1])) λ_=>iF (.tuple #[])
section
variable {φ ψ:AD}{h:AE}{F:List Chk}{a:Addr}{t:Slc×Slc×Slc×Slc×Slc×Slc×Unit}{p:dtP}{ap:gL}{A:dtA}
theorem Sq {K:Bool→T}{P:Bh→AE→Prop}{b:Nat}{v:Value}{s:Int}(cells:∀j v,(plV t)[j]? =some v→BW h (a.add j)=some v) (hs:BW h ⟨b,0,none⟩=some (.int .i64 s)) (k:PlK φ t p) (st:St φ F h) {r:Bool}(hd:Bu p s=some r)
 (hk:∀ψ h',Sub φ ψ→St ψ F h'→(K r).wp gP P h'):
 (jA .slice a λ(f:Slc)=>jA .slice (a.add 1) λ(g:Slc)=>jA .slice (a.add 2) λ(i:Slc)=>jA .slice (a.add 3) λ(l:Slc)=>jA .slice (a.add 4) λ(c:Slc)=>jA .slice (a.add 5) λ(d:Slc)=>
  jA (.int .i64) ⟨b,0,none⟩ λ(e:Int)=>
  gX 80 [(.agg #[(sv f),(sv g),(sv i),(sv l),(sv c),(sv d)]),(.int .i64 e)] fR K).wp gP P h:=by
 refine AG (x:=t.1) (by have:=cells 0 _ rfl;rwa [add_zero]at this) rfl<|AG (x:=t.2.1) (cells 1 _ rfl) rfl<|AG (x:=t.2.2.1) (cells 2 _ rfl) rfl<|AG (x:=t.2.2.2.1) (cells 3 _ rfl) rfl<|AG (x:=t.2.2.2.2.1) (cells 4 _ rfl) rfl<|AG (x:=t.2.2.2.2.2.1) (cells 5 _ rfl) rfl<|AG (x:=s) hs rfl<|AK (FM k st hd) ?_;rintro _ m ⟨ψ,y,le,rfl,rfl,n⟩;exact⟨y,rfl,hk ψ m le n⟩
theorem U7 {X σ:Type}(Γ:X→List Chk) (al:X→σ) (f:σ→Stp→Int→Option σ) (g:Nat) (args:Int→Int→Int→List Value)
 (hcells:∀ψ x w Δ,Sub φ ψ→St ψ (Γ x++Δ) w→ ∀j v,(plV t++ [.pointer ap])[j]? =some v→BW w (a.add j)=some v)
 (hcall:∀ψ w x s' n s to Δ,Sub φ ψ→St ψ (Γ x++Δ) w→f (al x) (n,s) to=some s'→CallsH gP g (args n s to) w (Ap λv h'=>v= .tuple #[] ∧ ∃ψ' x',Sub ψ ψ'∧al x'=s'∧St ψ' (Γ x'++Δ) h'))
 (kA:Pt Fy φ ap A) (kP:PlK φ t p) {x:X} {s':σ} (hd:P9 p A f (al x)=some s') (s0:St φ (Γ x++F) h):
 (ZL (some a) g args).wp gP (Ln (Ap λv h'=>v= .tuple #[] ∧ ∃ψ x',Sub φ ψ∧al x'=s'∧St ψ (Γ x'++F) h')) h:=by
 unfold ZL;unfold P9 at hd;have⟨n,hn,hd⟩:=bS hd;have pc:∀ {ψ x w Δ},Sub φ ψ→St ψ (Γ x++Δ) w→ ∀j v,(plV t)[j]? =some v→BW w (a.add j)=some v:=λ{ψ x w Δ} le st j v hv=>hcells ψ x w Δ le st j v (by rw[iR (gY.1 hv).1];exact hv);refine AF _ rfl<|AG (x:=ap) (hcells _ _ _ _ (iK _) s0 6 _ rfl) rfl<|AK (Co kA s0 hn) ?_;rintro _ h1 ⟨ψ1,y,L,rfl,rfl,M⟩;refine⟨y,rfl,?_⟩;refine Ag (λ(z:Int×Unit) w g=>∃ψ x',Sub φ ψ∧al x'=g∧St ψ (Γ x'++F) w) (g:=s') ?_ ?_
 ·refine By hd (λi (z:Int×Unit) w g=>z.1=i∧ ∃ψ x',Sub φ ψ∧al x'=g∧St ψ (Γ x'++F) w) ((0:Int),()) rfl ⟨rfl,ψ1,x,L,rfl,M⟩ ?_ ?_
  ·rintro i z w s e ⟨rfl,ψ,x1,le,rfl,st⟩ he h0 hlt hw;refine Ac (gC hlt) ?_;have⟨es,hes,he⟩:=bS he;refine AF _ rfl<|AG (x:=ap) (hcells _ _ _ _ le st 6 _ rfl) rfl<|AK (FY (kA.mono le) st hes) ?_;rintro _ h2 ⟨N,t8,l2,u,rfl,rfl,k8,O⟩;refine⟨t8,rfl,?_⟩;have n8:=k8.length;refine Ag (λ(z:Int×Unit) w g=>∃ψ x',Sub φ ψ∧al x'=g∧St ψ (Γ x'++F) w) (g:=e) ?_ ?_
   ·refine By he (λi (z:Int×Unit) w g=>z.1=i∧ ∃ψ' x',Sub N ψ'∧al x'=g∧St ψ' (Γ x'++F) w) ((0:Int),()) rfl ⟨rfl,N,x1,iK _,rfl,O⟩ ?_ ?_
    ·rintro i2 P w2 s2 e2 ⟨rfl,Q,x3,k,rfl,o⟩ c a1 B R;have l:=(le.trans u).trans k;refine Ac (by rw[n8];exact gC B) ?_;have⟨ed,hed,c⟩:=bS c;have⟨tm,htm,c⟩:=bS c;obtain⟨A1,a2,S,T,q1,C⟩:=(k8.mono k).get hed;refine AF _ S (Ah T ?_);obtain⟨_,_,rfl,rfl,rfl⟩:=q1;refine AG (x:=ed.1) (AJ o.sub (C 0 _ rfl)) rfl<|AG (x:=ed.2) (by rw[An];exact AJ o.sub (C 1 _ rfl)) rfl<|AV (vs:=[.int .i64 0,.int .i64 0]) o ?_;intro d h3 U;refine Cf (b:=d) (j:=0) (v:=.int .i64 ed.1) U rfl (by simp) ?_;intro h4 V;refine Cf (b:=d) (j:=1) (v:=.int .i64 ed.2) V rfl (by simp) ?_;intro h5 D;have E:St Q (Γ x3++(⟨jT 79,[.pointer (fH d)],[.int .i64 ed.1,.int .i64 ed.2]⟩::F)) h5:=D.perm (gW (l₁:=Γ x3)).symm;refine AF _ rfl (Sq (v:=.nilFunc) (pc l E) (D.cell rfl) (kP.mono l) E htm ?_);intro J W q r;refine Aa (λ(_:Unit) w g=>∃ψ' x',Sub N ψ'∧al x'=g∧St ψ' (Γ x'++F) w) (g:=e2) ?_ ?_
     ·refine AH c rfl (λ_ c=> ?_) (λ_ c=> ?_)
      ·have m:St J (⟨jT 79,[.pointer (fH d)],[.int .i64 ed.1,.int .i64 ed.2]⟩::(Γ x3++F)) W:=r.perm (gW (l₁:=Γ x3));refine AA (b:=d) (j:=0) (x:=ed.1) m rfl<|AA (b:=d) (j:=1) (x:=ed.2) m rfl<|AK (hcall J W x3 e2 z.1 ed.1 ed.2 _ (l.trans q) r c) ?_;rintro _ K ⟨rfl,ψ5,Y,Z,a0,G⟩;refine⟨(),rfl,?_⟩;have I:St ψ5 (⟨jT 79,[.pointer (fH d)],[.int .i64 ed.1,.int .i64 ed.2]⟩::(Γ Y++F)) K:=G.perm (gW (l₁:=Γ Y));exact AO () rfl ⟨ψ5,Y,(k.trans q).trans Z,a0,I.tail⟩
      ·obtain rfl:=iS c;have m:St J (⟨jT 79,[.pointer (fH d)],[.int .i64 ed.1,.int .i64 ed.2]⟩::(Γ x3++F)) W:=r.perm (gW (l₁:=Γ x3));exact AO () rfl ⟨J,x3,k.trans q,rfl,m.tail⟩
     ·rintro _ K H;exact AZ (gO .i64 (P.1+(1:Int)),()) _ rfl rfl ⟨R,H⟩
    ·rintro i2 P w2 ⟨rfl,Q,x3,k,H⟩ hge;refine AU (by rw[n8];exact gB (iQ.2 hge))<|AI (AL P rfl ⟨Q,x3,(le.trans u).trans k,H⟩)
   ·rintro _ K H;exact AZ (gO .i64 (z.1+(1:Int)),()) _ rfl rfl ⟨hw,H⟩
  ·rintro i z w ⟨rfl,H⟩ hge;refine AU (gB (iQ.2 hge))<|AI (AL z rfl H)
 ·rintro _ K H;exact AC ⟨rfl,H⟩
end
theorem Ra:Q7 gP 184:=⟨_,_,Tryz.underlying184,by kernel_rfl,by decide,by decide,rfl,rfl,jS,jS⟩
theorem Sr:Q7 gP 113:=⟨_,_,Tryz.underlying113,by kernel_rfl,by decide,by decide,rfl,rfl,jS,jS⟩
theorem ZM:Fv gP 105 105 184 2:=⟨kV,.inl kV,⟨Tryz.t184,by kernel_rfl,rfl,⟨_,rfl,rfl⟩,by decide,by decide⟩,by decide⟩
abbrev lkV (t:Slc×Slc×Slc×Slc×Slc×Slc×Unit) (ap:gL) (fz:Slc×Slc×Slc×Int×Unit) (sl:Slc) (nm lm:Nat):List Value:=
 plV t++ [.pointer ap,sv fz.1,sv fz.2.1,sv fz.2.2.1,.int .i64 fz.2.2.2.1,sv sl,.map (some nm),.map (some lm)]
abbrev lkB (b:Nat) (t:Slc×Slc×Slc×Slc×Slc×Slc×Unit) (ap:gL) (fz:Slc×Slc×Slc×Int×Unit) (sl:Slc) (nm lm:Nat):Chk:=cW 109 b (lkV t ap fz sl nm lm)
structure EnX where
 sl:Slc
 steps:List Stp
 num:List (Stp×Int)
abbrev enC (b:Nat) (t:Slc×Slc×Slc×Slc×Slc×Slc×Unit) (ap:gL) (fz:Slc×Slc×Slc×Int×Unit) (nm lm:Nat) (x:EnX):List Chk:=
 [lkB b t ap fz x.sl nm lm,cR 184 SF x.sl x.steps,cM DF (gT .i64) nm x.num]
section
variable {φ ψ:AD}{h:AE}{F:List Chk}{t:Slc×Slc×Slc×Slc×Slc×Slc×Unit}{p:dtP}{ap:gL}{A:dtA}{fz:Slc×Slc×Slc×Int×Unit}{nm lm b:Nat}
theorem V3 {x:EnX}{n s to:Int}{r:EnS}(hd:KZ (x.steps,x.num) (n,s) to=some r) (g:St φ (enC b t ap fz nm lm x++F) h):
 CallsH gP 64 [.pointer (fH b),.agg #[.int .i64 n,.int .i64 s],.int .i64 to] h (Ap λv h'=>v= .tuple #[] ∧ ∃ψ x',Sub φ ψ∧(x'.steps,x'.num)=r∧St ψ (enC b t ap fz nm lm x'++F) h'):=by
 refine Av mixed Tryz.func64 ?_;rw[show Ab gP Tryz.f64 [.pointer (fH b),.agg #[.int .i64 n,.int .i64 s],.int .i64 to] =Ez (fH b) (n,s,()) to from KX (fH b) (n,s,()) to];unfold Ez;unfold KZ at hd;have⟨l,hl,hd⟩:=bS hd;obtain rfl:=iS hd;have hlen:=(g.at1).rowLen;refine AV (vs:=[.int .i64 n,.int .i64 s]) g ?_;intro r1 p c;refine AF _ rfl<|AA (b:=b) (j:=12) (x:=some nm) c.at1 rfl<|AA (b:=r1) (j:=0) (x:=n) c rfl<|AA (b:=r1) (j:=1) (x:=s) c rfl<|AF _ rfl<|AA (b:=b) (j:=11) (x:=x.sl) c.at1 rfl<|J0 (kk:=DF) (k:=(n,s)) (y:=(x.steps.length:Int)) jZ Ra (c.at3) (by rw[←hlen];rfl) ?_;intro q e;refine AF _ rfl<|AA (b:=b) (j:=11) (x:=x.sl) (e.at2) rfl<|AA (b:=r1) (j:=0) (x:=n) (e.at1) rfl<|AA (b:=r1) (j:=1) (x:=s) (e.at1) rfl<|AV (vs:=[.int .i64 n,.int .i64 s]) e ?_;intro i u f;refine AN (f.at3.cell (b:=b) (j:=11) rfl) ?_;have cw:=iO f;refine AX (r:=SF) (ms:=[(n,s)]) ZM (f.at4) rfl cw (.cons (a:=[_,_]) ⟨[_],_,rfl,rfl,rfl⟩ .nil) rfl hl ?_;intro d w m;refine AF _ rfl<|Cf (b:=b) (j:=11) (v:=sv d) (m.at4) rfl (by simp) ?_;intro z o;refine AC ⟨rfl,φ,⟨d,l,CH (n,s) (x.steps.length:Int) x.num⟩,iK _,rfl,o.at2.tail.at3.tail⟩
theorem bT (l k:gL):Gv l k=ZL l 64 λn s to=>[.pointer k,.agg #[.int .i64 n,.int .i64 s],.int .i64 to]:=rfl
theorem Xo (kA:Pt Fy φ ap A) (kP:PlK φ t p) {x:EnX}{s':EnS}(hd:P9 p A KZ (x.steps,x.num)=some s') (a:St φ (enC b t ap fz nm lm x++F) h):
 CallsH gP 63 [.pointer (fH b),.func (.func 64) #[.pointer (fH b)] #[]] h (Ap λv h'=>v= .tuple #[] ∧ ∃ψ x',Sub φ ψ∧(x'.steps,x'.num)=s'∧St ψ (enC b t ap fz nm lm x'++F) h'):=by
 refine Av mixed Tryz.func63 ?_;rw[KV,bT];refine U7 (φ:=φ) (F:=F) (A:=A) (ap:=ap) (t:=t) (p:=p) (λx:EnX=>enC b t ap fz nm lm x) (λx=>(x.steps,x.num)) KZ _ _ ?_ ?_ kA kP hd a
 ·intro ψ x w Δ le st j v hv;have hc:(lkV t ap fz x.sl nm lm)[j]? =some v:=by
   have e:lkV t ap fz x.sl nm lm=(plV t++ [.pointer ap]) ++ [sv fz.1,sv fz.2.1,sv fz.2.2.1,.int .i64 fz.2.2.2.1,sv x.sl,.map (some nm),.map (some lm)]:=rfl;rw[e,iR (gY.1 hv).1];exact hv
  rw[Dt,jD];exact kF st hc
 ·intro ψ w x s' n s to Δ le st hf;exact V3 hf st
end
abbrev dW:Type:=N9
abbrev lkT (p:dtP) (A:dtA) (fa:dtF) (steps:List Stp) (nm lm:Option Nat):dW:=(p.1,p.2.1,p.2.2.1,p.2.2.2.1,p.2.2.2.2.1,p.2.2.2.2.2,A,fa.1,fa.2.1,fa.2.2.1,fa.2.2.2,steps,nm,lm)
structure LkK (φ:AD) (a:Addr) (t:Slc×Slc×Slc×Slc×Slc×Slc×Unit) (ap:gL) (fz:Slc×Slc×Slc×Int×Unit) (sl:Slc) (nm lm:Nat) (p:dtP) (A:dtA) (fa:dtF) (steps:List Stp):Prop where
 cells:Ci φ (some a) (lkV t ap fz sl nm lm)
 pl:PlK φ t p
 kA:Pt Fy φ ap A
 f0:Ro.SliceIs iC φ fz.1 fa.1
 f1:Ro.SliceIs (hQ (gT .i64)) φ fz.2.1 fa.2.1
 f2:Ro.SliceIs (hQ (gT .i64)) φ fz.2.2.1 fa.2.2.1
 f3:fz.2.2.2.1=fa.2.2.2
 ks:Ro.SliceIs SF φ sl steps
section
variable {φ ψ:AD}{h:AE}{F:List Chk}{a:Addr}{t:Slc×Slc×Slc×Slc×Slc×Slc×Unit}{p:dtP}{ap:gL}{A:dtA}{fz:Slc×Slc×Slc×Int×Unit}{sl:Slc}{nm lm b:Nat}{fa:dtF}{steps:List Stp}
theorem LkK.mono (H:LkK φ a t ap fz sl nm lm p A fa steps) (hs:Sub φ ψ):LkK ψ a t ap fz sl nm lm p A fa steps:=
 ⟨H.cells.mono hs,H.pl.mono hs,H.kA.mono hs,H.f0.mono hs,H.f1.mono hs,H.f2.mono hs,H.f3,H.ks.mono hs⟩
theorem LkK.at (H:LkK φ a t ap fz sl nm lm p A fa steps) (st:St φ F h) {j:Nat}{v:Value}(hv:(lkV t ap fz sl nm lm)[j]? =some v):BW h (a.add j)=some v:=AJ st.sub (H.cells.at j hv)
theorem LkK.pv (H:LkK φ a t ap fz sl nm lm p A fa steps) (st:St φ F h):∀j v,(plV t)[j]? =some v→BW h (a.add j)=some v:=λj v hv=>H.at st (by
 rw[iR (gY.1 hv).1];exact hv)
theorem LkK.pt (H:LkK φ a t ap fz sl nm lm p A fa steps):Pt QP φ (some a) (lkT p A fa steps (some nm) (some lm)):=by
 refine⟨a,_,rfl,?_,H.cells⟩;exact⟨[_],_,rfl,⟨t.1,rfl,H.pl.k0⟩,[_],_,rfl,⟨t.2.1,rfl,H.pl.k1⟩,[_],_,rfl,⟨t.2.2.1,rfl,H.pl.k2⟩,[_],_,rfl,⟨t.2.2.2.1,rfl,H.pl.k3⟩,[_],_,rfl,⟨t.2.2.2.2.1,rfl,H.pl.k4⟩,[_],_,rfl,⟨t.2.2.2.2.2.1,rfl,H.pl.k5⟩,[_],_,rfl,⟨ap,rfl,H.kA⟩,
  [_],_,rfl,⟨fz.1,rfl,H.f0⟩,[_],_,rfl,⟨fz.2.1,rfl,H.f1⟩,[_],_,rfl,⟨fz.2.2.1,rfl,H.f2⟩,[_],_,rfl,(show[Value.int .i64 fz.2.2.2.1] = [Value.int .i64 fa.2.2.2] by rw[H.f3]),[_],_,rfl,⟨sl,rfl,H.ks⟩,[_],_,rfl,rfl,rfl⟩
end
abbrev RdS:Type:=List Ad×List gM
noncomputable def PS (p:dtP) (A:dtA) (fa:dtF) (steps:List Stp) (num:List (Stp×Int)) (st:RdS) (s:Stp) (to:Int):Option RdS:=(CM (nT p)).bind λa=>(BN (lkT p A fa steps none none) to 0).bind λb=>(cond b ((Aq a 0).bind λu=>some u.2) (some a)).bind λc=>(Cp A to).bind λes=>(forS (σ:=Ad×gM) 0 (es.length:Int) (c,[]) λj z=>(idx es j).bind λe=>(Bu p e.1).bind λt=>cond t ((Aq z.1 e.1).bind λu=>some (u.2,z.2)) ((idx fa.1 (gO .i64 (e.1 - nT p))).bind λb=>cond b ((app z.2 [(BT (to,e.1) num).getD 0]).bind λl=>some (z.1,l)) (some z))).bind λz=>(app st.1 [z.1]).bind λd'=>(app st.2 [z.2]).bind λe'=>some (d',e')
structure RdX where
 dl:Slc
 el:Slc
 ps:List gL
 ds:List Ad
 es:List gM
 eq:ps.length=ds.length
abbrev rdC (a b nm:Nat) (num:List (Stp×Int)) (x:RdX):List Chk:=
 cW 153 a [sv x.dl]::cW 102 b [sv x.el]::FB x.dl x.ps::T8 x.el x.es::cM DF (gT .i64) nm num::AT x.ps x.ds
theorem Xp:Fv gP 30 30 3 1:=W0
section
variable {φ ψ:AD}{h:AE}{F:List Chk}{a:Addr}{t:Slc×Slc×Slc×Slc×Slc×Slc×Unit}{p:dtP}{ap:gL}{A:dtA}{fz:Slc×Slc×Slc×Int×Unit}{sl:Slc}{nm lm b:Nat}{fa:dtF}{steps:List Stp}
theorem Rb {a b:Nat}{num:List (Stp×Int)}{x:RdX}{q:gL}{s:Ad}{d e:Slc}{es:List gM}
 (H:St φ (cW 102 b [sv e]::cW 153 a [sv d]::T8 e es::FB d (x.ps++ [q])::Bd q s::cM DF (gT .i64) nm num::(AT x.ps x.ds++F)) h):
 St φ (rdC a b nm num ⟨d,e,x.ps++ [q],x.ds++ [s],es,by simp[x.eq]⟩ ++F) h:=by
 have c:AT (x.ps++ [q]) (x.ds++ [s])=AT x.ps x.ds++ [Bd q s]:=Kx x.eq q s;show St φ (cW 153 a [sv d]::cW 102 b [sv e]::FB d (x.ps++ [q])::T8 e es::cM DF (gT .i64) nm num::(AT (x.ps++ [q]) (x.ds++ [s]) ++F)) h;rw[c,iB];refine H.perm<|(iI _ _ _).trans (gU _ (gU _ ((iI _ _ _).trans (gU _ (gU _ ((iI _ _ _).trans (gU _ ?_)))))));exact(gW (l₁:=AT x.ps x.ds)).symm
theorem UO {Z B C:Nat}(K:LkK φ a t ap fz sl nm lm p A fa steps) (hbox:EB φ ⟨Z,0,none⟩=some (.pointer (some a))) {num:List (Stp×Int)}{x:RdX}{n s to:Int}{r:RdS}(hd:PS p A fa steps num (x.ds,x.es) (n,s) to=some r) (s0:St φ (rdC B C nm num x++F) h):
 CallsH gP 92 [.agg #[.int .i64 n,.int .i64 s],.int .i64 to,.pointer (fH Z),.pointer (fH B),.pointer (fH C)] h (Ap λv h'=>v= .tuple #[] ∧ ∃ψ x',Sub φ ψ∧(x'.ds,x'.es)=r∧St ψ (rdC B C nm num x'++F) h'):=by
 refine Av mixed Tryz.func92 ?_;rw[show Ab gP Tryz.f92 [.agg #[.int .i64 n,.int .i64 s],.int .i64 to,.pointer (fH Z),.pointer (fH B),.pointer (fH C)] =EK (n,s,()) to Z B C from Ip (n,s,()) to Z B C];unfold EK;unfold PS at hd;have⟨d1,b2,hd⟩:=bS hd;have⟨b,hb,hd⟩:=bS hd;have⟨b3,D,hd⟩:=bS hd;have⟨es,hes,hd⟩:=bS hd;have⟨zz,hzz,hd⟩:=bS hd;obtain⟨d',hd',hd⟩:=bS hd;obtain⟨e',he',hd⟩:=bS hd;obtain rfl:=iS hd;have bx:∀ {ψ:AD} {Γ:List Chk} {w:AE},Sub φ ψ→St ψ Γ w→BW w ⟨Z,0,none⟩=some (.pointer (some a)):=λle st=>AJ st.sub (Ao le hbox);have n0:t.1.2.1=p.1.length:=K.pl.k0.length;refine AV (vs:=[.int .i64 n,.int .i64 s]) s0 ?_;intro r1 h1 s1;have s1:=s1.tail;refine AG (x:=some a) (bx (iK _) s1) rfl<|AF _ rfl<|AG (x:=t.1) (by have:=K.at s1 (j:=0) rfl;rwa [add_zero]at this) rfl ?_;rw[n0];refine AK (EF s1 b2) ?_;rintro _ h2 ⟨ψ2,q,l2,U,rfl,rfl,s2⟩;refine⟨q,rfl,?_⟩;refine AG (x:=some a) (bx U s2) rfl<|AK (Ea (K.mono U).pt s2 (show BN (lkT p A fa steps (some nm) (some lm)) to 0=some b from hb)) ?_;rintro _ h3 ⟨ψ3,y3,b4,rfl,rfl,s3⟩;refine⟨y3,rfl,?_⟩;have S:=U.trans b4;refine Aa (λ(_:Unit) w g=>∃ψ,Sub φ ψ∧St ψ (Bd q g::(rdC B C nm num x++F)) w) (g:=b3) ?_ ?_
 ·refine AH D rfl (λ_ D=> ?_) (λ_ D=> ?_)
  ·have⟨u,hu,D⟩:=bS D;obtain rfl:=iS D;refine AK (CV s3 hu) ?_;rintro _ h4 ⟨ψ4,y4,l4,L,rfl,e4,s4⟩;refine⟨y4,rfl,?_⟩
   have:u.2=l4:=by rw[←e4]
   rw[this];exact AO () rfl ⟨ψ4,S.trans L,s4⟩
  ·obtain rfl:=iS D;exact AO () rfl ⟨ψ3,S,s3⟩
 ·rintro _ h4 ⟨ψ4,L,s4⟩;refine AG (x:=some a) (bx L s4) rfl<|AF _ rfl<|AG (x:=ap) ((K.mono L).at s4 (j:=6) rfl) rfl<|AK (FY (K.mono L).kA s4 hes) ?_;rintro _ h5 ⟨ψ5,b5,l5,b6,rfl,rfl,a0,s5⟩;refine⟨b5,rfl,?_⟩;have a1:=a0.length;have T:=L.trans b6;refine Ag (λ(z:Int×Slc×Unit) w g=>∃ψ,Sub φ ψ∧St ψ (cR 3 (gT .i64) z.2.1 g.2::Bd q g.1::(rdC B C nm num x++F)) w) (g:=zz) ?_ ?_
  ·refine By hzz (λi (z:Int×Slc×Unit) w g=>z.1=i∧ ∃ψ,Sub ψ5 ψ∧St ψ (cR 3 (gT .i64) z.2.1 g.2::Bd q g.1::(rdC B C nm num x++F)) w) ((0:Int),((none,0,0):Slc),()) rfl ⟨rfl,ψ5,iK _,lC _ _ s5⟩ ?_ ?_
   ·rintro i z w ⟨gs,gl⟩ e ⟨rfl,ψ6,l,s6⟩ he h0 hlt hw;dsimp only at s6 he;have I:=T.trans l;refine Ac (by rw[a1];exact gC hlt) ?_;have⟨ed,hed,he⟩:=bS he;have⟨tm,htm,he⟩:=bS he;obtain⟨A1,d2,b7,b8,q1,a2⟩:=(a0.mono l).get hed;refine AF _ b7 (Ah b8 ?_);obtain⟨_,_,rfl,rfl,rfl⟩:=q1;refine AG (x:=ed.1) (AJ s6.sub (a2 0 _ rfl)) rfl<|AG (x:=ed.2) (by rw[An];exact AJ s6.sub (a2 1 _ rfl)) rfl<|AV (vs:=[.int .i64 0,.int .i64 0]) s6 ?_;intro N h7 s7;refine Cf (b:=N) (j:=0) (v:=.int .i64 ed.1) s7 rfl (by simp) ?_;intro h8 O;refine Cf (b:=N) (j:=1) (v:=.int .i64 ed.2) O rfl (by simp) ?_;intro h9 o;refine AG (x:=some a) (bx I o) rfl<|AF _ rfl (Sq (v:=.nilFunc) ((K.mono I).pv o) (o.cell rfl) (K.mono I).pl o htm ?_);intro a3 V J c;have d:=I.trans J;refine Aa (λ(y:Slc×Unit) w g=>∃ψ,Sub ψ5 ψ∧St ψ (cR 3 (gT .i64) y.1 g.2::Bd q g.1::(rdC B C nm num x++F)) w) (g:=e) ?_ ?_
    ·refine AH he rfl (λ_ he=> ?_) (λ_ he=> ?_)
     ·have⟨u,hu,he⟩:=bS he;obtain rfl:=iS he;refine AA (b:=N) (j:=0) (x:=ed.1) c rfl<|AK (CV (c.tail.at1) hu) ?_;rintro _ M ⟨b9,c0,c1,a4,rfl,c5,f⟩;refine⟨c0,rfl,?_⟩
      have:u.2=c1:=by rw[←c5]
      rw[this];exact AO (z.2.1,()) rfl ⟨b9,(l.trans J).trans a4,f.at1⟩
     ·have⟨bb,hbb,he⟩:=bS he;refine AG (x:=some a) (bx d c) rfl<|AF _ rfl<|AG (x:=fz.1) ((K.mono d).at c (j:=7) rfl) rfl<|AA (b:=N) (j:=0) (x:=ed.1) c rfl<|AG (x:=some a) (bx d c) rfl<|AF _ rfl<|AG (x:=t.1) (by have:=(K.mono d).at c (j:=0) rfl;rwa [add_zero]at this) rfl ?_;rw[n0];obtain⟨A2,d3,c6,c7,q4,c8⟩:=((K.mono d).f0).get hbb;refine AF _ c6 (Ah c7 ?_);obtain rfl:=q4;refine AG (x:=bb) (AJ c.sub (c8 0 _ rfl)) rfl<|Aa (λ(y:Slc×Unit) w g=>∃ψ,Sub ψ5 ψ∧St ψ (cR 3 (gT .i64) y.1 g.2::Bd q g.1::(rdC B C nm num x++F)) w) (g:=e) ?_ ?_
      ·refine AH he rfl (λ_ he=> ?_) (λ_ he=> ?_)
       ·obtain⟨l',hl',he⟩:=bS he;obtain rfl:=iS he;refine AG (x:=some a) (bx d c) rfl<|AF _ rfl<|AG (x:=some nm) ((K.mono d).at c (j:=12) rfl) rfl<|AA (b:=N) (j:=0) (x:=ed.1) c rfl<|GZ (kk:=DF) (a:=.int .i64) (k:=(to,ed.1)) (m:=num) (0:Int) jZ Ra (i:=Tryz.t3) (by kernel_rfl) rfl (c.at7)<|AV (vs:=[.int .i64 ((BT (to,ed.1) num).getD 0)]) c ?_;intro d4 M f;have cw:=iO f;refine AX (r:=gT .i64) (ms:=[(BT (to,ed.1) num).getD 0]) Xp (f.at2) rfl cw (.cons (a:=[_]) rfl .nil) rfl hl' ?_;intro c9 W E;exact AO (c9,()) rfl ⟨a3,l.trans J,E.at1.tail.at1.tail⟩
       ·obtain rfl:=iS he;exact AO (z.2.1,()) rfl ⟨a3,l.trans J,c.tail⟩
      ·rintro y M H;exact AO (y.1,()) rfl H
    ·rintro y M H;exact AZ (gO .i64 (z.1+(1:Int)),y.1,()) _ rfl rfl ⟨hw,H⟩
   ·rintro i z w ⟨rfl,ψ6,l,H⟩ hge;refine AU (by rw[a1];exact gB (iQ.2 hge))<|AI (AL z rfl ⟨ψ6,T.trans l,H⟩)
  ·rintro G h6 ⟨ψ6,l,s6⟩;have⟨ψ7,d0,X,s7⟩:=hZ (t:=G.2.1) s6;have P:=l.trans d0;obtain⟨hap,rfl⟩:=Gq hd' x.eq q;refine AA (b:=B) (j:=0) (x:=x.dl) s7.at1 rfl<|AA (b:=C) (j:=0) (x:=x.el) s7.at2 rfl<|DY ?_ ?_
   ·refine AV (vs:=[.pointer q]) s7 ?_;intro d5 h8 O;refine AN (O.at3.cell rfl)<|AN (O.at2.cell rfl) ?_;have cw:=iO O;refine DY ?_ ?_
    ·refine AX (r:=jC) (ms:=[q]) QY (O.at4) rfl cw (.cons (a:=[_]) rfl .nil) rfl hap ?_;intro a5 h9 o;refine AN (o.at4.cell rfl)<|AV (vs:=[sv G.2.1]) o ?_;intro d6 V c;refine AN (c.at5.cell rfl) ?_;have Q:=iO c;refine AX (r:=hQ (gT .i64)) (ms:=[zz.2]) Uz (c.at6) rfl Q (.cons (a:=[_]) ⟨G.2.1,rfl,X⟩ .nil) rfl he' ?_;intro a6 M f;refine Cf (b:=B) (j:=0) (v:=sv a5) (f.at5) rfl (by simp) ?_;intro W E;refine Cf (b:=C) (j:=0) (v:=sv a6) (E.at6) rfl (by simp) ?_;intro a7 R;exact AC ⟨rfl,ψ7,⟨a5,a6,x.ps++ [q],x.ds++ [zz.1],e',by simp[x.eq]⟩,P,rfl,Rb R.at3.tail.at4.tail⟩
    ·refine AV (vs:=[sv G.2.1]) O ?_;intro d7 h9 o;refine AN (o.at4.cell rfl)<|AN (o.at3.cell rfl) ?_;have Y:=iO o.at1;refine AX (r:=jC) (ms:=[q]) QY (o.at5) rfl Y (.cons (a:=[_]) rfl .nil) rfl hap ?_;intro a8 V c;refine AN (c.at5.cell rfl) ?_;have Q:=iO c.at1;refine AX (r:=hQ (gT .i64)) (ms:=[zz.2]) Uz (c.at6) rfl Q (.cons (a:=[_]) ⟨G.2.1,rfl,X⟩ .nil) rfl he' ?_;intro a9 M f;refine Cf (b:=B) (j:=0) (v:=sv a8) (f.at5) rfl (by simp) ?_;intro W E;refine Cf (b:=C) (j:=0) (v:=sv a9) (E.at6) rfl (by simp) ?_;intro a7 R;exact AC ⟨rfl,ψ7,⟨a8,a9,x.ps++ [q],x.ds++ [zz.1],e',by simp[x.eq]⟩,P,rfl,Rb R.at4.tail.at4.tail⟩
   ·refine AV (vs:=[sv G.2.1]) s7 ?_;intro d8 h8 O;refine AN (O.at3.cell rfl)<|AN (O.at2.cell rfl)<|AV (vs:=[.pointer q]) O ?_;intro d9 h9 o;refine AN (o.at4.cell rfl)<|AN (o.at3.cell rfl) ?_;have Y:=iO o;refine AX (r:=jC) (ms:=[q]) QY (o.at5) rfl Y (.cons (a:=[_]) rfl .nil) rfl hap ?_;intro b0 V c;refine AN (c.at5.cell rfl) ?_;have Q:=iO c.at2;refine AX (r:=hQ (gT .i64)) (ms:=[zz.2]) Uz (c.at6) rfl Q (.cons (a:=[_]) ⟨G.2.1,rfl,X⟩ .nil) rfl he' ?_;intro b1 M f;refine Cf (b:=B) (j:=0) (v:=sv b0) (f.at5) rfl (by simp) ?_;intro W E;refine Cf (b:=C) (j:=0) (v:=sv b1) (E.at6) rfl (by simp) ?_;intro a7 R;exact AC ⟨rfl,ψ7,⟨b0,b1,x.ps++ [q],x.ds++ [zz.1],e',by simp[x.eq]⟩,P,rfl,Rb R.at4.tail.at4.tail⟩
end
noncomputable def Ns (p:dtP) (A:dtA) (fa:dtF) (steps:List Stp) (num:List (Stp×Int)):Option RdS:=P9 p A (PS p A fa steps num) ([],[])
noncomputable def Xq (p:dtP) (A:dtA) (fa:dtF) (num:List (Stp×Int)) (n:Int) (right:gM) (i:Int) (z:Int×List gM):Option (Int×List gM):=(idx right i).bind λsym=>need (0≤i∧i< (right.length:Int))<|(D5 fa p (right.drop (i+1).toNat)).bind λsq=>(cond sq.2 ((Bu p sym).bind λt=>some (!t)) (some false)).bind λb=>(cond b ((idx z.2 ((BT (z.1,sym) num).getD 0)).bind λrow=>(app row [n]).bind λrow'=>DB z.2 ((BT (z.1,sym) num).getD 0) row') (some z.2)).bind λE'=>(BA A z.1 sym).bind λst=>some (st,E')
noncomputable def Gb (p:dtP) (A:dtA) (fa:dtF) (steps:List Stp) (num:List (Stp×Int)):Option (List gM):=(Dh (steps.length:Int) ([]:gM)).bind λa=>forS (σ:=List gM) 0 (steps.length:Int) a λn E=>(idx steps n).bind λs=>forS (σ:=List gM) 0 (p.2.2.1.length:Int) E λk E=>(idx p.2.2.1 k).bind λr=>cond (r.1 !=s.2) (some E) ((forS (σ:=Int×List gM) 0 (r.2.1.length:Int) (s.1,E) (Xq p A fa num n r.2.1)).bind λz=>some z.2)
section
variable {φ ψ:AD}{h:AE}{F:List Chk}{a:Addr}{t:Slc×Slc×Slc×Slc×Slc×Slc×Unit}{p:dtP}{ap:gL}{A:dtA}{fz:Slc×Slc×Slc×Int×Unit}{sl:Slc}{nm lm b:Nat}{fa:dtF}{steps:List Stp}
theorem bU (l:gL) (a b c:Nat):Gw l a b c=ZL l 92 λn s to=>[.agg #[.int .i64 n,.int .i64 s],.int .i64 to,.pointer (fH a),.pointer (fH b),.pointer (fH c)]:=rfl
theorem Xr {d b c:Nat}(K:LkK φ a t ap fz sl nm lm p A fa steps) (hbox:EB φ ⟨d,0,none⟩=some (.pointer (some a))) {num:List (Stp×Int)}{x:RdX}{r:RdS}(hd:P9 p A (PS p A fa steps num) (x.ds,x.es)=some r) (f:St φ (rdC b c nm num x++F) h):
 CallsH gP 63 [.pointer (some a),.func (.func 92) #[] #[.pointer (fH d),.pointer (fH b),.pointer (fH c)]] h (Ap λv h'=>v= .tuple #[] ∧ ∃ψ x',Sub φ ψ∧(x'.ds,x'.es)=r∧St ψ (rdC b c nm num x'++F) h'):=by
 refine Av mixed Tryz.func63 ?_;rw[KW,bU];refine U7 (φ:=φ) (F:=F) (A:=A) (ap:=ap) (t:=t) (p:=p) (λx:RdX=>rdC b c nm num x) (λx=>(x.ds,x.es)) (PS p A fa steps num) _ _ ?_ ?_ K.kA K.pl hd f
 ·intro ψ x w Δ le st j v hv;refine(K.mono le).at st ?_;have e:lkV t ap fz sl nm lm=(plV t++ [.pointer ap]) ++ [sv fz.1,sv fz.2.1,sv fz.2.2.1,.int .i64 fz.2.2.2.1,sv sl,.map (some nm),.map (some lm)]:=rfl;rw[e,iR (gY.1 hv).1];exact hv
 ·intro ψ w x s' n s to Δ le st hf;exact UO (K.mono le) (Ao le hbox) hf st
theorem V4 (K:LkK φ a t ap fz sl nm lm p A fa steps) {num:List (Stp×Int)}{r:RdS}(hd:Ns p A fa steps num=some r) (q:St φ (cM DF (gT .i64) nm num::F) h):
 CallsH gP 65 [.pointer (some a)] h (Ap λv h'=>∃(ψ:AD) (k l:Slc) (ps:List gL),Sub φ ψ∧v=((.tuple fY):Sh).val (k,l,())∧ps.length=r.1.length∧Ro.SliceIs jC ψ k ps∧Ro.SliceIs (hQ (gT .i64)) ψ l r.2∧St ψ (AT ps r.1++(cM DF (gT .i64) nm num::F)) h'):=by
 refine Av mixed Tryz.func65 ?_;rw[KY];unfold Gx;unfold Ns at hd;refine AV (vs:=[.pointer (some a)]) q ?_;intro r1 G e;have⟨s,c,m,e⟩:=Dg.St.box e;refine AV (vs:=[.slice none 0 0]) e ?_;intro n H u;refine AV (vs:=[.slice none 0 0]) u ?_;intro r3 w o;refine AG (x:=some a) (AJ o.sub m) rfl ?_;have y:St s (rdC n r3 nm num ⟨(none,0,0),(none,0,0),[],[],[],rfl⟩ ++F) w:=(lC 111 jC (lC 30 (hQ (gT .i64)) o.at1)).at3.at3;refine AK (Xr (K.mono c) m (x:=⟨(none,0,0),(none,0,0),[],[],[],rfl⟩) hd y) ?_;rintro _ I ⟨rfl,J,x',f,hx,g⟩;refine⟨(),rfl,?_⟩;obtain⟨dl,el,ps,ds,es,eq⟩:=x';obtain rfl:=hx;refine AA (b:=n) (j:=0) (x:=dl) g rfl<|AA (b:=r3) (j:=0) (x:=el) g.at1 rfl ?_;have⟨L,i,z,B⟩:=hZ (t:=dl) g.at2;have⟨C,d,D,E⟩:=hZ (t:=el) B.at2;exact AC ⟨C,dl,el,ps,((c.trans f).trans i).trans d,rfl,eq,z.mono d,D,E.tail.tail.perm (gW (l₁:=AT ps ds)).symm⟩
end
theorem ct:QO gP 102 30 (.slice none 0 0):=⟨Tryz.underlying102,⟨Tryz.t30,by kernel_rfl,rfl,⟨_,rfl,rfl⟩,by decide⟩⟩
theorem Xs {α:Type}{e:TypeId}{r:Ro α}{φ:AD}{h:AE}{F:List Chk}(st:St φ F h):∀n:Nat,St φ (N8 e r (jQ n ((none,0,0):Slc)) (jQ n []) ++F) h:=by
 intro n
 induction n with
 |zero=>exact st
 |succ n ih=>exact lC e r ih
theorem Xt {α:Type}{r:Ro α}{φ:AD}:∀ {ts:List Slc}{E:List (List α)}{vs:List Value},ts.length=E.length→(∀(i:Nat) t l,ts[i]? =some t→E[i]? =some l→Ro.SliceIs r φ t l)→Ro.slc.All φ vs ts→(hQ r).All φ vs E:=by
 intro ts
 induction ts with
 |nil=>
  intro E vs hl hk H;cases E with
  |nil=>cases H;exact .nil
  |cons _ _=>cases hl
 |cons t ts ih=>
  intro E vs hl hk H;cases E with
  |nil=>cases hl
  |cons l E=>
   cases H with
   | @cons x v _ _ hx hr=>
    obtain rfl:x= [sv t]:=hx;exact Ro.All.cons (a:=[_]) ⟨t,rfl,hk 0 t l rfl rfl⟩ (ih (by simpa using hl) (λi t' l' b c=>hk (i+1) t' l' (by simpa using b) (by simpa using c)) hr)
theorem Ir {α:Type}{r:Ro α}{φ:AD}{o:Slc}{ts:List Slc}{E:List (List α)}(hl:ts.length=E.length) (hk:∀(i:Nat) t l,ts[i]? =some t→E[i]? =some l→Ro.SliceIs r φ t l) (H:Ro.SliceIs kN φ o ts):Ro.SliceIs (hQ r) φ o E:=by
 obtain⟨a,b,c,d,vs,e,f⟩:=H;exact⟨hl.symm.trans a,b,c,λhp=>List.eq_nil_of_length_eq_zero (by rw[←hl,d hp];rfl),vs,Xt hl hk e,f⟩
abbrev OS (o:Slc) (ts:List Slc) (E:List gM) (Δ:List Chk):List Chk:=cR 30 kN o ts::(N8 3 (gT .i64) ts E++Δ)
section
variable {φ ψ:AD}{h:AE}{F:List Chk}{a:Addr}{t:Slc×Slc×Slc×Slc×Slc×Slc×Unit}{p:dtP}{ap:gL}{A:dtA}{fz:Slc×Slc×Slc×Int×Unit}{sl:Slc}{nm lm b:Nat}{fa:dtF}{steps:List Stp}
theorem ZN {o:Slc}{ts:List Slc}{E E':List gM}{Δ:List Chk}{k n:Int}{row row':gM}{K:T}{P:Bh→AE→Prop}(hl:ts.length=E.length) (q:idx E k=some row) (s:app row [n] =some row') (t:DB E k row'=some E') (st:St φ (OS o ts E Δ) h)
 (hk:∀ts' h',ts'.length=E'.length→St φ (OS o ts' E' Δ) h'→K.wp gP P h'):
 (deref o.1 λe=>chk (0≤k∧k< (o.2.1:Nat))<|jA .slice (e.add (gQ k *1)) λ(g:Slc)=>T.new (.cells #[(.int .i64 n)] 3 (0,0)) λc=>
  iL (gR #[30,30] 30 #[(sv g),(.slice (fH c) 1 1)]) fP λ(b:Slc)=>
  deref o.1 λi=>chk (0≤k∧k< (o.2.1:Nat))<|iV (i.add (gQ k *1)) (sv b)<|K).wp gP P h:=by
 have⟨k0,I,v⟩:=CC q;have hlt:k.toNat<ts.length:=by omega
 have hu:=gV hlt;obtain⟨u,hu'⟩:∃u,ts[k.toNat] =u:=⟨_,rfl⟩;rw[hu']at hu;have hi:idx ts k=some u:=by rw[Ku k0 hlt,hu']
 have⟨A1,w,j,l,r1,m⟩:=lQ st hi;refine AF _ j (Ah l ?_);obtain rfl:=r1;refine AG (x:=u) (m 0 _ rfl) rfl<|AV (vs:=[.int .i64 n]) st ?_;intro c y s4;have cw:=iO s4;have⟨rest,z,A⟩:=Kt (f:=cR 3 (gT .i64)) hu v;have B:St φ (cR 3 (gT .i64) u row::cW 3 c [.int .i64 n]::cR 30 kN o ts::(rest++Δ)) y:=
  s4.perm ((gU _ (gU _ (hU Δ z))).trans (BF 2 (cW 3 c [.int .i64 n]::cR 30 kN o ts::cR 3 (gT .i64) u row::(rest++Δ))))
 refine AX (r:=gT .i64) (ms:=[n]) Xp B rfl cw (.cons (a:=[_]) rfl .nil) rfl s ?_;intro b J C;obtain⟨L,M,rfl⟩:=Dr t;have hset:DB ts k b=some (ts.set k.toNat b):=by unfold DB;rw[gF ⟨k0,by omega⟩]
 have p:=C.at2;have⟨A2,d,D⟩:=p.there hset;refine AF _ d (Ah D (Ef p hset rfl d ?_));intro F G;refine hk (ts.set k.toNat b) F (by simp[hl]) ?_;have H:=G.at2.tail;exact H.perm (gU _ (hU Δ (A b row').symm))
theorem ZO {K:Slc→Slc→Slc→Slc→Slc→Slc→T}{P:Bh→AE→Prop}(hc:∀j v,(plV t)[j]? =some v→BW h (a.add j)=some v) (H:(K t.1 t.2.1 t.2.2.1 t.2.2.2.1 t.2.2.2.2.1 t.2.2.2.2.2.1).wp gP P h):
 (jA .slice a λ(t3:Slc)=>jA .slice (a.add 1) λ(t4:Slc)=>jA .slice (a.add 2) λ(t5:Slc)=>jA .slice (a.add 3) λ(b:Slc)=>jA .slice (a.add 4) λ(c:Slc)=>jA .slice (a.add 5) λ(d:Slc)=>K t3 t4 t5 b c d).wp gP P h:=by
 refine AG (x:=t.1) (by have:=hc 0 _ rfl;rwa [add_zero]at this) rfl<|AG (x:=t.2.1) (hc 1 _ rfl) rfl<|AG (x:=t.2.2.1) (hc 2 _ rfl) rfl<|AG (x:=t.2.2.2.1) (hc 3 _ rfl) rfl<|AG (x:=t.2.2.2.2.1) (hc 4 _ rfl) rfl<|AG (x:=t.2.2.2.2.2.1) (hc 5 _ rfl) rfl H
theorem B7 {b:Nat}{vs:List Value}(c:Ci φ (fH b) vs) (st:St φ F h) {j:Nat}{v:Value}(hv:vs[j]? =some v):BW h ⟨b,j,none⟩=some v:=by
 have:=AJ st.sub (c.at j hv)
 rwa [Dt,jD]at this
theorem Rc (gk:Dg.Glob φ) (K:LkK φ a t ap fz sl nm lm p A fa steps) {num:List (Stp×Int)}{r:List gM}(hd:Gb p A fa steps num=some r) (s0:St φ (cM DF (gT .i64) nm num::F) h):
 CallsH gP 68 [.pointer (some a)] h (Ap λv h'=>∃(ψ:AD) (y:Slc),Sub φ ψ∧v=fP.val y∧Ro.SliceIs (hQ (gT .i64)) ψ y r∧St ψ (cM DF (gT .i64) nm num::F) h'):=by
 refine Av mixed Tryz.func68 ?_;rw[IC];unfold Fa;unfold Gb at hd;have⟨e0,a6,hd⟩:=bS hd;obtain⟨m0,m1,rfl⟩:=Om a6;have nS:sl.2.1=steps.length:=K.ks.length;have nR:t.2.2.1.2.1=p.2.2.1.length:=K.pl.k2.length;obtain⟨D0,S⟩:∃D0:List Chk,D0=cM DF (gT .i64) nm num::F:=⟨_,rfl⟩;refine AF _ rfl<|AG (x:=sl) (K.at s0 (j:=11) rfl) rfl<|Er (r:=kN) (x:=((none,0,0):Slc)) (l:=jQ (steps.length:Int).toNat ((none,0,0):Slc)) ct s0 rfl rfl (by rw[nS];unfold Dh;rw[gF ⟨m0,m1⟩]) ?_;intro o h1 s1;have s2:St φ (OS o (jQ (steps.length:Int).toNat ((none,0,0):Slc)) (jQ (steps.length:Int).toNat []) D0) h1:=by
  rw[S];exact(Xs (e:=3) (r:=gT .i64) s1 _).perm (gW (l₁:=N8 3 (gT .i64) _ _))
 refine AF _ rfl<|AG (x:=sl) (K.at s2 (j:=11) rfl) rfl<|Ag (λ(y:Int×Unit) w E=>∃ψ ts,Sub φ ψ∧ts.length=E.length∧St ψ (OS o ts E D0) w) (g:=r) ?_ ?_
 ·refine By hd (λi (y:Int×Unit) w E=>y.1=i∧ ∃ψ ts,Sub φ ψ∧ts.length=E.length∧St ψ (OS o ts E D0) w) ((0:Int),()) rfl ⟨rfl,φ,_,iK _,by simp,s2⟩ ?_ ?_
  ·rintro i z w E e ⟨rfl,ψ,ts,le,hl,st⟩ he h0 hlt hw;refine Ac (by rw[nS];exact gC hlt) ?_;have⟨s,hs,he⟩:=bS he;obtain⟨A1,c2,a7,a8,q1,Y⟩:=(K.ks.mono le).get hs;refine AF _ a7 (Ah a8 ?_);obtain⟨_,_,rfl,rfl,rfl⟩:=q1;refine AG (x:=s.1) (AJ st.sub (Y 0 _ rfl)) rfl<|AG (x:=s.2) (by rw[An];exact AJ st.sub (Y 1 _ rfl)) rfl<|AV (vs:=[.int .i64 0,.int .i64 0]) st ?_;intro Z h3 s3;refine Cf (b:=Z) (j:=0) (v:=.int .i64 s.1) s3 rfl (by simp) ?_;intro h4 s4;refine Cf (b:=Z) (j:=1) (v:=.int .i64 s.2) s4 rfl (by simp) ?_;intro h5 s5;have⟨ψ1,T,cB,L⟩:=St.blk s5;have C:=le.trans T;refine AF _ rfl<|AG (x:=t.2.2.1) ((K.mono C).at L (j:=2) rfl) rfl<|Ag (λ(y:Int×Unit) w E=>∃ψ ts,Sub φ ψ∧ts.length=E.length∧St ψ (OS o ts E D0) w) (g:=e) ?_ ?_
   ·refine By he (λi (y:Int×Unit) w E=>y.1=i∧ ∃ψ ts,Sub ψ1 ψ∧ts.length=E.length∧St ψ (OS o ts E D0) w) ((0:Int),()) rfl ⟨rfl,ψ1,ts,iK _,hl,L⟩ ?_ ?_
    ·rintro i2 z2 w2 E2 e2 ⟨rfl,ψ2,M,d,a0,N⟩ f c3 a1 a9;have R:=C.trans d;refine Ac (by rw[nR];exact gC a1) ?_;have⟨ru,b0,f⟩:=bS f;refine Ag (λ(_:Unit) w (_:Unit)=>∃ψ ts,Sub ψ1 ψ∧ts.length=e2.length∧St ψ (OS o ts e2 D0) w) (g:=()) ?_ ?_
     ·refine Oa (K.pl.k2.mono R) b0 N ?_;intro c4 u h7 ku s7;have⟨ψ3,D,U,X⟩:=St.blk s7;have ku:=ku.mono D;have a2:=R.trans D;have a3:=cB.mono (d.trans D);refine AG (x:=ru.1) (B7 U X (j:=0) rfl) rfl<|AG (x:=s.2) (B7 a3 X (j:=1) rfl) rfl<|AH f rfl (λ_ f=> ?_) (λ_ f=> ?_)
      ·obtain rfl:=iS f;exact Oj () rfl ⟨ψ3,M,d.trans D,a0,X⟩
      ·have⟨zz,hzz,f⟩:=bS f;obtain rfl:=iS f;refine AG (x:=s.1) (B7 a3 X (j:=0) rfl) rfl<|AG (x:=u) (B7 U X (j:=1) rfl) rfl ?_;have nu:=ku.length;refine Ag (λ(y:Int×Int×Unit) w (g:Int×List gM)=>∃ψ ts,Sub ψ1 ψ∧ts.length=g.2.length∧St ψ (OS o ts g.2 D0) w) (g:=zz) ?_ ?_
       ·refine By hzz (λi (y:Int×Int×Unit) w (g:Int×List gM)=>y.1=i∧y.2.1=g.1∧ ∃ψ ts,Sub ψ3 ψ∧ts.length=g.2.length∧St ψ (OS o ts g.2 D0) w) ((0:Int),s.1,()) rfl ⟨rfl,rfl,ψ3,M,iK _,a0,X⟩ ?_ ?_
        ·rintro i4 z4 w4 ⟨g1,E4⟩ e4 ⟨rfl,hg,ψ4,B,q,V,n⟩ c c5 a4 O;dsimp only at hg V n c;subst hg;have G:=a2.trans q;unfold Xq at c;refine Ac (by rw[nu];exact gC a4) ?_;have⟨sym,hsy,c⟩:=bS c;have⟨_,c⟩:=CD c;have⟨sq,hsq,c⟩:=bS c;have⟨bb,hbb,c⟩:=bS c;obtain⟨E',hE',c⟩:=bS c;have⟨so,hso,c⟩:=bS c;obtain rfl:=iS c;obtain⟨A4,c6,b1,b2,q4,b3⟩:=(ku.mono q).get hsy;refine AF _ b1 (Ah b2 ?_);obtain rfl:=q4;refine AG (x:=sym) (AJ n.sub (b3 0 _ rfl)) rfl<|AF _ rfl ?_;have K4:=K.mono G;refine AG (x:=fz.1) (K4.at n (j:=7) rfl) rfl<|AG (x:=fz.2.1) (by rw[An];exact K4.at n (j:=8) rfl) rfl<|AG (x:=fz.2.2.1) (by rw[An];exact K4.at n (j:=9) rfl) rfl<|AG (x:=fz.2.2.2.1) (by rw[An];exact K4.at n (j:=10) rfl) rfl<|AF _ rfl (ZO (K4.pv n) ?_);refine AG (x:=u) (B7 (U.mono q) n (j:=1) rfl) rfl ?_;obtain⟨q5,kt⟩:=(ku.mono q).cut (RH (ku.mono q) (lo:=gO .i64 (z4.1+1)) (by rw[O];omega) (by rw[O];omega)) (sz:=1) rfl;refine Ah q5 ?_;rw[←O]at hsq;refine AK (LX (f_0:=fz) (gk.mono G) K4.f0 K4.f1 K4.f2 K4.pl kt n (r:=sq) (by rw[K4.f3];exact hsq)) ?_;rintro _ h9 ⟨ψ5,y5,l5,a5,rfl,e5,k5,W⟩;refine⟨y5,rfl,?_⟩;have b4:sq.2=y5.2.1:=by rw[←e5]
         rw[b4]at hbb;have I:=G.trans a5;refine Aa (λ(y:Bool×Unit) w g=>y.1=g∧ ∃ψ,Sub ψ5 ψ∧St ψ (OS o B E4 D0) w) (g:=bb) ?_ ?_
         ·refine AH hbb rfl (λ_ hbb=> ?_) (λ_ hbb=> ?_)
          ·have⟨tm,htm,hbb⟩:=bS hbb;obtain rfl:=iS hbb;refine AF _ rfl (RY ((K.mono I).pv W) (K.mono I).pl W htm ?_);intro ψ6 h6 P L;exact AO (!tm,()) rfl ⟨rfl,ψ6,P,L⟩
          ·obtain rfl:=iS hbb;exact AO (false,()) rfl ⟨rfl,ψ5,iK _,W⟩
         ·rintro y b5 ⟨hy,ψ6,P,L⟩;obtain rfl:=hy;have J:=I.trans P;refine Aa (λ(_:Unit) w g=>∃ts,ts.length=g.length∧St ψ6 (OS o ts g D0) w) (g:=E') ?_ ?_
          ·refine AH hE' rfl (λ_ hE'=> ?_) (λ_ hE'=> ?_)
           ·obtain⟨row,hrow,hE'⟩:=bS hE';obtain⟨row',hrow',hE'⟩:=bS hE';refine AF _ rfl<|AG (x:=some nm) ((K.mono J).at L (j:=12) rfl) rfl ?_;have sM:St ψ6 (cM DF (gT .i64) nm num::(cR 30 kN o B::(N8 3 (gT .i64) B E4++F))) b5:=by
             rw[S]at L;exact L.perm ((gU _ (gW (l₁:=N8 3 (gT .i64) B E4))).trans (iI _ _ _))
            refine GZ (kk:=DF) (a:=.int .i64) (k:=(z4.2.1,sym)) (m:=num) (0:Int) jZ Ra (i:=Tryz.t3) (by kernel_rfl) rfl sM<|ZN V hrow hrow' hE' L ?_;intro ts' b6 hl' Q;exact AO () rfl ⟨ts',hl',Q⟩
           ·obtain rfl:=iS hE';exact AO () rfl ⟨B,V,L⟩
          ·rintro _ b6 ⟨b7,b8,Q⟩;refine AF _ rfl<|AG (x:=ap) ((K.mono J).at Q (j:=6) rfl) rfl<|AK (De (K.mono J).kA Q hso) ?_;rintro _ c7 ⟨ψ7,y7,b9,rfl,rfl,c0⟩;refine⟨y7,rfl,?_⟩;exact AZ (gO .i64 (z4.1+(1:Int)),y7,()) _ rfl rfl ⟨O,rfl,ψ7,b7,((q.trans a5).trans P).trans b9,b8,c0⟩
        ·rintro i4 z4 w4 ⟨rfl,hg,ψ4,B,q,H⟩ hge;refine AU (by rw[nu];exact gB (iQ.2 hge))<|AI (AL z4 rfl ⟨ψ4,B,(d.trans D).trans q,H⟩)
       ·rintro _ h9 H;exact FG () rfl H
     ·rintro _ h9 H;exact AZ (gO .i64 (z2.1+(1:Int)),()) _ rfl rfl ⟨a9,H⟩
    ·rintro i2 z2 w2 ⟨rfl,ψ2,M,d,H⟩ hge;refine AU (by rw[nR];exact gB (iQ.2 hge))<|AI (AL z2 rfl ⟨ψ2,M,C.trans d,H⟩)
   ·rintro _ h9 H;exact AZ (gO .i64 (z.1+(1:Int)),()) _ rfl rfl ⟨hw,H⟩
  ·rintro i z w ⟨rfl,H⟩ hge;refine AU (by rw[nS];exact gB (iQ.2 hge))<|AI (AL z rfl H)
 ·rintro _ h9 ⟨ψ,ts,le,hl,st⟩;have⟨ψ1,T,k1,c1⟩:=hZ (t:=o) st;have⟨ψ2,d,k2,N⟩:=St.freezeRows hl c1;rw[S]at N;exact AC ⟨ψ2,o,(le.trans T).trans d,rfl,Ir hl k2 (k1.mono d),N⟩
end
abbrev At:Type:=cc
def mz (ps:List gL) (L:List (At×Ad)):List (At×gL):=List.zipWith (λp e=>(e.1,p)) ps L
theorem U8 {k:At}:∀ {ps:List gL}{L:List (At×Ad)},BT k L=none→BT k (mz ps L)=none:=by
 intro ps
 induction ps with
 |nil=>intro L _;rfl
 |cons p ps ih=>
  intro L h;cases L with
  |nil=>rfl
  |cons e L=>
   simp only[BT]at h;split at h
   ·cases h
   ·rename_i hk
    show BT k ((e.1,p)::mz ps L)=none;simp only[BT];rw[gG hk];exact ih h
theorem Su {k:At}{s:Ad}{p:gL}:∀ {ps:List gL}{L:List (At×Ad)},ps.length=L.length→BT k L=none→CH k s L=L++ [(k,s)] ∧CH k p (mz ps L)=mz (ps++ [p]) (L++ [(k,s)]):=by
 intro ps
 induction ps with
 |nil=>
  intro L hl _;cases L with
  |nil=>exact⟨rfl,rfl⟩
  |cons _ _=>cases hl
 |cons q ps ih=>
  intro L hl h;cases L with
  |nil=>cases hl
  |cons e L=>
   simp only[BT]at h;split at h
   ·cases h
   ·rename_i hk
    obtain⟨a,b⟩:=ih (L:=L) (by simpa using hl) h;refine⟨?_,?_⟩
    ·simp only[CH,gG hk,a];rfl
    ·show CH k p ((e.1,q)::mz ps L)=(e.1,q)::mz (ps++ [p]) (L++ [(k,s)]);simp only[CH,gG hk,b]
theorem Ob {k:At}{s:Ad}:∀ {ps:List gL}{L:List (At×Ad)},ps.length=L.length→BT k L=some s→
 ∃(i:Nat) (p:gL),ps[i]? =some p∧(L.map (·.2))[i]? =some s∧BT k (mz ps L)=some p∧(∀s',(CH k s' L).map (·.2)=(L.map (·.2)).set i s'∧mz ps (CH k s' L)=mz ps L∧(CH k s' L).length=L.length)∧ ∀s' p',CH k p' (mz ps L)=mz (ps.set i p') (CH k s' L):=by
 intro ps
 induction ps with
 |nil=>
  intro L hl h;cases L with
  |nil=>cases h
  |cons _ _=>cases hl
 |cons q ps ih=>
  intro L hl h;cases L with
  |nil=>cases hl
  |cons e L=>
   simp only[BT]at h;split at h
   ·rename_i hk
    cases h;refine⟨0,q,rfl,rfl,?_,λs'=> ?_,λs' p'=> ?_⟩
    ·show BT k ((e.1,q)::mz ps L)=some q;simp only[BT,gF hk]
    ·simp only[CH,gF hk];exact⟨rfl,rfl,rfl⟩
    ·show CH k p' ((e.1,q)::mz ps L)=mz (p'::ps) (CH k s' (e::L));simp only[CH,gF hk];rfl
   ·rename_i hk
    obtain⟨i,p,a,b,c,d,f⟩:=ih (L:=L) (by simpa using hl) h;refine⟨i+1,p,by simpa using a,by simpa using b,?_,λs'=> ?_,λs' p'=> ?_⟩
    ·show BT k ((e.1,q)::mz ps L)=some p;simp only[BT,gG hk];exact c
    ·have⟨g,j,l⟩:=d s';simp only[CH,gG hk,List.map_cons,List.set_cons_succ,kM];refine⟨by rw[g],?_,by rw[l]⟩;show(e.1,q)::mz ps (CH k s' L)=(e.1,q)::mz ps L;rw[j]
    ·show CH k p' ((e.1,q)::mz ps L)=mz (q::ps.set i p') (CH k s' (e::L));simp only[CH,gG hk];show(e.1,q)::CH k p' (mz ps L)=(e.1,q)::mz (ps.set i p') (CH k s' L);rw[f s']
abbrev LkL:Type:=List (At×Ad)
noncomputable def Sv (p:dtP) (A:dtA) (fo:List Ad) (n:Int) (s:Stp) (k:Int) (L:LkL):Option LkL:=(idx p.2.2.1 k).bind λr=>cond (r.1 !=s.2) (some L) ((Bt A s.1 r.2.1).bind λw=>(cond (BT (w,k) L).isNone ((CM (nT p)).bind λa=>some (CH (w,k) a L)) (some L)).bind λL'=>(idx fo n).bind λo=>(BT (w,k) L').bind λs'=>need (OkS s'∧OkS o)<|some (CH (w,k) (BL s' o) L'))
noncomputable def Qi (p:dtP) (A:dtA) (fa:dtF) (steps:List Stp) (fo:List Ad):Option LkL:=(forS (σ:=LkL) 0 (steps.length:Int) [] λn L=>(idx steps n).bind λs=>forS (σ:=LkL) 0 (p.2.2.1.length:Int) L λk L=>Sv p A fo n s k L).bind λL=>(B5 A).bind λm=>forS (σ:=LkL) 0 m L λn L=>(BN (lkT p A fa steps none none) n 0).bind λb=>cond b ((DJ (nT p) [0]).bind λs=>some (CH (n,0) s L)) (some L)
abbrev giC (lm:Nat) (ps:List gL) (L:LkL) (Δ:List Chk):List Chk:=cM DF jC lm (mz ps L)::(AT ps (L.map (·.2)) ++Δ)
section
variable {φ ψ:AD}{h:AE}{F:List Chk}{a:Addr}{t:Slc×Slc×Slc×Slc×Slc×Slc×Unit}{p:dtP}{ap:gL}{A:dtA}{fz:Slc×Slc×Slc×Int×Unit}{sl:Slc}{nm lm b:Nat}{fa:dtF}{steps:List Stp}
theorem Qj {φ:AD}{h:AE}{F:List Chk}{p:gL}{s:Ad}(H:St φ (Bd p s::F) h):p.isNone=false:=by
 have⟨b,e⟩:=St.ptr H;rw[e];rfl
theorem Xu {ps:List gL}{L:LkL}{Δ:List Chk}{k:At}{q:gL}{s:Ad}(hl:ps.length=L.length) (st:St φ (cM DF jC lm (CH k q (mz ps L))::Bd q s::(AT ps (L.map (·.2)) ++Δ)) h):
 ∃ps',ps'.length=(CH k s L).length∧St φ (giC lm ps' (CH k s L) Δ) h:=by
 cases hg:BT k L with
 |none=>
  have⟨a,b⟩:=Su (s:=s) (p:=q) hl hg;refine⟨ps++ [q],by rw[a];simp[hl],?_⟩;rw[b]at st;have e:AT (ps++ [q]) ((CH k s L).map (·.2))=AT ps (L.map (·.2)) ++ [Bd q s]:=by
   rw[a,List.map_append];exact Kx (by simpa using hl) q s
  show St φ (cM DF jC lm (mz (ps++ [q]) (CH k s L))::(AT (ps++ [q]) ((CH k s L).map (·.2)) ++Δ)) h;rw[e,iB,a];exact st.perm (gU _ (gW (l₁:=AT ps (L.map (·.2)))).symm)
 |some n=>
  have⟨i,o,a,b,r,f,g⟩:=Ob hl hg;have⟨j,t,l⟩:=f s;refine⟨ps.set i q,by simp[l,hl],?_⟩;rw[g s q]at st;have⟨rest,r1,m⟩:=Ih a b;show St φ (cM DF jC lm (mz (ps.set i q) (CH k s L))::(AT (ps.set i q) ((CH k s L).map (·.2)) ++Δ)) h;rw[j];have c:=st.perm (gU _ (gU _ (hU Δ r1)));have d:=c.at2.tail;exact d.perm (gU _ (hU Δ (m q s).symm))
noncomputable def Xv (b f_p:gL) (f_n:Nat) (n:Int) (a:Nat):T:=deref b λi=>fF i 13 λj=>eL a 0 λk=>eL a 1 λl=>iL (Instr.lookup 107 (.map j) (.agg #[fL k,fL l]) false) fO λm=>iE [] (cond (iU m) (deref b λc=>fF c 13 λd=>eL a 0 λe=>eL a 1 λf=>deref b λo=>fD o λp=>gX 93 [fL (p.2.1:Int)] fO λq=>fG a 0 e<|fG a 1 f<|kO (c.add 13) (.map d)<|iL (Sem.bind (Instr.mapUpdate 107 (.map d) (.agg #[fL e,fL f]) (fN q)) λ_=>.pure undef) (.tuple []) λ_=>gS []) (gS [])) λ_=>deref b λr=>fF r 13 λs=>eL a 0 λt=>eL a 1 λu=>deref f_p λg=>chk (0≤n∧n< (f_n:Nat))<|fA g n 1 λh=>iL (Instr.lookup 107 (.map s) (.agg #[fL t,fL u]) false) fO λv=>kO (g.add (gQ n *1)) (fN h)<|gX 94 [fN v,fN h] fR λ_=>gS []
theorem Xw (gk:Dg.Glob φ) (K:LkK φ a t ap fz sl nm lm p A fa steps) {fs:Slc}{qs:List gL}{fo:List Ad}(kf:Ro.SliceIs jC φ fs qs) (hq:qs.length=fo.length) {n w k:Int}{e:Nat}(cB:Ci φ (fH e) [.int .i64 w,.int .i64 k]) {L L':LkL}{o s':Ad}{ps:List gL}{Δ:List Chk}{P:Bh→AE→Prop}
 (hL:cond (BT (w,k) L).isNone ((CM (nT p)).bind λf=>some (CH (w,k) f L)) (some L)=some L') (ho:idx fo n=some o) (hs:BT (w,k) L'=some s') (ok:OkS s'∧OkS o) (hl:ps.length=L.length) (st:St φ (giC lm ps L (AT qs fo++Δ)) h)
 (hk:∀ψ ps' h',Sub φ ψ→ps'.length=(CH (w,k) (BL s' o) L').length→St ψ (giC lm ps' (CH (w,k) (BL s' o) L') (AT qs fo++Δ)) h'→P (.out []) h'):(Xv (some a) fs.1 fs.2.1 n e).wp gP P h:=by
 unfold Xv;have R:t.1.2.1=p.1.length:=K.pl.k0.length;refine AF _ rfl<|AG (x:=some lm) (K.at st (j:=13) rfl) rfl<|AG (x:=w) (B7 cB st (j:=0) rfl) rfl<|AG (x:=k) (B7 cB st (j:=1) rfl) rfl<|GZ (kk:=DF) (a:=.pointer) (k:=(w,k)) (m:=mz ps L) (none:gL) jE Sr (i:=lK) (by kernel_rfl) rfl st<|Aa (λ(_:Unit) wd g=>∃ψ ps',Sub φ ψ∧ps'.length=g.length∧St ψ (giC lm ps' g (AT qs fo++Δ)) wd) (g:=L') ?_ ?_
 ·cases hg:BT (w,k) L with
  |none=>
   rw[hg]at hL;have⟨f,S,hL⟩:=bS (show((CM (nT p)).bind λf=>some (CH (w,k) f L))=some L' from hL);obtain rfl:=iS hL;rw[U8 hg];refine Ac rfl<|AF _ rfl<|AG (x:=some lm) (K.at st (j:=13) rfl) rfl<|AG (x:=w) (B7 cB st (j:=0) rfl) rfl<|AG (x:=k) (B7 cB st (j:=1) rfl) rfl<|AF _ rfl<|AG (x:=t.1) (by have:=K.at st (j:=0) rfl;rwa [add_zero]at this) rfl ?_;rw[R];refine AK (EF st S) ?_;rintro _ r ⟨T,q,l2,c,rfl,rfl,s⟩;refine⟨q,rfl,?_⟩;refine AN (B7 (cB.mono c) s (j:=0) rfl)<|AN (B7 (cB.mono c) s (j:=1) rfl)<|AN ((K.mono c).at s (j:=13) rfl)<|J0 (kk:=DF) (k:=(w,k)) (y:=q) jE Sr s.at1 rfl ?_;intro u U;obtain⟨ps',v,z⟩:=Xu hl U;exact AO () rfl ⟨T,ps',c,v,z⟩
  |some f=>
   rw[hg]at hL;obtain rfl:=iS (show some L=some L' from hL);have⟨i,H,B,r,u,C,I⟩:=Ob hl hg;have⟨rest,r1,_⟩:=Ih B r;have hp:H.isNone=false:=Qj (st.tail.perm (hU (AT qs fo++Δ) r1));rw[u];refine AU hp<|AO () rfl ⟨φ,ps,iK _,hl,st⟩
 ·rintro _ C ⟨J,ps',b,hl',d⟩;have⟨V,i1,W⟩:=CC ho;have hlt:n.toNat<qs.length:=by omega
  have hqn:=gV hlt;have⟨i,H,B,r,u,I,h6⟩:=Ob hl' hs;refine AF _ rfl<|AG (x:=some lm) ((K.mono b).at d (j:=13) rfl) rfl<|AG (x:=w) (B7 (cB.mono b) d (j:=0) rfl) rfl<|AG (x:=k) (B7 (cB.mono b) d (j:=1) rfl) rfl ?_;obtain⟨A1,X,D,E,r1,l⟩:=(kf.mono b).get (Ku V hlt);refine AF _ D (Ah E ?_);obtain rfl:=r1;refine AG (x:=qs[n.toNat]) (AJ d.sub (l 0 _ rfl)) rfl<|GZ (kk:=DF) (a:=.pointer) (k:=(w,k)) (m:=mz ps' L') (none:gL) jE Sr (i:=lK) (by kernel_rfl) rfl d ?_;rw[u];refine AN (AJ d.sub (l 0 _ rfl)) ?_;have⟨rq,N,_⟩:=Ej hqn W;obtain⟨M,hM⟩:∃M:Chk,M=cM DF jC lm (mz ps' L'):=⟨_,rfl⟩;have Y:St J (Bd qs[n.toNat] o::(AT ps' (L'.map (·.2)) ++(M::(rq++Δ)))) C:=by
   have F:St J (M::(AT ps' (L'.map (·.2)) ++(AT qs fo++Δ))) C:=by rw[hM];exact d
   refine F.perm<|(gU M (jR _ (hU Δ N))).trans<|(gU M (gW (l₁:=AT ps' (L'.map (·.2))))).trans ((iI _ _ _).trans (gU _ (gW (l₁:=AT ps' (L'.map (·.2)))).symm))
  refine AK (Sb (gk.mono b) r B ok Y) ?_;rintro _ O ⟨Q,G,rfl,Z⟩;refine⟨_,rfl,?_⟩;have⟨v,z,g3⟩:=I (BL s' o);refine hk Q ps' O (b.trans G) (by rw[g3];exact hl') ?_;show St Q (cM DF jC lm (mz ps' (CH (w,k) (BL s' o) L'))::(AT ps' ((CH (w,k) (BL s' o) L').map (·.2)) ++(AT qs fo++Δ))) O;rw[v,z,←hM];refine Z.perm<|((gU _ (gW (l₁:=AT ps' ((L'.map (·.2)).set i (BL s' o))))).trans (iI _ _ _)).trans (gU M ?_);exact(gW (l₁:=AT ps' ((L'.map (·.2)).set i (BL s' o)))).symm.trans (jR _ (hU Δ N.symm))
end
section
variable {φ ψ:AD}{h:AE}{F:List Chk}{a:Addr}{t:Slc×Slc×Slc×Slc×Slc×Slc×Unit}{p:dtP}{ap:gL}{A:dtA}{fz:Slc×Slc×Slc×Int×Unit}{sl:Slc}{nm lm b:Nat}{fa:dtF}{steps:List Stp}
theorem Rd (lm:Nat) (ps:List gL) (L:LkL) (Δ M:List Chk):giC lm ps L Δ++M=giC lm ps L (Δ++M):=by
 unfold giC;rw[List.cons_append,iB]
theorem Xx (gk:Dg.Glob φ) (K:LkK φ a t ap fz sl nm lm p A fa steps) {fs:Slc}{qs:List gL}{fo:List Ad}(kf:Ro.SliceIs jC φ fs qs) (hq:qs.length=fo.length) {r:LkL}(hd:Qi p A fa steps fo=some r) (s0:St φ (giC lm [] [] (AT qs fo++F)) h):
 CallsH gP 66 [.pointer (some a),sv fs] h (Ap λv h'=>v= .tuple #[] ∧ ∃(ψ:AD) (ps:List gL),Sub φ ψ∧ps.length=r.length∧St ψ (giC lm ps r (AT qs fo++F)) h'):=by
 refine Av mixed Tryz.func66 ?_;rw[LT];unfold HR;unfold Qi at hd;have⟨L1,b5,hd⟩:=bS hd;have⟨mm,hmm,hd⟩:=bS hd;have nS:sl.2.1=steps.length:=K.ks.length;have nR:t.2.2.1.2.1=p.2.2.1.length:=K.pl.k2.length;have n0:t.1.2.1=p.1.length:=K.pl.k0.length;refine AF _ rfl<|AG (x:=sl) (K.at s0 (j:=11) rfl) rfl<|Ag (λ(y:Int×Unit) w L=>∃ψ ps,Sub φ ψ∧ps.length=iA L∧St ψ (giC lm ps L (AT qs fo++F)) w) (g:=L1) ?_ ?_
 ·refine By b5 (λi (y:Int×Unit) w L=>y.1=i∧ ∃ψ ps,Sub φ ψ∧ps.length=iA L∧St ψ (giC lm ps L (AT qs fo++F)) w) ((0:Int),()) rfl ⟨rfl,φ,[],iK _,rfl,s0⟩ ?_ ?_
  ·rintro i z w L e ⟨rfl,ψ,ps,le,hl,st⟩ he h0 hlt hw;refine Ac (by rw[nS];exact gC hlt) ?_;have⟨s,hs,he⟩:=bS he;obtain⟨A1,d2,b6,b7,q1,a8⟩:=(K.ks.mono le).get hs;refine AF _ b6 (Ah b7 ?_);obtain⟨_,_,rfl,rfl,rfl⟩:=q1;refine AG (x:=s.1) (AJ st.sub (a8 0 _ rfl)) rfl<|AG (x:=s.2) (by rw[An];exact AJ st.sub (a8 1 _ rfl)) rfl<|AV (vs:=[.int .i64 0,.int .i64 0]) st ?_;intro r8 h3 s3;refine Cf (b:=r8) (j:=0) (v:=.int .i64 s.1) s3 rfl (by simp) ?_;intro h4 s4;refine Cf (b:=r8) (j:=1) (v:=.int .i64 s.2) s4 rfl (by simp) ?_;intro h5 s5;have⟨ψ1,M,cB,s6⟩:=St.blk s5;have E:=le.trans M;refine AF _ rfl<|AG (x:=t.2.2.1) ((K.mono E).at s6 (j:=2) rfl) rfl<|Ag (λ(y:Int×Unit) w L=>∃ψ ps,Sub φ ψ∧ps.length=iA L∧St ψ (giC lm ps L (AT qs fo++F)) w) (g:=e) ?_ ?_
   ·refine By he (λi (y:Int×Unit) w L=>y.1=i∧ ∃ψ ps,Sub ψ1 ψ∧ps.length=iA L∧St ψ (giC lm ps L (AT qs fo++F)) w) ((0:Int),()) rfl ⟨rfl,ψ1,ps,iK _,hl,s6⟩ ?_ ?_
    ·rintro i2 R w2 L2 e2 ⟨rfl,ψ2,N,C,a9,U⟩ c d3 b0 b8;have B:=E.trans C;unfold Sv at c;refine Ac (by rw[nR];exact gC b0) ?_;have⟨ru,b9,c⟩:=bS c;refine Ag (λ(_:Unit) w (_:Unit)=>∃ψ ps,Sub ψ1 ψ∧ps.length=iA e2∧St ψ (giC lm ps e2 (AT qs fo++F)) w) (g:=()) ?_ ?_
     ·refine Oa (K.pl.k2.mono B) b9 U ?_;intro d4 u h7 ku s7;have⟨ψ3,G,V,S⟩:=St.blk s7;have ku:=ku.mono G;have d:=B.trans G;have I:=C.trans G;have W:=cB.mono I;have K3:=K.mono d;refine AG (x:=ru.1) (B7 V S (j:=0) rfl) rfl<|AG (x:=s.2) (B7 W S (j:=1) rfl) rfl<|AH c rfl (λ_ c=> ?_) (λ_ c=> ?_)
      ·obtain rfl:=iS c;exact Oj () rfl ⟨ψ3,N,I,a9,S⟩
      ·have⟨wk,hwk,c⟩:=bS c;obtain⟨L',hL',c⟩:=bS c;have⟨o,ho,c⟩:=bS c;obtain⟨s',hs',c⟩:=bS c;have⟨ok,c⟩:=CD c;obtain rfl:=iS c;refine AF _ rfl<|AG (x:=ap) (K3.at S (j:=6) rfl) rfl<|AG (x:=s.1) (B7 W S (j:=0) rfl) rfl<|AG (x:=u) (B7 V S (j:=1) rfl) rfl ?_;have fin:∀ {X:AD} {O:AE} {D:Nat},Sub ψ3 X→Ci X (fH D) [.int .i64 wk,.int .i64 R.1] →St X (giC lm N L2 (AT qs fo++F)) O→ ∀ {P:Bh→AE→Prop},
        (∀(ψ:AD) (ps':List gL) (h':AE),Sub ψ1 ψ→ps'.length=iA (CH (wk,R.1) (BL s' o) L')→St ψ (giC lm ps' (CH (wk,R.1) (BL s' o) L') (AT qs fo++F)) h'→P (.out []) h')→
        (Xv (some a) fs.1 fs.2.1 z.1 D).wp gP P O:=by
        intro X O D f cX Y P hP;refine Xw (gk.mono (d.trans f)) (K3.mono f) (kf.mono (d.trans f)) hq cX hL' ho hs' ok a9 Y ?_;intro Z ps' a0 m J b1;exact hP Z ps' a0 ((I.trans f).trans m) J b1
       refine DY ?_ ?_
       ·refine AK (EH K3.kA ku S hwk) ?_;rintro _ O ⟨ψ4,y4,a1,rfl,rfl,s9⟩;refine⟨y4,rfl,?_⟩;refine AV (vs:=[.int .i64 0,.int .i64 0]) s9 ?_;intro D a0 a2;refine Cf (b:=D) (j:=0) (v:=.int .i64 y4) a2 rfl (by simp) ?_;intro c0 a3;refine Cf (b:=D) (j:=1) (v:=.int .i64 R.1) a3 rfl (by simp) ?_;intro c1 a4;have⟨X,f,cX,a5⟩:=St.blk a4;refine fin (a1.trans f) cX a5 ?_;intro Z ps' c2 m J a6;exact⟨(),rfl,Z,ps',m,J,a6⟩
       ·refine AV (vs:=[.int .i64 0,.int .i64 0]) S ?_;intro b2 O s9;refine AN (B7 V s9 (j:=1) rfl)<|AN (B7 W s9 (j:=0) rfl)<|AN (K3.at s9 (j:=6) rfl)<|AK (EH K3.kA ku s9 hwk) ?_;rintro _ a0 ⟨ψ4,y4,a1,rfl,rfl,a2⟩;refine⟨y4,rfl,?_⟩;refine Cf (b:=b2) (j:=0) (v:=.int .i64 y4) a2 rfl (by simp) ?_;intro c0 a3;refine Cf (b:=b2) (j:=1) (v:=.int .i64 R.1) a3 rfl (by simp) ?_;intro c1 a4;have⟨X,f,cX,a5⟩:=St.blk a4;refine fin (a1.trans f) cX a5 ?_;intro Z ps' c2 m J a6;exact⟨(),rfl,Z,ps',m,J,a6⟩
     ·rintro _ O H;exact AZ (gO .i64 (R.1+(1:Int)),()) _ rfl rfl ⟨b8,H⟩
    ·rintro i2 R w2 ⟨rfl,ψ2,N,C,H⟩ hge;refine AU (by rw[nR];exact gB (iQ.2 hge))<|AI (AL R rfl ⟨ψ2,N,E.trans C,H⟩)
   ·rintro _ O H;exact AZ (gO .i64 (z.1+(1:Int)),()) _ rfl rfl ⟨hw,H⟩
  ·rintro i z w ⟨rfl,H⟩ hge;refine AU (by rw[nS];exact gB (iQ.2 hge))<|AI (AL z rfl H)
 ·rintro _ h1 ⟨ψ1,c3,M,c4,b3⟩;have K1:=K.mono M;refine AF _ rfl<|AG (x:=ap) (K1.at b3 (j:=6) rfl) rfl<|AK (Co K1.kA b3 hmm) ?_;rintro _ h2 ⟨ψ2,y2,C,rfl,rfl,U⟩;refine⟨y2,rfl,?_⟩;have B:=M.trans C;refine Ag (λ(y:Int×Unit) w L=>∃ψ ps,Sub φ ψ∧ps.length=iA L∧St ψ (giC lm ps L (AT qs fo++F)) w) (g:=r) ?_ ?_
  ·refine By hd (λi (y:Int×Unit) w L=>y.1=i∧ ∃ψ ps,Sub φ ψ∧ps.length=iA L∧St ψ (giC lm ps L (AT qs fo++F)) w) ((0:Int),()) rfl ⟨rfl,ψ2,c3,B,c4,U⟩ ?_ ?_
   ·rintro i z w L e ⟨rfl,ψ,ps,le,hl,st⟩ he h0 hlt hw;refine Ac (gC hlt) ?_;have⟨bd,hbd,he⟩:=bS he;have K3:=K.mono le;refine AK (Ea K3.pt st (show BN (lkT p A fa steps (some nm) (some lm)) z.1 0=some bd from hbd)) ?_;rintro _ h3 ⟨ψ3,y3,G,rfl,rfl,Q⟩;refine⟨y3,rfl,?_⟩;have d:=le.trans G;refine Aa (λ(_:Unit) w L=>∃ψ ps,Sub φ ψ∧ps.length=iA L∧St ψ (giC lm ps L (AT qs fo++F)) w) (g:=e) ?_ ?_
    ·refine AH he rfl (λ_ he=> ?_) (λ_ he=> ?_)
     ·have⟨sn,hsn,he⟩:=bS he;obtain rfl:=iS he;refine AF _ rfl<|AG (x:=some lm) ((K.mono d).at Q (j:=13) rfl) rfl<|AF _ rfl<|AG (x:=t.1) (by have:=(K.mono d).at Q (j:=0) rfl;rwa [add_zero]at this) rfl<|AV (vs:=[.int .i64 0]) Q ?_;intro c5 h4 a7;refine AN (by have:=(K.mono d).at a7 (j:=0) rfl;rwa [add_zero]at this)<|AN ((K.mono d).at a7 (j:=13) rfl) ?_;have c6:=jV (r:=gT .i64) (l:=[(0:Int)]) (n:=1) a7 (.cons (a:=[_]) rfl .nil) rfl (by decide);have⟨X,f,k5,c7⟩:=hZ (t:=(some ⟨c5,0,none⟩,1,1)) c6;rw[n0];refine AK (Ei k5 c7 hsn) ?_;rintro _ h6 ⟨Z,q,l6,m,rfl,rfl,b4⟩;refine⟨q,rfl,?_⟩;have T:=(d.trans f).trans m;refine AN ((K.mono T).at b4 (j:=13) rfl)<|J0 (kk:=DF) (k:=(z.1,(0:Int))) (y:=q) jE Sr b4.at1 rfl ?_;intro h8 c8;obtain⟨ps',g1,g2⟩:=Xu hl c8;exact AO () rfl ⟨Z,ps',T,g1,g2⟩
     ·obtain rfl:=iS he;exact AO () rfl ⟨ψ3,ps,d,hl,Q⟩
    ·rintro _ O H;exact AZ (gO .i64 (z.1+(1:Int)),()) _ rfl rfl ⟨hw,H⟩
   ·rintro i z w ⟨rfl,H⟩ hge;refine AU (gB (iQ.2 hge))<|AI (AL z rfl H)
  ·rintro _ O ⟨ψ9,c9,d0,d1,Y⟩;exact AC ⟨rfl,ψ9,c9,d0,d1,Y⟩
end
structure LkD where
 p:dtP
 A:dtA
 fa:dtF
 steps:List Stp
 L:LkL
def LkL.at (φ:AD) (cs:List Value) (d:LkD) (Γ:List Chk):Prop:=
 ∃(a:Addr) (t:Slc×Slc×Slc×Slc×Slc×Slc×Unit) (ap:gL) (fz:Slc×Slc×Slc×Int×Unit) (sl:Slc) (nm lm:Nat) (ps:List gL),
  cs= [.pointer (some a)] ∧LkK φ a t ap fz sl nm lm d.p d.A d.fa d.steps∧ps.length=d.L.length∧Γ=giC lm ps d.L []
def V5:Pk (Option LkD) where
 sz:=1
 L φ cs x Γ:=match x with
  |none=>cs= [.pointer none] ∧Γ= []
  |some d=>LkL.at φ cs d Γ
 len {φ cs x Γ} h:=by
  cases x with
  |none=>rw[h.1];rfl
  |some d=>obtain⟨a,t,ap,fz,sl,nm,lm,ps,b,_⟩:=h;rw[b];rfl
 mono {φ ψ cs x Γ} hs h:=by
  cases x with
  |none=>exact h
  |some d=>obtain⟨a,t,ap,fz,sl,nm,lm,ps,b,c,e,f⟩:=h;exact⟨a,t,ap,fz,sl,nm,lm,ps,b,c.mono hs,e,f⟩
 plain {φ cs x Γ} h v hv:=by
  cases x with
  |none=>rw[h.1]at hv;simp at hv;subst hv;rfl
  |some d=>obtain⟨a,t,ap,fz,sl,nm,lm,ps,b,_⟩:=h;rw[b]at hv;simp at hv;subst hv;rfl
abbrev E9:Rep (Option LkD):=Rep.pack V5
noncomputable def U9 (p:dtP) (A:dtA):Option (Option LkD):=(PN p).bind λfa=>(P9 p A KZ ([],[])).bind λst=>(Ns p A fa st.1 st.2).bind λrd=>(Gb p A fa st.1 st.2).bind λinc=>(Hf rd.2 rd.1).bind λa=>(Hf inc a).bind λb=>(Qi p A fa st.1 b).bind λL=>some (some ⟨p,A,fa,st.1,L⟩)
noncomputable def Is (d:Option LkD) (s:Int):Option gM:=d.bind λd=>DL (lkT d.p d.A d.fa d.steps none none) s
noncomputable def K7 (d:Option LkD) (s r:Int):Option (List C5):=d.bind λd=>DM (lkT d.p d.A d.fa d.steps none none) s r
noncomputable def NC (d:Option LkD) (s r:Int):Option gM:=d.bind λd=>match BT (s,r) d.L with
 |none=>some []
 |some x=>JM x
section
variable {φ ψ:AD}{h:AE}{F:List Chk}{a:Addr}{t:Slc×Slc×Slc×Slc×Slc×Slc×Unit}{p:dtP}{ap:gL}{A:dtA}{fz:Slc×Slc×Slc×Int×Unit}{sl:Slc}{nm lm b:Nat}{fa:dtF}{steps:List Stp}
theorem VA (H:St φ F h):St φ (⟨E9,[.pointer none],none⟩::F) h:=lH (p:=V5) (Γ:=[]) ⟨rfl,rfl⟩ H
theorem bV {q:gL}{d:Option LkD}(H:St φ (⟨E9,[.pointer q],d⟩::F) h):iU q=iU d:=by
 have⟨Γ,b,_⟩:=lD H;cases d with
 |none=>cases b.1;rfl
 |some d=>obtain⟨a,t,ap,fz,sl,nm,lm,ps,b,_⟩:=b;cases b;rfl
theorem PT {q:gL}{d:Option LkD}{s:Int}(f:St φ (⟨E9,[.pointer q],d⟩::F) h) {r:gM}(hd:Is d s=some r):
 CallsH gP 13 [.pointer q,.int .i64 s] h (Ap λv h'=>∃ψ:AD,∃y:Slc,∃l:gM,Sub φ ψ∧v=fP.val y∧l=r∧Ro.SliceIs (gT .i64) ψ y l∧St ψ (⟨E9,[.pointer q],d⟩::F) h'):=by
 obtain⟨d,rfl,b⟩:=jO.1 hd;obtain⟨Γ,⟨a,t,ap,fz,sl,nm,lm,ps,g,c,i,j⟩,m⟩:=lD f;cases g;refine(LY c.pt m (show DL (lkT d.p d.A d.fa d.steps (some nm) (some lm)) s=some r from b)).mono ?_;rintro e h' ⟨v,rfl,ψ,y,l,le,rfl,rfl,k,n⟩;exact⟨_,rfl,ψ,y,l,le,rfl,rfl,k,lH (p:=V5) ⟨a,t,ap,fz,sl,nm,lm,ps,rfl,c.mono le,i,j⟩ n⟩
theorem PU {q:gL}{d:Option LkD}{s k:Int}(f:St φ (⟨E9,[.pointer q],d⟩::F) h) {r:List C5}(hd:K7 d s k=some r):
 CallsH gP 18 [.pointer q,.int .i64 s,.int .i64 k] h (Ap λv h'=>∃ψ:AD,∃y:Slc,∃l:List C5,Sub φ ψ∧v=fP.val y∧l=r∧Ro.SliceIs DR ψ y l∧St ψ (⟨E9,[.pointer q],d⟩::F) h'):=by
 obtain⟨d,rfl,b⟩:=jO.1 hd;obtain⟨Γ,⟨a,t,ap,fz,sl,nm,lm,ps,g,c,i,j⟩,m⟩:=lD f;cases g;refine(LZ c.pt m (show DM (lkT d.p d.A d.fa d.steps (some nm) (some lm)) s k=some r from b)).mono ?_;rintro e h' ⟨v,rfl,ψ,y,l,le,rfl,rfl,kk,n⟩;exact⟨_,rfl,ψ,y,l,le,rfl,rfl,kk,lH (p:=V5) ⟨a,t,ap,fz,sl,nm,lm,ps,rfl,c.mono le,i,j⟩ n⟩
theorem Sw {q:gL}{d:Option LkD}{s k:Int}(gk:Dg.Glob φ) (u:St φ (⟨E9,[.pointer q],d⟩::F) h) {r:gM}(hd:NC d s k=some r):
 CallsH gP 15 [.pointer q,.int .i64 s,.int .i64 k] h (Ap λv h'=>∃ψ:AD,∃y:Slc,∃l:gM,Sub φ ψ∧v=fP.val y∧l=r∧Ro.SliceIs (gT .i64) ψ y l∧St ψ (⟨E9,[.pointer q],d⟩::F) h'):=by
 obtain⟨d,rfl,b⟩:=jO.1 hd;obtain⟨Γ,⟨a,t,ap,fz,sl,nm,lm,ps,w,f,g,z⟩,c⟩:=lD u;cases w;subst z;rw[Rd,jW]at c;refine Av mixed Tryz.func15 ?_;rw[M9];unfold JO;refine AF _ rfl<|AG (x:=some lm) (f.at c (j:=13) rfl) rfl<|GZ (kk:=DF) (a:=.pointer) (k:=(s,k)) (m:=mz ps d.L) (none:gL) jE Sr (i:=lK) (by kernel_rfl) rfl c ?_;have back:∀ {ψ:AD} {h':AE},Sub φ ψ→St ψ (giC lm ps d.L F) h'→St ψ (⟨E9,[.pointer (some a)],some d⟩::F) h':=λle st=>
  lH (p:=V5) (Γ:=giC lm ps d.L []) ⟨a,t,ap,fz,sl,nm,lm,ps,rfl,f.mono le,g,rfl⟩ (by rw[Rd,jW];exact st)
 cases hg:BT (s,k) d.L with
 |none=>
  rw[hg]at b;obtain rfl:=iS b;rw[U8 hg];refine Ac rfl<|AC ⟨φ,(none,0,0),[],iK _,rfl,rfl,jP _ _,back (iK _) c⟩
 |some x=>
  rw[hg]at b;have⟨i,A,B,C,D,I,J⟩:=Ob g hg;rw[D];have⟨rest,r1,_⟩:=Ej B C;have n:St φ (Bd A x::(rest++(cM DF jC lm (mz ps d.L)::F))) h:=c.perm ((gU _ (hU F r1)).trans ((iI _ _ _).trans (gU _ (gW (l₁:=rest)).symm)));refine AU (Qj n)<|AK (Mz gk n b) ?_;rintro _ K ⟨E,o,e,rfl,G,H⟩;refine⟨o,rfl,?_⟩;refine AC ⟨E,o,r,e,rfl,rfl,G,back e ?_⟩;exact H.perm (((gU _ (gW (l₁:=rest))).trans (iI _ _ _)).trans (gU _ (hU F r1).symm))
noncomputable def Xy (t2 t3 t4 t5 f g:Slc) (ap:gL) (fz:Slc×Slc×Slc×Int×Unit) (nm lm:Nat):T:=dZ #[sv t2,sv t3,sv t4,sv t5,sv f,sv g,fN ap,sv fz.1,sv fz.2.1,sv fz.2.2.1,fL fz.2.2.2.1,fM,.map (some nm),.map (some lm)] 109 λa=>gX 63 [fN (fH a),.func (.func 64) #[fN (fH a)] #[]] (.tuple []) λh=>gX 65 [fN (fH a)] (.tuple fY) λb=>gX 68 [fN (fH a)] fP λc=>gX 67 [sv b.2.1,sv b.1] fP λd=>gX 67 [sv c,sv d] fP λe=>gX 66 [fN (fH a),sv e] (.tuple []) λi=>iF (fN (fH a))
noncomputable def UP (p:dtP) (A:dtA) (fa:dtF):Option (Option LkD):=(P9 p A KZ ([],[])).bind λst=>(Ns p A fa st.1 st.2).bind λrd=>(Gb p A fa st.1 st.2).bind λinc=>(Hf rd.2 rd.1).bind λa=>(Hf inc a).bind λb=>(Qi p A fa st.1 b).bind λL=>some (some ⟨p,A,fa,st.1,L⟩)
def OfS (φ:AD) (F:List Chk) (r:Option LkD) (v:Value) (h':AE):Prop:= ∃ψ:AD,∃y:gL,∃l:Option LkD,Sub φ ψ∧v=fO.val y∧l=r∧St ψ (⟨E9,[.pointer y],l⟩::F) h'
theorem Gc {φ0:AD}(y:Sub φ0 φ) (gk:Dg.Glob φ) (kP:PlK φ t p) (kA:Pt Fy φ ap A) (O:Ro.SliceIs iC φ fz.1 fa.1) (P:Ro.SliceIs (hQ (gT .i64)) φ fz.2.1 fa.2.1) (Q:Ro.SliceIs (hQ (gT .i64)) φ fz.2.2.1 fa.2.2.1) (R:fz.2.2.2.1=fa.2.2.2)
 {r:Option LkD} (hd:UP p A fa=some r) (S:St φ (cM DF (gT .i64) nm []::cM DF jC lm []::F) h):
 (Xy t.1 t.2.1 t.2.2.1 t.2.2.2.1 t.2.2.2.2.1 t.2.2.2.2.2.1 ap fz nm lm).wp gP (Ln (Ap (OfS φ0 F r))) h:=by
 unfold Xy;unfold UP at hd;have⟨en,hen,hd⟩:=bS hd;have⟨rd,hrd,hd⟩:=bS hd;have⟨inc,hinc,hd⟩:=bS hd;have⟨e,z,hd⟩:=bS hd;have⟨b,B,hd⟩:=bS hd;have⟨L,hL,hd⟩:=bS hd;obtain rfl:=iS hd;refine AV (vs:=lkV t ap fz ((none,0,0):Slc) nm lm) S ?_;intro f T U;have V:St φ (enC f t ap fz nm lm ⟨((none,0,0):Slc),[],[]⟩ ++(cM DF jC lm []::F)) T:=(lC 184 SF U).at1;refine AK (Xo kA kP (x:=⟨((none,0,0):Slc),[],[]⟩) hen V) ?_;rintro _ h2 ⟨rfl,ψ2,x,C,hx,W⟩;refine⟨(),rfl,?_⟩;obtain⟨sl,steps,num⟩:=x;obtain rfl:=hx;have⟨ψ3,D,cB,Y⟩:=St.blk W;have⟨Z,s,ks,s5⟩:=hZ (t:=sl) Y;have a:=(C.trans D).trans s;have K:LkK Z ⟨f,0,none⟩ t ap fz sl nm lm p A fa steps:=⟨cB.mono s,kP.mono a,kA.mono a,O.mono a,P.mono a,Q.mono a,R,ks⟩;refine AK (V4 K hrd s5) ?_;rintro _ h5 ⟨ψ5,y1,y2,ps,n,rfl,hps,k1,k2,s6⟩;refine⟨_,rfl,?_⟩;have i:=a.trans n;have s7:St ψ5 (cM DF (gT .i64) nm num::(AT ps rd.1++(cM DF jC lm []::F))) h5:=s6.perm (gW (l₁:=AT ps rd.1));refine AK (Rc (gk.mono i) (K.mono n) hinc s7) ?_;rintro _ h6 ⟨ψ6,y3,g,rfl,k3,s8⟩;refine⟨_,rfl,?_⟩;have j:=i.trans g;refine AK (QZ (gk.mono j) (k2.mono g) (k1.mono g) hps s8.tail z) ?_;rintro _ h7 ⟨ψ7,y4,qs,o,rfl,hqs,s9⟩;refine⟨_,rfl,?_⟩;have u:=j.trans o;have⟨ψ8,q,k4,E⟩:=hZ (t:=y4) s9;have k:=u.trans q;refine AK (QZ (gk.mono k) (k3.mono (o.trans q)) k4 hqs E B) ?_;rintro _ h8 ⟨ψ9,y5,us,v,rfl,hus,G⟩;refine⟨_,rfl,?_⟩;have⟨H,l,k5,I⟩:=hZ (t:=y5) G;have c:=(k.trans v).trans l;have d:=(((((n.trans g).trans o).trans q).trans v).trans l);have J:St H (giC lm [] [] (AT us b++(AT qs e++(AT ps rd.1++F)))) h8:=by
  refine I.perm ?_;show(AT us b++(AT qs e++(AT ps rd.1++(cM DF jC lm []::F)))).Perm (cM DF jC lm []::(AT us b++(AT qs e++(AT ps rd.1++F))));rw[←iB,←iB,←iB (AT us b),←iB (AT us b++AT qs e)];exact gW
 refine AK (Xx (gk.mono c) (K.mono d) k5 hus hL J) ?_;rintro _ h9 ⟨rfl,w,vs,m,hvs,M⟩;refine⟨(),rfl,?_⟩;refine AC ⟨w,some ⟨f,0,none⟩,_,(y.trans c).trans m,rfl,rfl,?_⟩;refine lH (p:=V5) (Γ:=giC lm vs L []) ⟨⟨f,0,none⟩,t,ap,fz,sl,nm,lm,vs,rfl,K.mono (d.trans m),hvs,rfl⟩ ?_;rw[Rd,jW];have N:St w ((AT us b++(AT qs e++AT ps rd.1)) ++(giC lm vs L F)) h9:=by
  refine M.perm ?_;show(cM DF jC lm (mz vs L)::(AT vs (L.map (·.2)) ++(AT us b++(AT qs e++(AT ps rd.1++F))))).Perm ((AT us b++(AT qs e++AT ps rd.1)) ++(cM DF jC lm (mz vs L)::(AT vs (L.map (·.2)) ++F)));rw[show AT us b++(AT qs e++(AT ps rd.1++F))=(AT us b++(AT qs e++AT ps rd.1)) ++F by simp[iB]]
  generalize AT us b++(AT qs e++AT ps rd.1)=X
  refine(gU _ ?_).trans (gW (l₁:=X)).symm;rw[←iB,←iB];exact hU F jF
 exact St.drop _ N
theorem Xz {p_0:Slc×Slc×Slc×Slc×Slc×Slc×Unit}{d0 d1:List gN}{d2:List Ax}{d3 d4:gM}{d5:List gN}{t:dtA}{a_1:gL}(gk:Dg.Glob φ)
 (k0:Ro.SliceIs iX φ p_0.1 d0) (C:Ro.SliceIs iX φ p_0.2.1 d1) (D:Ro.SliceIs CI φ p_0.2.2.1 d2) (E:Ro.SliceIs (gT .i64) φ p_0.2.2.2.1 d3) (G:Ro.SliceIs (gT .i64) φ p_0.2.2.2.2.1 d4) (H:Ro.SliceIs iX φ p_0.2.2.2.2.2.1 d5) (kA:Pt Fy φ a_1 t) (I:St φ F h) {r:Option LkD} (hd:U9 (d0,d1,d2,d3,d4,d5) t=some r):
 CallsH gP 37 [.agg #[sv p_0.1,sv p_0.2.1,sv p_0.2.2.1,sv p_0.2.2.2.1,sv p_0.2.2.2.2.1,sv p_0.2.2.2.2.2.1],.pointer a_1] h (Ap (OfS φ F r)):=by
 refine Av mixed Tryz.func37 ?_;rw[So];unfold Qf;have⟨fa,hfa,hd⟩:=bS hd;have hd:UP (d0,d1,d2,d3,d4,d5) t fa=some r:=hd;have kP:PlK φ p_0 (d0,d1,d2,d3,d4,d5):=⟨k0,C,D,E,G,H⟩;refine AV (vs:=plV p_0) I ?_;intro r1 J p;have⟨u,c,cB,p⟩:=St.blk p;have hc:∀ {ψ:AD} {Γ:List Chk} {h':AE},Sub u ψ→St ψ Γ h'→ ∀j v,(plV p_0)[j]? =some v→BW h' ⟨r1,j,none⟩=some v:=λ{ψ Γ h'} le st j v hv=>by
  have:=AJ st.sub ((cB.mono le).at j hv)
  rw[Dt,jD]at this;exact this
 have q:=hc (iK _) p;refine Ek q<|Ek q ?_;have d:=gk.mono c;have e:=kP.mono c;have f:=kA.mono c;have call:∀ {Γ:List Chk} {w:AE} {K:(Slc×Slc×Slc×Int×Unit)→T} {Q:Bh→AE→Prop},St u Γ w→
  (∀(ψ:AD) (fz:Slc×Slc×Slc×Int×Unit) (w':AE),Sub u ψ→Ro.SliceIs iC ψ fz.1 fa.1→Ro.SliceIs (hQ (gT .i64)) ψ fz.2.1 fa.2.1→Ro.SliceIs (hQ (gT .i64)) ψ fz.2.2.1 fa.2.2.1→fz.2.2.2.1=fa.2.2.2→St ψ Γ w'→(K fz).wp gP Q w')→
  (gX 62 [(.agg #[(sv p_0.1),(sv p_0.2.1),(sv p_0.2.2.1),(sv p_0.2.2.2.1),(sv p_0.2.2.2.2.1),(sv p_0.2.2.2.2.2.1)])] (.one (.agg [.slice,.slice,.slice,(.int .i64)])) K).wp gP Q w:=by
  intro Γ w K Q st hk;refine AK (RZ d e st hfa) ?_;rintro _ w' ⟨ψ,y,le,rfl,g,i,k,l,st'⟩;exact⟨y,rfl,hk ψ y w' le g i k l st'⟩
 refine DY ?_ (DY ?_ ?_)
 ·refine call p ?_;intro ψ fz w le g i k l st;have hcc:=λ{Γ:List Chk} {h':AE} (st:St ψ Γ h')=>hc le st
  repeat refine AN (hcc st _ _ rfl) ?_
  refine DY ?_ ?_
  ·refine Df DF (gT .i64) st ?_;intro x z b
   repeat refine AN (hcc b _ _ rfl) ?_
   refine Df DF jC b ?_;intro A s a
   repeat refine AN (hcc a _ _ rfl) ?_
   exact Gc (c.trans le) (d.mono le) (e.mono le) (f.mono le) g i k l hd a.at1
  ·refine Df DF jC st ?_;intro x z b
   repeat refine AN (hcc b _ _ rfl) ?_
   refine Df DF (gT .i64) b ?_;intro A s a
   repeat refine AN (hcc a _ _ rfl) ?_
   exact Gc (c.trans le) (d.mono le) (e.mono le) (f.mono le) g i k l hd a
 ·refine Df DF (gT .i64) p ?_;intro B z b;have m:=hc (iK _) b
  repeat refine AN (m _ _ rfl) ?_
  refine DY ?_ ?_
  ·refine call b ?_;intro ψ fz w le g i k l st;have hcc:=λ{Γ:List Chk} {h':AE} (st:St ψ Γ h')=>hc le st
   repeat refine AN (hcc st _ _ rfl) ?_
   refine Df DF jC st ?_;intro n s a
   repeat refine AN (hcc a _ _ rfl) ?_
   exact Gc (c.trans le) (d.mono le) (e.mono le) (f.mono le) g i k l hd a.at1
  ·refine Df DF jC b ?_;intro n s a;have o:=hc (iK _) a
   repeat refine AN (o _ _ rfl) ?_
   refine call a ?_;intro ψ fz w le g i k l st;have hcc:=λ{Γ:List Chk} {h':AE} (st:St ψ Γ h')=>hc le st
   repeat refine AN (hcc st _ _ rfl) ?_
   exact Gc (c.trans le) (d.mono le) (e.mono le) (f.mono le) g i k l hd st.at1
 ·refine Df DF jC p ?_;intro B z b;have m:=hc (iK _) b
  repeat refine AN (m _ _ rfl) ?_
  refine DY ?_ ?_
  ·refine call b ?_;intro ψ fz w le g i k l st;have hcc:=λ{Γ:List Chk} {h':AE} (st:St ψ Γ h')=>hc le st
   repeat refine AN (hcc st _ _ rfl) ?_
   refine Df DF (gT .i64) st ?_;intro n s a
   repeat refine AN (hcc a _ _ rfl) ?_
   exact Gc (c.trans le) (d.mono le) (e.mono le) (f.mono le) g i k l hd a
  ·refine Df DF (gT .i64) b ?_;intro n s a;have o:=hc (iK _) a
   repeat refine AN (o _ _ rfl) ?_
   refine call a ?_;intro ψ fz w le g i k l st;have hcc:=λ{Γ:List Chk} {h':AE} (st:St ψ Γ h')=>hc le st
   repeat refine AN (hcc st _ _ rfl) ?_
   exact Gc (c.trans le) (d.mono le) (e.mono le) (f.mono le) g i k l hd st
end
end Go.Proofs.YtkfgeafgfeppfaaGreatDoor
namespace Go.Proofs.YtkfgeafgfeppfaaGreatDoor
open Go Go.Eng
section
variable {φ:AD}{h:AE}{F:List Chk}
theorem VB {φ:AD}{S S':List Slc}{E:List (List Edge)}{B B':List dtK}{c i:Nat}(hS:S.length=B.length) (hE:E.length=B.length) (H:C2 φ S E c) (hf:GB S E i) (h:(B'=B∧S'=S)∨ ∃x,B'=B++ [x] ∧S'=S++ [Cv]):
 S'.length=B'.length∧(Dp E B.length B'.length).length=B'.length∧C2 φ S' (Dp E B.length B'.length) c∧GB S' (Dp E B.length B'.length) i∧(∀(j:Nat) s,S[j]? =some s→S'[j]? =some s)∧(∀(j:Nat) e,E[j]? =some e→(Dp E B.length B'.length)[j]? =some e)∧ ∀(j:Nat) b,B[j]? =some b→B'[j]? =some b:=by
 rcases h with⟨rfl,rfl⟩|⟨x,rfl,rfl⟩
 ·unfold Dp;rw[gF rfl];exact⟨hS,hE,H,hf,λ_ _ h=>h,λ_ _ h=>h,λ_ _ h=>h⟩
 ·unfold Dp;rw[gG (by simp)];have ap:∀ {α:Type} {l:List α} {x y:α} {j:Nat},l[j]? =some y→(l++ [x])[j]? =some y:=λ{α l x y j} h=>by
   rw[iR (gY.1 h).1];exact h
  exact⟨by simp[hS],by simp[hE],H.snoc (by omega),hf.snoc,λ_ _ h=>ap h,λ_ _ h=>ap h,λ_ _ h=>ap h⟩
theorem Sx {S:List Slc}{E:List (List Edge)}{i:Nat}(H:GB S E i) (c:i<S.length) (d:i<E.length):S[i]? =some Cv∧E[i]? =some []:=by
 have a:=gV c;have b:=gV d;exact⟨by rw[a,(H i (lG _)).1 _ a],by rw[b,(H i (lG _)).2 _ b]⟩
theorem GB.mono {S:List Slc}{E:List (List Edge)}{i i':Nat}(H:GB S E i) (h:i≤i'):GB S E i':=λj hj=>H j (Nat.le_trans h hj)
theorem X2 {φ:AD}{S:List Slc}{E:List (List Edge)}{i:Nat}{s:Slc}{e:List Edge}(H:C2 φ S E i) (hf:GB S E (i+1)):C2 φ (S.set i s) (E.set i e) i∧GB (S.set i s) (E.set i e) (i+1):=by
 refine⟨λj s' e' hj a b=> ?_,λj hj=>⟨λs' h=> ?_,λe' h=> ?_⟩⟩
 ·rw[jU (by omega)]at a b;exact H j s' e' hj a b
 ·rw[jU (by omega)]at h;exact(hf j hj).1 s' h
 ·rw[jU (by omega)]at h;exact(hf j hj).2 e' h
theorem X3 {φ:AD}{S:List Slc}{E:List (List Edge)}{i:Nat}{s:Slc}{e:List Edge}(H:C2 φ S E i) (hs:S[i]? =some s) (he:E[i]? =some e) (k:Ro.SliceIs DR φ s e):C2 φ S E (i+1):=by
 intro j s' e' hj a b;by_cases hji:j=i
 ·subst hji;rw[hs]at a;rw[he]at b;cases a;cases b;exact k
 ·exact H j s' e' hji a b
theorem St.to9' {e a0 a b c d f g i j:Chk}(H:St φ (e::d::a0::a::b::c::f::g::i::j::F) h):St φ (a0::a::b::c::d::f::g::i::j::e::F) h:=
 H.at9.at9.at9.at9.at5.at9.at9.at9.at9
def aJ (φ:AD) (b c d e m a r1 f:Nat) (p:Au) (G:List Chk) (i:Nat) (y:BSt) (w:AE):Prop:= ∃(ψ:AD) (ls:Slc) (S:List Slc),Sub φ ψ∧S.length=y.2.1.length∧y.2.2.1.length=y.2.1.length∧C2 ψ S y.2.2.1 i∧GB S y.2.2.1 i∧St ψ (bC b c d e m a r1 f y.1 p ls 0 (Ey y.2.1 S) y.2.2.2.1 y.2.2.2.2 G) w
def cu (φ:AD) (c d f g m a r1 h:Nat) (p:Au) (G:List Chk) (i:Nat) (b:dtK) (y:BSt) (w:AE):Prop:= ∃(ψ:AD) (ls:Slc) (S:List Slc) (s:Slc) (e:List Edge),Sub φ ψ∧S.length=y.2.1.length∧y.2.2.1.length=y.2.1.length∧C2 ψ S y.2.2.1 i∧GB S y.2.2.1 (i+1)∧S[i]? =some s∧y.2.2.1[i]? =some e∧y.2.1[i]? =some b∧St ψ (bC c d f g m a r1 h y.1 p ls 0 (Ey y.2.1 S) y.2.2.2.1 y.2.2.2.2 (cR 79 DR s e::G)) w
theorem V6 {p_0:Slc×Slc×Slc×Slc×Slc×Slc×Unit}{d0:List gN}{d1:List gN}{d2:List Ax}{d3:gM}{d4:gM}{d5:List gN}{st it:Int}
 (gk:Glob φ) (k0:Ro.SliceIs iX φ p_0.1 d0) (k1:Ro.SliceIs iX φ p_0.2.1 d1) (k2:Ro.SliceIs CI φ p_0.2.2.1 d2) (k3:Ro.SliceIs (gT .i64) φ p_0.2.2.2.1 d3) (k4:Ro.SliceIs (gT .i64) φ p_0.2.2.2.2.1 d4) (k5:Ro.SliceIs iX φ p_0.2.2.2.2.2.1 d5) (s0:St φ F h) {r:Option EC×Int} (hd:PH (d0,d1,d2,d3,d4,d5) st it=some r):
 CallsH gP 36 [(.agg #[.slice p_0.1.1 p_0.1.2.1 p_0.1.2.2,.slice p_0.2.1.1 p_0.2.1.2.1 p_0.2.1.2.2,.slice p_0.2.2.1.1 p_0.2.2.1.2.1 p_0.2.2.1.2.2,.slice p_0.2.2.2.1.1 p_0.2.2.2.1.2.1 p_0.2.2.2.1.2.2,.slice p_0.2.2.2.2.1.1 p_0.2.2.2.2.1.2.1 p_0.2.2.2.2.1.2.2,.slice p_0.2.2.2.2.2.1.1 p_0.2.2.2.2.2.1.2.1 p_0.2.2.2.2.2.1.2.2]),.int .i64 st,.int .i64 it] h (Ap λv h'=>∃ψ:AD,∃y:gL×Int×Unit,∃l1:Option EC,Sub φ ψ∧v=((.tuple [.atom .pointer,.atom (.int .i64)]):Sh).val y∧(l1,y.2.1)=r∧Np Fy ψ y.1 l1∧St ψ F h'):=by
 refine Av mixed Tryz.func36 ?_;rw[NW];unfold J2;unfold PH at hd;have⟨rm,hrm,I⟩:=bS hd;clear hd;have⟨cl,hcl,a9⟩:=bS I;clear I;have⟨ra,hra,hd⟩:=bS a9;clear a9;refine AV (vs:=[sv p_0.1,sv p_0.2.1,sv p_0.2.2.1,sv p_0.2.2.2.1,sv p_0.2.2.2.2.1,sv p_0.2.2.2.2.2.1]) s0 λb1 h1 s1=>AA (x:=p_0.1) s1 rfl<|AA (x:=p_0.2.1) s1 rfl<|AA (x:=p_0.2.2.1) s1 rfl<|AA (x:=p_0.2.2.2.1) s1 rfl<|AA (x:=p_0.2.2.2.2.1) s1 rfl<|AA (x:=p_0.2.2.2.2.2.1) s1 rfl<|AV (vs:=[sv p_0.1,sv p_0.2.1,sv p_0.2.2.1,sv p_0.2.2.2.1,sv p_0.2.2.2.2.1,sv p_0.2.2.2.2.2.1,.slice none 0 0,.int .i64 (0:Int)]) s1 λa h2 s2=>AV (vs:=[.pointer none]) s2 λc4 h3 s3=>AQ s3 rfl rfl λh4 s4=>AK (Lp s4 hrm) ?_;rintro _ h5 ⟨ψ1,d7,_,d8,rfl,rfl,s5⟩;refine⟨d7,rfl,?_⟩;refine AK (Lp s5 hcl) ?_;rintro _ h6 ⟨ψ2,d9,_,e0,rfl,rfl,P⟩;refine⟨d9,rfl,?_⟩;obtain⟨r2,j9,rfl,q2,P⟩:=lM P;have P:=(lJ P q2).at1;obtain⟨r1,k6,rfl,q1,P⟩:=lM P;have P:=(lJ P q1).at1;refine AV (vs:=[.pointer none]) P λc5 h7 s7=>AV (vs:=[.pointer none]) s7 λc6 h8 s8=>AQ s8.at1 rfl rfl λh9 s9=>AQ s9.at1 rfl rfl λk7 e4=>Df kyS (gT .i64) e4 λm k8 e5=>AV (vs:=[.map none]) e5 λc3 k9 e6=>AQ e6 rfl rfl λl0 e7=>AV (vs:=[.int .i64 (0:Int),.int .i64 (0:Int)]) e7 λe8 l2 e9=> ?_;have f0:=jV (r:=BG) (l:=[((0:Int),(0:Int))]) (n:=1) e9 (.cons (a:=[_,_]) ⟨[_],_,rfl,rfl,rfl⟩ .nil) rfl (by decide);have⟨ψ3,f3,kk,f4⟩:=hZ (t:=(some ⟨e8,0,none⟩,1,1)) f0;have k:=(d8.trans e0).trans f3;have f5:=lJ (r:=Cc) (x:=qA (d0,d1,d2,d3,d4,d5) Cv 0) f4.at7 ⟨[_],_,rfl,⟨_,rfl,k0.mono k⟩,[_],_,rfl,⟨_,rfl,k1.mono k⟩,[_],_,rfl,⟨_,rfl,k2.mono k⟩,[_],_,rfl,⟨_,rfl,k3.mono k⟩,[_],_,rfl,⟨_,rfl,k4.mono k⟩,[_],_,rfl,⟨_,rfl,k5.mono k⟩,[_],_,rfl,rfl,rfl⟩;have f6:=(f5.nil 118 roB).at6.at5.at7.at7.at4.at5.at8.at8.at8;refine AK (U1 (B:=[]) (S:=[]) (ls:=Cv) (gk.mono k) kk rfl f6 hra) ?_;rintro _ l3 ⟨ψ4,b0,f7,S0,f8,rfl,e1,e2,f9,b2⟩;refine⟨b0,rfl,?_⟩;have U:=k.trans f8;refine AH hd (by rw[e2]) (λ_ hd=> ?_) (λ_ hd=> ?_)
 ·obtain rfl:=iS hd;exact AC ⟨ψ4,(none,b0.2.1,()),none,U,rfl,by rw[e2],rfl,(St.tail9 b2).tail⟩
 have⟨g,hg,hd⟩:=bS hd;refine Ag (λ(z:Int×Int×gL×Unit) w (g:AW BSt Int)=>∃y i,g=iH y∧y.2.1.length≤i∧aJ φ c3 c4 c5 c6 m a r1 r2 (d0,d1,d2,d3,d4,d5) (cW 32 b1 [sv p_0.1,sv p_0.2.1,sv p_0.2.2.1,sv p_0.2.2.2.1,sv p_0.2.2.2.2.1,sv p_0.2.2.2.2.2.1]::F) i y w) (g:=g) ?_ ?_
 ·unfold OX at hg;refine CA hg (λ(z:Int×Int×gL×Unit) w (x:Int×BSt)=>z.1=x.1∧0≤x.1∧aJ φ c3 c4 c5 c6 m a r1 r2 (d0,d1,d2,d3,d4,d5) (cW 32 b1 [sv p_0.1,sv p_0.2.1,sv p_0.2.2.1,sv p_0.2.2.2.1,sv p_0.2.2.2.2.1,sv p_0.2.2.2.2.2.1]::F) x.1.toNat x.2 w) ((0:Int),(0:Int),none,()) rfl ⟨rfl,Int.le_refl _,?_⟩ ?_
  ·obtain⟨g1,g2,g3,g4,_⟩:=VB (E:=[]) (c:=0) (i:=0) (φ:=ψ4) (S:=[]) (B:=[]) rfl rfl (λj s e _ h _=>by simp at h) (λj _=>⟨λs h=>by simp at h,λe h=>by simp at h⟩) f9;exact⟨ψ4,f7,S0,U,g1,g2,g3,g4,b2⟩
  rintro⟨i,z2,z3,_⟩ w ⟨_,fd,B,E,rm',cl'⟩ eo ⟨rfl,a2,ψ,ls,S,le,hS,hE,hok,hfr,s⟩ hd' hbo;dsimp only at a2 hS hE hok hfr s hd' ⊢;have nL:=St.rowLen s.at4;have nM:=St.rowMax s.at4;rw[Do hS]at nL nM;refine AA (x:=some ⟨a,0,none⟩) s.at2 rfl<|AF _ rfl<|NQ ls (UC s)<|AH hd' (by rw[nL]) (λhlt hd'=> ?_) (λhge hd'=> ?_)
  ·have hlt:=gD hlt;have⟨b,hb,I⟩:=bS hd';clear hd';obtain⟨es,hes,hd'⟩:=bS I;clear I;refine AA (x:=some ⟨a,0,none⟩) s.at2 rfl<|AF _ rfl<|NQ ls (UC s) ?_;obtain⟨f1,f2⟩:=Sx hfr (by omega) (by omega);have⟨l4,j6,b3,b4,g0,b5⟩:=lQ s.at4 (PI hb f1);refine AF _ b3 (Ah b4 ?_);obtain⟨_,_,rfl,⟨t0,rfl,q0⟩,_,_,rfl,⟨t1,rfl,q1⟩,_,_,rfl,rfl,_,_,rfl,rfl,rfl⟩:=g0;refine AG (x:=t1) (by rw[An];exact b5 1 _ rfl) rfl<|AA (x:=some ⟨a,0,none⟩) s.at2 rfl ?_;unfold RT at hes;have⟨syms,hsy,V⟩:=bS hes;clear hes;have hes:=V;clear V;refine AK (H8 q1 s.at3 (by rw[Sf];exact hsy)) ?_;rintro _ w2 ⟨ψ5,g8,_,u,rfl,rfl,b6,G⟩;refine⟨g8,rfl,?_⟩;have b7:=b6.length;have G:=(St.back3 G);have a3:=St.to9 (G.nil 79 DR);refine Ag (λ(z:Int×Int×gL×Unit) w (g:AW BSt Int)=>∃y,g=iH y∧cu ψ5 c3 c4 c5 c6 m a r1 r2 (d0,d1,d2,d3,d4,d5) (cW 32 b1 [sv p_0.1,sv p_0.2.1,sv p_0.2.2.1,sv p_0.2.2.2.1,sv p_0.2.2.2.2.1,sv p_0.2.2.2.2.2.1]::F) i.toNat b y w) (g:=es) ?_ ?_
   ·refine NR hes (λj (z:Int×Int×gL×Unit) w (y:BSt)=>z.1=j∧cu ψ5 c3 c4 c5 c6 m a r1 r2 (d0,d1,d2,d3,d4,d5) (cW 32 b1 [sv p_0.1,sv p_0.2.1,sv p_0.2.2.1,sv p_0.2.2.2.1,sv p_0.2.2.2.2.1,sv p_0.2.2.2.2.2.1]::F) i.toNat b y w) ((0:Int),z2,z3,()) rfl ⟨rfl,ψ5,ls,S,Cv,[],iK _,hS,hE,hok.mono u,hfr.mono (by omega),f1,f2,(CC hb).2.2,a3⟩ ?_ ?_
    ·rintro _ ⟨j,u2,u3,_⟩ w3 ⟨g9,B3,E3,h0,i0⟩ e3 ⟨rfl,ψ6,b8,S3,s_,e_,d,H,J,A,C,a4,K,Q,o⟩ f i1 b9 hw hbi;dsimp only at H J A C K Q o f i1 b9 hw ⊢;refine Ac (by rw[b7];exact gC b9) ?_;have⟨sym,hsym,L⟩:=bS f;clear f;unfold U2 at L;have⟨kn,hkn,W⟩:=bS L;clear L;have⟨r3,R,f⟩:=bS W;clear W;dsimp only at f R;obtain⟨l5,j7,c0,c1,i2,c2⟩:=(b6.mono d).get hsym;refine AF _ c0 (Ah c1 ?_);obtain rfl:=i2;refine AG (x:=sym) (AJ o.sub (c2 0 _ rfl)) rfl<|AA (x:=some ⟨a,0,none⟩) o.at2 rfl<|AK (KP (q1.mono (u.trans d)) o.at3 (by rw[XZ];exact hkn)) ?_;rintro _ w4 ⟨ψ7,i3,_,p,rfl,rfl,i4,M⟩;refine⟨i3,rfl,?_⟩;refine AK (U1 (gk.mono (((le.trans u).trans d).trans p)) i4 H (St.back3 M) R) ?_;rintro _ w5 ⟨ψ8,T,a5,S4,a6,rfl,i5,c7,hG,q⟩;refine⟨T,rfl,?_⟩;refine AH f (by rw[c7]) (λ_ f=> ?_) (λ_ f=> ?_)
     ·obtain rfl:=iS f;obtain rfl:=hbi _ rfl;obtain rfl:=iS hd';obtain rfl:=hbo _ rfl;obtain rfl:=iS hd;exact Aj (Al (Aj (Al (AC ⟨ψ8,(none,T.2.1,()),none,((((le.trans u).trans d).trans p).trans a6),rfl,by rw[c7],rfl,(St.tail9 q).tail.tail⟩))))
     have⟨el,hel,X⟩:=bS f;clear f;obtain⟨el',hel',Y⟩:=bS X;clear X;obtain⟨E',hE',f⟩:=bS Y;clear Y;obtain rfl:=iS f;have⟨g1,g2,g3,g4,g5,g6,g7⟩:=VB H J ((A.mono p).mono a6) C hG;have c8:=g5 _ _ a4;have i6:=g6 _ _ K;have a7:=g7 _ _ Q;have⟨_,hlE,helx⟩:=CC hel;rw[i6]at helx;obtain rfl:=Option.some.inj helx;rw[←i5]at hel';have Z:idx r3.2.2.2.1 i=some b:=by unfold idx;rw[gF a2];exact a7
     refine AA (x:=some ⟨a,0,none⟩) q.at2 rfl<|AF _ rfl<|NQ a5 (UC q)<|AA (x:=some ⟨a,0,none⟩) q.at2 rfl<|AF _ rfl<|NQ a5 (UC q) ?_;have⟨l6,j8,N,a0,i7,a1⟩:=lQ q.at4 (PI Z c8);refine AF _ N (Ah a0 ?_);obtain⟨_,_,rfl,⟨v0,rfl,p0⟩,_,_,rfl,⟨v1,rfl,p1⟩,_,_,rfl,rfl,_,_,rfl,rfl,rfl⟩:=i7;refine AG (x:=s_) (by rw[An];exact a1 2 _ rfl) rfl<|GJ (vs:=[.int .i64 sym,.int .i64 T.1]) q λl7 w6 keep D=>AN (keep _ _ (by rw[An];exact a1 2 _ rfl))<|AN (UC D.tail)<|AN (kF D.tail.at2 rfl)<|AN (UC D.tail)<|AN (kF D.tail.at2 rfl)<|AX (r:=DR) (ms:=[(sym,T.1)]) bK D.tail.at9 rfl (iO D) (.cons (a:=[_,_]) ⟨[_],_,rfl,rfl,rfl⟩ .nil) rfl hel' λO w7 a8=>AN (UC a8.tail)<|AN (kF a8.tail.at2 rfl)<|AF _ N (Ah a0 ?_);have hset:DB (Ey r3.2.2.2.1 S4) i (Lr b O)=some (Ey r3.2.2.2.1 (S4.set i.toNat O)):=by
      unfold DB;rw[gF ⟨a2,by rw[Do g1];omega⟩,Xa _ a7]
     refine Q9 (j:=2) a8.at5 (PI Z c8) hset (λcs hq=> ?_) rfl rfl N (An _ _ _) λw8 i8=> ?_
     ·obtain⟨_,_,rfl,⟨x0,rfl,o0⟩,_,_,rfl,⟨x1,rfl,o1⟩,_,_,rfl,rfl,_,_,rfl,rfl,rfl⟩:=hq;exact⟨[_],_,rfl,⟨x0,rfl,o0⟩,[_],_,rfl,⟨x1,rfl,o1⟩,[_],_,rfl,rfl,[_],_,rfl,rfl,rfl⟩
     obtain⟨_,_,rfl⟩:=Dr hE';have⟨w1,w2⟩:=X2 (s:=O) (e:=el') g3 g4;have i9:=St.to9' i8.at1;exact AZ ((gO .i64 (j+(1:Int))),u2,u3,()) _ rfl rfl ⟨hw,ψ8,a5,S4.set i.toNat O,O,el',(d.trans p).trans a6,by rw[List.length_set];exact g1,by rw[List.length_set];exact g2,w1,w2,by rw[kQ (by omega)],by rw[kQ (by omega)],a7,i9⟩
    ·rintro _ ⟨j,u2,u3,_⟩ w3 y3 ⟨rfl,hI⟩ hge R;refine AU (by rw[b7];exact gB (iQ.2 hge))<|AI (AL (j,u2,u3,()) rfl ⟨y3,R,hI⟩)
   rintro⟨z1,u2,u3,_⟩ w3 ⟨⟨g9,B3,E3,h0,i0⟩,rfl,ψ6,b8,S3,s_,e_,d,H,J,A,C,a4,K,Q,o⟩;dsimp only at H J A C K Q o;obtain rfl:=iS hd';have⟨ψ7,p,kE,M⟩:=hZ o.at9;have hw:gO .i64 (i+1)=i+1:=w64 (by omega) (by unfold maxLen at nM;omega);have c9:(i+1).toNat=i.toNat+1:=by omega
   refine AZ ((gO .i64 (i+(1:Int))),u2,u3,()) _ rfl rfl ⟨rfl,by rw[hw];omega,ψ7,b8,S3,((le.trans u).trans d).trans p,H,J,?_,?_,M⟩
   ·rw[hw,c9];exact X3 (A.mono p) a4 K kE
   ·rw[hw,c9];exact C
  ·have hge:=gE hge;obtain rfl:=iS hd';obtain rfl:=hbo _ rfl;exact AI (AL (i,z2,z3,()) rfl ⟨_,i.toNat,rfl,by dsimp only;omega,ψ,ls,S,le,hS,hE,hok,hfr,s⟩)
 rintro⟨z1,z2,z3,_⟩ w ⟨⟨fd,B,E,rm',cl'⟩,i,rfl,hi,ψ,ls,S,le,hS,hE,hok,hfr,s⟩;dsimp only at hd hi hS hE hok hfr s;have⟨tot,ht,hd⟩:=bS hd;obtain rfl:=iS hd;refine AA (x:=some ⟨a,0,none⟩) s.at2 rfl<|AA (x:=some ⟨r2,0,none⟩) s.at7 rfl<|AK (KI s.at8 ht) ?_;rintro _ w1 ⟨ψ5,d6,u,rfl,rfl,G⟩;refine⟨d6,rfl,?_⟩;refine AN (kF G.at3 rfl)<|AF _ rfl ?_;obtain⟨b,vs,e,⟨_,_,rfl,⟨u0,rfl,j0⟩,_,_,rfl,⟨u1,rfl,j1⟩,_,_,rfl,⟨u2,rfl,j2⟩,_,_,rfl,⟨u3,rfl,j3⟩,_,_,rfl,⟨u4,rfl,j4⟩,_,_,rfl,⟨u5,rfl,j5⟩,_,_,rfl,rfl,rfl⟩,a3⟩:=lM G.at4;obtain rfl:a=b:=by simpa using e
 refine AQ a3 rfl rfl λw2 o=>AA (x:=some ⟨a,0,none⟩) o.at4 rfl ?_;have⟨ψ6,d,kR,M⟩:=hZ o.at5;have kS:=Vw hS hE (λj s e h1 h2=>(hok j s e (by have:=(gY.1 h1).1;omega) h1 h2).mono (u.trans d)) kR;have q:=lJ (r:=Fy) (x:=(d0,d1,d2,d3,d4,d5,Ey B E,d6)) M ⟨[_],_,rfl,⟨u0,rfl,j0.mono d⟩,[_],_,rfl,⟨u1,rfl,j1.mono d⟩,[_],_,rfl,⟨u2,rfl,j2.mono d⟩,[_],_,rfl,⟨u3,rfl,j3.mono d⟩,[_],_,rfl,⟨u4,rfl,j4.mono d⟩,[_],_,rfl,⟨u5,rfl,j5.mono d⟩,[_],_,rfl,⟨ls,rfl,kS⟩,rfl⟩;have⟨ψ7,p,kP,D⟩:=St.freezeR (Wl _) q;exact AC ⟨ψ7,(some ⟨a,0,none⟩,(0:Int),()),some _,(((le.trans u).trans d).trans p),rfl,rfl,kP,D.tail.tail.tail.tail.tail.tail.tail.tail⟩
end
noncomputable def La (d:gL) (a f:Nat) (e:gL) (b g:Nat):T:=cond (((a:Nat):Int) !=((b:Nat):Int)) (iF (.bool false)) (gZ 0 fT (iD fT [fL 0,.bool false] λc=>fJ c.1 a (fI d a c.1 λh=>eH h c.1 1 λt4=>fI e b c.1 λi=>eH i c.1 1 λj=>cond (t4 !=j) (iF (.bool false)) (gS [fL (wN c.1),.bool c.2.1])) (iJ 0 [fL c.1,.bool c.2.1])) λk=>iF (.bool true))
theorem Jg (a:gL) (b c:Nat) (d:gL) (e f:Nat):Ab gP Tryz.f12 [(.slice a b c),(.slice d e f)] =La a b c d e f:=by kernel_rfl
noncomputable def Ka (p_0:Pl6):T:=dZ #[sv p_0.1,sv p_0.2.1,sv p_0.2.2.1,sv p_0.2.2.2.1,sv p_0.2.2.2.2.1,sv p_0.2.2.2.2.2.1] 32 λr1=>L6 r1 λt2 t3 t4 t5 E F=>gX 24 [aH t2 t3 t4 t5 E F] fP λD=>L6 r1 λG e f g h i=>gX 25 [aH G e f g h i] fP λc=>dX r1 0 λj=>gZ 0 [aI,aI,aI] (iD [aI,aI,aI] [fL (j.2.1:Int),fL 0,fL 0] λa=>L6 r1 λk l m n o p=>gX 26 [aH k l m n o p] fQ λq=>fK (a.1< (gO .i64 (q - 1))) (fI D.1 D.2.1 a.1 λr=>fC r a.1 1 λs=>cond (!s) (iF (.tuple #[fL a.1,fL 18])) (gS [fL (wN a.1),fL a.2.1,fL a.2.2.1])) (iJ 0 [fL a.1,fL a.2.1,fL a.2.2.1])) λd=>dX r1 0 λt=>gZ 2 [aI,aI,aI] (iD [aI,aI,aI] [fL (t.2.1:Int),fL d.2.1,fL d.2.2.1] λb=>L6 r1 λu v w x y z=>gX 26 [aH u v w x y z] fQ λA=>fK (b.1< (gO .i64 (A - 1))) (fI c.1 c.2.1 b.1 λB=>fC B b.1 1 λC=>cond (!C) (iF (.tuple #[fL b.1,fL 17])) (gS [fL (wN b.1),fL b.2.1,fL b.2.2.1])) (iJ 2 [fL b.1,fL b.2.1,fL b.2.2.1])) λH=>iF (.tuple #[fL 0,fL 0])
theorem Iu (p_0:Pl6):Ab gP Tryz.f7 [(aG p_0)] =Ka p_0:=by kernel_rfl
noncomputable def Kb (p_0:Pl6):T:=dZ #[sv p_0.1,sv p_0.2.1,sv p_0.2.2.1,sv p_0.2.2.2.1,sv p_0.2.2.2.2.1,sv p_0.2.2.2.2.2.1] 32 λr1=>L6 r1 λt2 t3 t4 t5 H I=>gX 26 [aH t2 t3 t4 t5 H I] fQ λG=>iL (iW 68 (fL G) (fL G)) fP λd=>gZ 0 fW (iD fW [fL 0] λc=>dX r1 0 λn=>fJ c.1 n.2.1 (fI d.1 d.2.1 c.1 λo=>iV (o.add (gQ c.1 *1)) (.bool true)<|gS [fL (wN c.1)]) (iJ 0 [fL c.1])) λJ=>gZ 2 fS (iD fS [.bool true] λe=>cond e.1 (gZ 4 fT (iD fT [fL 0,.bool false] λa=>dX r1 2 λp=>fJ a.1 p.2.1 (gZ 6 fT (iD fT [fL 0,.bool true] λb=>dX r1 2 λf=>fI f.1 f.2.1 a.1 λq=>eG q a.1 3 1 λr=>fJ b.1 r.2.1 (iE fS (cond b.2.1 (dX r1 2 λg=>fI g.1 g.2.1 a.1 λs=>eG s a.1 3 1 λh=>fI h.1 h.2.1 b.1 λt=>eH t b.1 1 λi=>fI d.1 d.2.1 i λu=>fC u i 1 λv=>gS [.bool v]) (gS [.bool false])) λw=>gS [fL (wN b.1),.bool w.1]) (iJ 6 [fL b.1,.bool b.2.1])) λx=>iE fS (cond x.2.1 (dX r1 2 λj=>fI j.1 j.2.1 a.1 λy=>eH y a.1 3 λk=>fI d.1 d.2.1 k λz=>fC z k 1 λA=>gS [.bool (!A)]) (gS [.bool false])) λB=>iE fS (cond B.1 (dX r1 2 λl=>fI l.1 l.2.1 a.1 λC=>eH C a.1 3 λm=>fI d.1 d.2.1 m λD=>iV (D.add (gQ m *1)) (.bool true)<|gS [.bool true]) (gS [.bool a.2.1])) λE=>gS [fL (wN a.1),.bool E.1]) (iJ 4 [fL a.1,.bool a.2.1])) λF=>gS [.bool F.2.1]) (iJ 2 [.bool e.1])) λK=>iF (sv d)
theorem Iv (p_0:Pl6):Ab gP Tryz.f24 [(aG p_0)] =Kb p_0:=by kernel_rfl
noncomputable def Lb (p_0:Pl6):T:=dZ #[sv p_0.1,sv p_0.2.1,sv p_0.2.2.1,sv p_0.2.2.2.1,sv p_0.2.2.2.2.1,sv p_0.2.2.2.2.2.1] 32 λr1=>L6 r1 λt2 t3 t4 t5 N O=>gX 26 [aH t2 t3 t4 t5 N O] fQ λM=>iL (iW 68 (fL M) (fL M)) fP λc=>L6 r1 λo p q r s t=>gX 26 [aH o p q r s t] fQ λd=>deref c.1 λu=>chk (0≤(gO .i64 (d - 1))∧(gO .i64 (d - 1)) < (c.2.1:Nat))<|iV (u.add (gQ (gO .i64 (d - 1)) *1)) (.bool true)<|gZ 0 fS (iD fS [.bool true] λe=>cond e.1 (gZ 2 fT (iD fT [fL 0,.bool false] λa=>dX r1 2 λv=>fJ a.1 v.2.1 (gZ 4 fT (iD fT [fL 0,.bool a.2.1] λb=>dX r1 2 λf=>fI f.1 f.2.1 a.1 λw=>eG w a.1 3 1 λx=>fJ b.1 x.2.1 (iE fS (dX r1 2 λg=>fI g.1 g.2.1 a.1 λy=>eH y a.1 3 λh=>fI c.1 c.2.1 h λz=>fC z h 1 λA=>cond A (dX r1 2 λi=>fI i.1 i.2.1 a.1 λB=>eG B a.1 3 1 λj=>fI j.1 j.2.1 b.1 λC=>eH C b.1 1 λk=>fI c.1 c.2.1 k λD=>fC D k 1 λE=>gS [.bool (!E)]) (gS [.bool false])) λF=>iE fS (cond F.1 (dX r1 2 λl=>fI l.1 l.2.1 a.1 λG=>eG G a.1 3 1 λm=>fI m.1 m.2.1 b.1 λH=>eH H b.1 1 λn=>fI c.1 c.2.1 n λI=>iV (I.add (gQ n *1)) (.bool true)<|gS [.bool true]) (gS [.bool b.2.1])) λJ=>gS [fL (wN b.1),.bool J.1]) (iJ 4 [fL b.1,.bool b.2.1])) λK=>gS [fL (wN a.1),.bool K.2.1]) (iJ 2 [fL a.1,.bool a.2.1])) λL=>gS [.bool L.2.1]) (iJ 0 [.bool e.1])) λP=>iF (sv c)
theorem Jh (p_0:Pl6):Ab gP Tryz.f25 [(aG p_0)] =Lb p_0:=by kernel_rfl
noncomputable def Kc (p_0:Pl6):T:=dZ #[sv p_0.1,sv p_0.2.1,sv p_0.2.2.1,sv p_0.2.2.2.1,sv p_0.2.2.2.2.1,sv p_0.2.2.2.2.2.1] 32 λr1=>dX r1 0 λt2=>dX r1 1 λt3=>iF (fL (gO .i64 ((gO .i64 ((t2.2.1:Int)+(t3.2.1:Int)))+(1:Int))))
theorem Ix (p_0:Pl6):Ab gP Tryz.f26 [(aG p_0)] =Kc p_0:=by kernel_rfl
noncomputable def Kd:T:=gX 20 [] (.one (.agg [.int .u8,.int .u8,.slice,.slice,.slice,.slice,.slice])) λt1=>gX 10 [.agg #[.int .u8 t1.1,.int .u8 t1.2.1,sv t1.2.2.1,sv t1.2.2.2.1,sv t1.2.2.2.2.1,sv t1.2.2.2.2.2.1,sv t1.2.2.2.2.2.2.1]] (.tuple [.agg [.slice,.slice,.slice,.slice,.slice,.slice],aP,aP,aB]) λt2=>dZ #[fM,fM,fM,fM,fM,fM] 32 λr3=>eC r3 0 t2.1.1<|eC r3 1 t2.1.2.1<|eC r3 2 t2.1.2.2.1<|eC r3 3 t2.1.2.2.2.1<|eC r3 4 t2.1.2.2.2.2.1<|eC r3 5 t2.1.2.2.2.2.2.1<|iE fS (cond (!t2.2.2.2.1) (gS [.bool true]) (dX r3 2 λt5=>gS [.bool ((t5.2.1:Int) !=(6:Int))])) λg=>cond g.1 (iF (.bool false)) (gX 21 [fN t2.2.1,fL 0,fL 5] fQ λa=>iE fS (fK (a>(0:Int)) (gX 13 [fN t2.2.2.1,fL a] fP λh=>dZ #[fL 5] 3 λi=>gX 12 [sv h,.slice (fH i) 1 1] fR λb=>cond b (gX 15 [fN t2.2.2.1,fL a,fL 5] fP λc=>dZ #[fL 0] 3 λd=>gX 12 [sv c,.slice (fH d) 1 1] fR λe=>cond e (gX 18 [fN t2.2.2.1,fL a,fL 5] fP λf=>gS [.bool ((f.2.1:Int)==(1:Int))]) (gS [.bool false])) (gS [.bool false])) (gS [.bool false])) λj=>iF (.bool j.1))
theorem Iy:Ab gP Tryz.f4 [] =Kd:=by kernel_rfl
noncomputable def Lc (small_0:Int×Int×Slc×Slc×Slc×Slc×Slc×Unit):T:=dZ #[.int .u8 small_0.1,.int .u8 small_0.2.1,sv small_0.2.2.1,sv small_0.2.2.2.1,sv small_0.2.2.2.2.1,sv small_0.2.2.2.2.2.1,sv small_0.2.2.2.2.2.2.1] 25 λr1=>dZ #[fM,fM,fM,fM,fM,fM] 32 λb=>eB r1 0 λt3=>eB r1 1 λt4=>dX r1 2 λt5=>dX r1 3 λt6=>dX r1 4 λt7=>dX r1 5 λt8=>dX r1 6 λt9=>gX 6 [.agg #[.int .u8 t3,.int .u8 t4,sv t5,sv t6,sv t7,sv t8,sv t9]] (.one (.agg [.slice,.slice,.slice,.slice,.slice,.slice])) λc=>dZ #[fM,fM,fM,fM,fM,fM] 32 λa=>eC a 0 c.1<|eC a 1 c.2.1<|eC a 2 c.2.2.1<|eC a 3 c.2.2.2.1<|eC a 4 c.2.2.2.2.1<|eC a 5 c.2.2.2.2.2.1<|L6 a λx y z A B C=>gX 7 [aH x y z A B C] (.tuple fU) λD=>cond (D.2.1 !=(0:Int)) (L6 a λE F G H I J=>eC b 0 E<|eC b 1 F<|eC b 2 G<|eC b 3 H<|eC b 4 I<|eC b 5 J<|L6 b λe f g h i j=>iF (.tuple #[aH e f g h i j,fN none,fN none,.bool false])) (L6 a λK L M N O P=>gX 36 [aH K L M N O P,fL 300,fL 9000] (.tuple [aP,aI]) λd=>iE fS (cond (iU d.1) (gS [.bool true]) (gX 11 [fN d.1] fQ λQ=>gS [.bool (Q==(0:Int))])) λR=>cond R.1 (L6 a λS U V W X Y=>eC b 0 S<|eC b 1 U<|eC b 2 V<|eC b 3 W<|eC b 4 X<|eC b 5 Y<|L6 b λk l m n o p=>iF (.tuple #[aH k l m n o p,fN none,fN none,.bool false])) (L6 a λZ a0 a1 a2 a3 a4=>gX 37 [aH Z a0 a1 a2 a3 a4,fN d.1] fO λw=>L6 a λa5 a6 a7 a8 a9 b0=>eC b 0 a5<|eC b 1 a6<|eC b 2 a7<|eC b 3 a8<|eC b 4 a9<|eC b 5 b0<|L6 b λq r s t u v=>iF (.tuple #[aH q r s t u v,fN d.1,fN w,.bool (!(iU w))])))
theorem Ji (small_0:Int×Int×Slc×Slc×Slc×Slc×Slc×Unit):Ab gP Tryz.f10 [(.agg #[(.int .u8 small_0.1),(.int .u8 small_0.2.1),(sv small_0.2.2.1),(sv small_0.2.2.2.1),(sv small_0.2.2.2.2.1),(sv small_0.2.2.2.2.2.1),(sv small_0.2.2.2.2.2.2.1)])] =Lc small_0:=by kernel_rfl
noncomputable def Ke:T:=dZ #[.int .u8 0,.int .u8 0,fM,fM,fM,fM,fM] 25 λr1=>dZ #[.int .u8 0,.int .u8 0,.int .u8 1,.int .u8 1,.int .u8 2] 5 λh=>dZ #[.int .u8 4,.int .u8 0,.int .u8 5] 5 λr3=>dZ #[.int .u8 5] 5 λi=>dZ #[.int .u8 1,.int .u8 5] 5 λj=>dZ #[.int .u8 2] 5 λk=>dZ #[.int .u8 4] 5 λl=>dZ #[.slice (fH r3) 3 3,.slice (fH i) 1 1,.slice (fH j) 2 2,.slice (fH k) 1 1,.slice (fH l) 1 1] 22 λm=>eI r1 0 (.int .u8 2)<|eI r1 1 (.int .u8 2)<|eI r1 2 (.slice (fH h) 5 5)<|eI r1 3 (.slice (fH m) 5 5)<|eN r1 4<|eN r1 5<|eN r1 6<|eB r1 0 λg=>eB r1 1 λa=>dX r1 2 λb=>dX r1 3 λc=>dX r1 4 λd=>dX r1 5 λe=>dX r1 6 λf=>iF (.agg #[.int .u8 g,.int .u8 a,sv b,sv c,sv d,sv e,sv f])
theorem Iz:Ab gP Tryz.f20 [] =Ke:=by kernel_rfl
noncomputable def Re (r1 d:Nat) (a:Slc) (K:Int×Bool×Unit→T):T:=gZ 2 fT (iD fT [fL 0,.bool false] λc=>dX r1 2 λl=>cond (decide (c.1< (l.2.1:Int))) (dX r1 2 λg=>deref g.1 λm=>chk (0≤c.1∧c.1< (g.2.1:Nat))<|eH m c.1 3 λb=>L6 r1 λn o p q r s=>dX r1 2 λh=>deref h.1 λt=>chk (0≤c.1∧c.1< (h.2.1:Nat))<|eG t c.1 3 1 λu=>gX 52 [fN (fH d),aH n o p q r s,sv u] (.tuple fZ) λf=>dX d 1 λi=>deref i.1 λv=>chk (0≤(gO .i64 (b - (a.2.1:Int)))∧(gO .i64 (b - (a.2.1:Int))) < (i.2.1:Nat))<|dY v (gO .i64 (b - (a.2.1:Int))) 1 λw=>gX 53 [sv w,sv f.1] fR λx=>iE fS (cond c.2.1 (gS [.bool true]) (cond x (gS [.bool true]) (cond f.2.1 (dX d 0 λj=>deref j.1 λy=>chk (0≤(gO .i64 (b - (a.2.1:Int)))∧(gO .i64 (b - (a.2.1:Int))) < (j.2.1:Nat))<|fC y (gO .i64 (b - (a.2.1:Int))) 1 λz=>gS [.bool (!z)]) (gS [.bool false])))) λA=>iE [] (dX d 0 λe=>dX d 0 λk=>deref k.1 λB=>chk (0≤(gO .i64 (b - (a.2.1:Int)))∧(gO .i64 (b - (a.2.1:Int))) < (k.2.1:Nat))<|fC B (gO .i64 (b - (a.2.1:Int))) 1 λC=>cond C (deref e.1 λD=>chk (0≤(gO .i64 (b - (a.2.1:Int)))∧(gO .i64 (b - (a.2.1:Int))) < (e.2.1:Nat))<|iV (D.add (gQ (gO .i64 (b - (a.2.1:Int))) *1)) (.bool true)<|gS []) (deref e.1 λE=>chk (0≤(gO .i64 (b - (a.2.1:Int)))∧(gO .i64 (b - (a.2.1:Int))) < (e.2.1:Nat))<|iV (E.add (gQ (gO .i64 (b - (a.2.1:Int))) *1)) (.bool f.2.1)<|gS [])) λF=>gS [fL (wN c.1),.bool A.1]) (iJ 2 [fL c.1,.bool c.2.1])) K
noncomputable def PV (r1 e:Nat) (d:Slc) (K:Int×Bool×Unit→T):T:=gZ 6 fT (iD fT [fL 0,.bool false] λc=>dX r1 2 λr=>cond (decide (c.1< (r.2.1:Int))) (dX r1 2 λi=>deref i.1 λs=>chk (0≤c.1∧c.1< (i.2.1:Nat))<|eG s c.1 3 1 λb=>gZ 8 fT (iD fT [fL 0,.bool c.2.1] λa=>cond (decide (a.1< (b.2.1:Int))) (gZ 9 fS (deref b.1 λt=>chk (0≤a.1∧a.1< (b.2.1:Nat))<|eH t a.1 1 λu=>cond (decide (u< (d.2.1:Int))) (iJ 9 [.bool a.2.1]) (L6 r1 λv w y z A B=>chk (0≤(wN a.1)∧(wN a.1) ≤(b.2.1:Int)∧(b.2.1:Int) ≤(b.2.2:Nat))<|gX 52 [fN (fH e),aH v w y z A B,.slice (if b.2.2=gQ (wN a.1) then b.1 else iP (λx=>iY x (gQ (wN a.1) *1)) b.1) (gQ (b.2.1:Int) - gQ (wN a.1)) (b.2.2 - gQ (wN a.1))] (.tuple fZ) λj=>dX e 2 λk=>deref b.1 λC=>chk (0≤a.1∧a.1< (b.2.1:Nat))<|eH C a.1 1 λf=>deref k.1 λD=>chk (0≤(gO .i64 (f - (d.2.1:Int)))∧(gO .i64 (f - (d.2.1:Int))) < (k.2.1:Nat))<|dY D (gO .i64 (f - (d.2.1:Int))) 1 λE=>gX 53 [sv E,sv j.1] fR λl=>iE fS (cond a.2.1 (gS [.bool true]) (gS [.bool l])) λm=>iE [aB,aB] (cond j.2.1 (dX e 2 λn=>deref b.1 λF=>chk (0≤a.1∧a.1< (b.2.1:Nat))<|eH F a.1 1 λg=>deref n.1 λG=>chk (0≤(gO .i64 (g - (d.2.1:Int)))∧(gO .i64 (g - (d.2.1:Int))) < (n.2.1:Nat))<|dY G (gO .i64 (g - (d.2.1:Int))) 1 λH=>dX e 2 λo=>dX r1 2 λp=>deref p.1 λI=>chk (0≤c.1∧c.1< (p.2.1:Nat))<|eH I c.1 3 λh=>deref o.1 λJ=>chk (0≤(gO .i64 (h - (d.2.1:Int)))∧(gO .i64 (h - (d.2.1:Int))) < (o.2.1:Nat))<|dY J (gO .i64 (h - (d.2.1:Int))) 1 λL=>gX 53 [sv H,sv L] fR λq=>iE fS (cond m.1 (gS [.bool true]) (gS [.bool q])) λM=>gS [.bool M.1,.bool q]) (gS [.bool m.1,.bool l])) λN=>gS [.bool N.1])) λO=>gS [fL (wN a.1),.bool O.1]) (iJ 8 [fL a.1,.bool a.2.1])) λP=>gS [fL (wN c.1),.bool P.2.1]) (iJ 6 [fL c.1,.bool c.2.1])) K
noncomputable def Nt (r1 a:Nat):T:=dX r1 0 λc=>gZ 0 fS (iD fS [.bool true] λd=>cond d.1 (eL a 3 λh=>eM a 3 (wN h)<|Re r1 a c λi=>gS [.bool i.2.1]) (iJ 0 [.bool d.1])) λm=>dX a 2 λe=>dX r1 1 λb=>deref e.1 λj=>chk (0≤(b.2.1:Int)∧(b.2.1:Int) < (e.2.1:Nat))<|dY j (b.2.1:Int) 1 λf=>deref f.1 λk=>chk (0≤(0:Int)∧(0:Int) < (f.2.1:Nat))<|iV (k.add (gQ 0 *1)) (.bool true)<|gZ 4 fS (iD fS [.bool true] λg=>cond g.1 (PV r1 a c λl=>gS [.bool l.2.1]) (iJ 4 [.bool g.1])) λn=>iF (fN (fH a))
noncomputable def HS (p_0:Pl6):T:=dZ #[sv p_0.1,sv p_0.2.1,sv p_0.2.2.1,sv p_0.2.2.2.1,sv p_0.2.2.2.2.1,sv p_0.2.2.2.2.2.1] 32 λr1=>dX r1 1 λt2=>L6 r1 λt3 t4 t5 n o p=>L6 r1 λg a b c d e=>kW (iL (iW 68 (fL (gO .i64 ((t2.2.1:Int)+(1:Int)))) (fL (gO .i64 ((t2.2.1:Int)+(1:Int))))) fP λq=>S6 r1 g a b c d e<|S6 r1 t3 t4 t5 n o p<|gX 51 [aH t3 t4 t5 n o p] fP λr=>S6 r1 g a b c d e<|gX 51 [aH g a b c d e] fP λs=>dZ #[sv q,sv r,sv s,fL 0] 136 λt=>Nt r1 t) (gX 51 [aH t3 t4 t5 n o p] fP λf=>S6 r1 g a b c d e<|eR r1 1 t2<|kW (iL (iW 68 (fL (gO .i64 ((t2.2.1:Int)+(1:Int)))) (fL (gO .i64 ((t2.2.1:Int)+(1:Int))))) fP λh=>S6 r1 g a b c d e<|gX 51 [aH g a b c d e] fP λi=>dZ #[sv h,sv f,sv i,fL 0] 136 λj=>Nt r1 j) (gX 51 [aH g a b c d e] fP λk=>eR r1 1 t2<|iL (iW 68 (fL (gO .i64 ((t2.2.1:Int)+(1:Int)))) (fL (gO .i64 ((t2.2.1:Int)+(1:Int))))) fP λl=>dZ #[sv l,sv f,sv k,fL 0] 136 λm=>Nt r1 m))
theorem Ld (p_0:Pl6):Ab gP Tryz.f31 [(aG p_0)] =HS p_0:=by kernel_rfl
noncomputable def Le (c:gL) (a d:Nat):T:=gZ 0 fV (iD fV [fL 0,fM] λb=>fJ b.1 a (fI c a b.1 λe=>fC e b.1 1 λt4=>iE [aS] (cond t4 (dZ #[fL b.1] 3 λf=>iL (gR #[30,30] 30 #[sv b.2.1,.slice (fH f) 1 1]) fP λg=>gS [sv g]) (gS [sv b.2.1])) λh=>gS [fL (wN b.1),sv h.1]) (iJ 0 [fL b.1,sv b.2.1])) λi=>iF (sv i.2.1)
theorem Jj (a:gL) (b c:Nat):Ab gP Tryz.f40 [(.slice a b c)] =Le a b c:=by kernel_rfl
noncomputable def GD (p_0:Pl6):T:=dZ #[sv p_0.1,sv p_0.2.1,sv p_0.2.2.1,sv p_0.2.2.2.1,sv p_0.2.2.2.2.1,sv p_0.2.2.2.2.2.1] 32 λr1=>gZ 0 fV (iD fV [fL 0,fM] λa=>dX r1 1 λt4=>cond (decide (a.1≤(t4.2.1:Int))) (dX r1 0 λt5=>iL (iW 68 (fL (t5.2.1:Int)) (fL (t5.2.1:Int))) fP λb=>dZ #[sv b] 68 λc=>iL (gR #[93,93] 93 #[sv a.2.1,.slice (fH c) 1 1]) fP λd=>gS [fL (wN a.1),sv d]) (iJ 0 [fL a.1,sv a.2.1])) λe=>iF (sv e.2.1)
theorem I2 (p_0:Pl6):Ab gP Tryz.f51 [(aG p_0)] =GD p_0:=by kernel_rfl
noncomputable def EL (f_0:gL) (e:Pl6) (b:gL) (a g:Nat):T:=dZ #[sv e.1,sv e.2.1,sv e.2.2.1,sv e.2.2.2.1,sv e.2.2.2.2.1,sv e.2.2.2.2.2.1] 32 λr1=>dX r1 0 λt2=>iL (iW 68 (fL (t2.2.1:Int)) (fL (t2.2.1:Int))) fP λt3=>gZ 0 fX (iD fX [fL 0,.bool false,fM] λc=>cond (decide (c.1< ((a:Nat):Int))) (gZ 1 [aB,aS] (iE fS (deref b λy=>chk (0≤c.1∧c.1< (a:Nat))<|eH y c.1 1 λz=>cond (decide (z≥ 0)) (deref b λj=>chk (0≤c.1∧c.1< (a:Nat))<|eH j c.1 1 λk=>gS [.bool (decide (k< (t2.2.1:Int)))]) (gS [.bool false])) λA=>cond A.1 (deref b λl=>chk (0≤c.1∧c.1< (a:Nat))<|eH l c.1 1 λf=>deref t3.1 λm=>chk (0≤f∧f< (t3.2.1:Nat))<|iV (m.add (gQ f *1)) (.bool true)<|iF (.tuple #[sv t3,.bool false])) (deref b λn=>chk (0≤c.1∧c.1< (a:Nat))<|eH n c.1 1 λd=>iE fS (cond (decide ((gO .i64 (d - (t2.2.1:Int))) < 0)) (gS [.bool true]) (deref f_0 λo=>fD o λp=>gS [.bool (decide ((gO .i64 (d - (t2.2.1:Int))) ≥ (p.2.1:Int)))])) λq=>cond q.1 (iJ 1 [.bool c.2.1,sv c.2.2.1]) (deref f_0 λr=>eF r 1 λh=>deref h.1 λs=>chk (0≤(gO .i64 (d - (t2.2.1:Int)))∧(gO .i64 (d - (t2.2.1:Int))) < (h.2.1:Nat))<|dY s (gO .i64 (d - (t2.2.1:Int))) 1 λt=>gX 53 [sv t3,sv t] fR λB=>deref f_0 λu=>fD u λi=>deref i.1 λv=>chk (0≤(gO .i64 (d - (t2.2.1:Int)))∧(gO .i64 (d - (t2.2.1:Int))) < (i.2.1:Nat))<|fC v (gO .i64 (d - (t2.2.1:Int))) 1 λw=>cond (!w) (iF (.tuple #[sv t3,.bool false])) (gS [.bool c.2.1,sv c.2.2.1])))) λx=>gS [fL (wN c.1),.bool x.1,sv x.2.1]) (iJ 0 [fL c.1,.bool c.2.1,sv c.2.2.1])) λC=>iF (.tuple #[sv t3,.bool true])
theorem Dq (f_0:gL) (d:Pl6) (a:gL) (b c:Nat):Ab gP Tryz.f52 [(.pointer f_0),(aG d),(.slice a b c)] =EL f_0 d a b c:=by kernel_rfl
noncomputable def Gy (b:gL) (c f:Nat) (e:gL) (d g:Nat):T:=gZ 0 fT (iD fT [fL 0,.bool false] λa=>cond (decide (a.1< ((d:Nat):Int))) (iE fS (deref e λh=>chk (0≤a.1∧a.1< (d:Nat))<|fC h a.1 1 λt5=>cond t5 (deref b λi=>chk (0≤a.1∧a.1< (c:Nat))<|fC i a.1 1 λj=>gS [.bool (!j)]) (gS [.bool false])) λk=>iE fS (cond k.1 (deref b λl=>chk (0≤a.1∧a.1< (c:Nat))<|iV (l.add (gQ a.1 *1)) (.bool true)<|gS [.bool true]) (gS [.bool a.2.1])) λm=>gS [fL (wN a.1),.bool m.1]) (iJ 0 [fL a.1,.bool a.2.1])) λn=>iF (.bool n.2.1)
theorem EM (a:gL) (b c:Nat) (d:gL) (e f:Nat):Ab gP Tryz.f53 [(.slice a b c),(.slice d e f)] =Gy a b c d e f:=by kernel_rfl
section
variable {φ:AD}{h:AE}{F:List Chk}
theorem PW:QO gP 68 4 (.bool false):=⟨kY,⟨Tryz.t4,by kernel_rfl,rfl,⟨_,rfl,rfl⟩,by decide⟩⟩
noncomputable def Ba (p_0:Au):Option Int:=some (gO .i64 ((gO .i64 ((p_0.1.length:Int)+(p_0.2.1.length:Int)))+1))
theorem CN {p_0:Pl6}{d_p_0:Au}(b:JR φ p_0 d_p_0) (g:St φ (F) h) {r:Int}(hd:Ba d_p_0=some r):
 CallsH gP 26 [(aG p_0)] h (Ap λv h'=>∃ψ:AD,∃y:Int,Sub φ ψ∧v=fQ.val y∧y=r∧St ψ (F) h'):=by
 refine AY mixed Tryz.func26 (Ix ..) ?_;have c:p_0.1.2.1=iA d_p_0.1:=b.k0.length;have d:p_0.2.1.2.1=iA d_p_0.2.1:=b.k1.length;refine GK (t:=p_0) g λr1 f a=>AA a rfl<|AA a rfl ?_;obtain rfl:=iS hd;have e:=a.tail;exact AC ⟨φ,(gO .i64 ((gO .i64 ((p_0.1.2.1:Int)+(p_0.2.1.2.1:Int)))+(1:Int))),sb,rfl,(by rw[c,d]),e⟩
noncomputable def DN (p_0:Au):Option (List Bool):=(Ba p_0).bind λw=>(Dh w false).bind λx=>(forS (σ:=List Bool) 0 (p_0.1.length:Int) x λd p=>(DB p d true).bind λq=>some q).bind λr=>(loop (σ:=(Bool×List Bool)) (β:=List Bool) (true,r) λe=>cond e.1 ((forS (σ:=(Bool×List Bool)) 0 (p_0.2.2.1.length:Int) (false,e.2) λa b=>(loop (σ:=(Int×Bool)) (β:=Bool) (0,true) λc=>(idx p_0.2.2.1 a).bind λf=>cond (decide (c.1< (f.2.1.length:Int))) ((cond c.2 ((idx p_0.2.2.1 a).bind λg=>(idx g.2.1 c.1).bind λh=>(idx b.2 h).bind λi=>some i) (some false)).bind λs=>some (iH ((gO .i64 (c.1+1)),s))) (some (iG c.2))).bind λt=>(cond t ((idx p_0.2.2.1 a).bind λj=>(idx b.2 j.1).bind λk=>some (!k)) (some false)).bind λu=>(cond u ((idx p_0.2.2.1 a).bind λl=>(DB b.2 l.1 true).bind λm=>some (true,m)) (some (b.1,b.2))).bind λn=>some (n.1,n.2)).bind λo=>some (iH (o.1,o.2))) (some (iG e.2))).bind λv=>some v
theorem I4 {p_0:Pl6}{d_p_0:Au}(f:JR φ p_0 d_p_0) (X:St φ (F) h) {r:(List Bool)}(hd:DN d_p_0=some r):
 CallsH gP 24 [(aG p_0)] h (Ap λv h'=>∃ψ:AD,∃y:Slc,∃a0:List Bool,Sub φ ψ∧v=fP.val y∧a0=r∧Ro.SliceIs iC ψ y a0∧St ψ (F) h'):=by
 refine AY mixed Tryz.func24 (Iv ..) ?_;have J:p_0.1.2.1=iA d_p_0.1:=f.k0.length;have K:p_0.2.2.1.2.1=iA d_p_0.2.2.1:=f.k2.length;refine GK (t:=p_0) X λr1 dj L=>Bk (t:=p_0) L ?_;have⟨dk,Y,hd⟩:=bS hd;refine AK (CN f L Y) ?_;rintro _ dl ⟨M,Z,dm,rfl,rfl,b6⟩;refine⟨Z,rfl,?_⟩;have⟨b7,b8,hd⟩:=bS hd;refine Er (r:=iC) (x:=false) PW b6 rfl rfl b8 ?_;intro A dn b9;have⟨dp,ba,hd⟩:=bS hd;refine BM ba (λbb y w_ g=>∃ψ:AD,∃N:List Bool,Sub M ψ∧y.1=bb∧N=g∧St ψ (cR 4 iC A N::Wq2 r1 p_0::F) w_) ((0:Int),()) rfl ⟨M,b7,sb,rfl,rfl,b9.at1.at1⟩ ?_ ?_ ?_
 ·rintro _ C dq _ _ ⟨bd,dr,ds,rfl,rfl,o⟩ p dt bf bg;refine AA o.at1 rfl<|Ac (dT J bf) ?_;have⟨bi,O,p⟩:=bS p;have⟨du,P,bj⟩:=o.there O;refine AF _ P (Ah bj (Ef o O rfl P ?_));intro dv bl;obtain rfl:=iS p;exact AZ ((wN C.1),()) _ rfl rfl ⟨bd,bi,sb,bg,rfl,bl.at1.at1⟩
 ·rintro _ C dw ⟨bn,bp,dx,rfl,rfl,Q⟩ bq;refine AA Q.at1 rfl<|AU (dF J bq)<|AI (AL (C.1,()) rfl ⟨_,bn,bp,sb,rfl,rfl,Q.at1.at1⟩)
 rintro f0 dy ⟨_,q,bs,dz,_,rfl,bt⟩;have⟨bx,bz,hd⟩:=bS hd;refine Ag (λy w_ g=>∃ψ:AD,∃R:List Bool,Sub q ψ∧R=g∧St ψ (cR 4 iC A R::Wq2 r1 p_0::F) w_) (g:=bx) ?_ ?_
 ·refine CA bz (λy w_ g=>∃ψ:AD,∃ad:List Bool,Sub q ψ∧(y.1,ad)=g∧St ψ (cR 4 iC A ad::Wq2 r1 p_0::F) w_) (true,()) rfl ⟨q,bs,sb,rfl,bt.at1.at1⟩ ?_
  ·rintro E e0 _ _ ⟨s,al,e1,rfl,ap⟩ i c0;refine AH i rfl (λ_ i=> ?_) (λ_ i=> ?_)
   ·have c1:=ap.at1;have⟨e2,c2,i⟩:=bS i;refine BM c2 (λc3 y w_ g=>∃ψ:AD,∃ax:List Bool,Sub s ψ∧y.1=c3∧(y.2.1,ax)=g∧St ψ (cR 4 iC A ax::Wq2 r1 p_0::F) w_) ((0:Int),false,()) rfl ⟨s,al,sb,rfl,rfl,c1.at1⟩ ?_ ?_ ?_
    ·rintro _ B e3 _ _ ⟨u,k,e4,rfl,rfl,S⟩ j e5 c4 c5;refine AA S.at1 rfl<|Ac (dT K c4) ?_;have⟨c6,c7,j⟩:=bS j;refine Ag (λy w_ g=>∃ψ:AD,Sub u ψ∧y.2.1=g∧St ψ (cR 4 iC A k::Wq2 r1 p_0::F) w_) (g:=c6) ?_ ?_
     ·refine CA c7 (λy w_ g=>∃ψ:AD,Sub u ψ∧(y.1,y.2.1)=g∧St ψ (cR 4 iC A k::Wq2 r1 p_0::F) w_) ((0:Int),true,()) rfl ⟨u,sb,rfl,S.at1.at1⟩ ?_
      ·rintro D e6 _ _ ⟨n,e7,rfl,b⟩ c c8;refine AA b.at1 rfl<|ixR HX f.k2 c b λe8 e9 c9 c=> ?_;have ch:=c9.length;refine AH c (by rw[ch] <;>rfl) (λ_ c=> ?_) (λ_ c=> ?_)
       ·have⟨cl,a,c⟩:=bS c;refine Aa (λy w_ g=>∃ψ:AD,Sub n ψ∧y.1=g∧St ψ (cR 4 iC A k::Wq2 r1 p_0::F) w_) (g:=cl) ?_ ?_
        ·refine AH a rfl (λ_ a=> ?_) (λ_ a=> ?_)
         ·refine AA b.at1 rfl<|ixR HX f.k2 a b λea eb cm a=>gx cm a b λec a=>gxO b a λcp a=> ?_;obtain rfl:=iS a;exact AO (cp,()) rfl ⟨n,sb,rfl,b.at1.at1⟩
         obtain rfl:=iS a;exact AO (false,()) rfl ⟨n,sb,rfl,b.at1.at1⟩
        rintro G ed ⟨cs,ee,rfl,cw⟩;obtain rfl:=iS c;exact AZ ((wN D.1),G.1,()) _ rfl rfl ⟨cs,sb,rfl,cw.at1.at1⟩
       obtain rfl:=iS c;obtain rfl:=c8 _ rfl;exact AI (AL (D.1,D.2.1,()) rfl ⟨n,sb,rfl,b.at1.at1⟩)
     rintro f1 ef ⟨w,eg,rfl,l⟩;have⟨cx,d,j⟩:=bS j;refine Aa (λy w_ g=>∃ψ:AD,Sub w ψ∧y.1=g∧St ψ (cR 4 iC A k::Wq2 r1 p_0::F) w_) (g:=cx) ?_ ?_
     ·refine AH d rfl (λ_ d=> ?_) (λ_ d=> ?_)
      ·refine AA l.at1 rfl<|IS L8 f.k2 d l λeh d=>gxO l d λd0 d=> ?_;obtain rfl:=iS d;exact AO ((!d0),()) rfl ⟨w,sb,rfl,l.at1.at1⟩
      obtain rfl:=iS d;exact AO (false,()) rfl ⟨w,sb,rfl,l.at1.at1⟩
     rintro f2 ei ⟨z,ej,rfl,m⟩;have⟨d1,e,j⟩:=bS j;refine Aa (λy w_ g=>∃ψ:AD,∃T:List Bool,Sub z ψ∧(y.1,T)=g∧St ψ (cR 4 iC A T::Wq2 r1 p_0::F) w_) (g:=d1) ?_ ?_
     ·refine AH e rfl (λ_ e=> ?_) (λ_ e=> ?_)
      ·refine AA m.at1 rfl<|IS L8 f.k2 e m λek e=> ?_;have⟨d2,U,e⟩:=bS e;have⟨el,V,d3⟩:=m.there U;refine AF _ V (Ah d3 (Ef m U rfl V ?_));intro em d4;obtain rfl:=iS e;exact AO (true,()) rfl ⟨z,d2,sb,rfl,d4.at1.at1⟩
      obtain rfl:=iS e;exact AO (B.2.1,()) rfl ⟨z,k,sb,rfl,m.at1.at1⟩
     rintro H en ⟨d5,d6,eo,rfl,d7⟩;obtain rfl:=iS j;exact AZ ((wN B.1),H.1,()) _ rfl rfl ⟨d5,d6,sb,c5,rfl,d7.at1.at1⟩
    ·rintro _ B ep ⟨d8,d9,er,rfl,rfl,W⟩ da;refine AA W.at1 rfl<|AU (dF K da)<|AI (AL (B.1,B.2.1,()) rfl ⟨_,d8,d9,sb,rfl,rfl,W.at1.at1⟩)
    rintro I es ⟨_,db,dc,eu,_,rfl,dd⟩;obtain rfl:=iS i;exact AZ (I.2.1,()) _ rfl rfl ⟨db,dc,sb,rfl,dd.at1.at1⟩
   obtain rfl:=iS i;obtain rfl:=c0 _ rfl;exact AI (AL (E.1,()) rfl ⟨s,al,sb,rfl,ap.at1.at1⟩)
 rintro f3 ev ⟨ew,de,ex,rfl,df⟩;have⟨dg,ey,dh,di⟩:=hZ (t:=A) df;obtain rfl:=iS hd;exact AC ⟨dg,A,de,sb,rfl,rfl,dh,di.tail⟩
noncomputable def DW (p_0:Au):Option (List Bool):=(Ba p_0).bind λu=>(Dh u false).bind λv=>(Ba p_0).bind λo=>(DB v (gO .i64 (o - 1)) true).bind λp=>(loop (σ:=(Bool×List Bool)) (β:=List Bool) (true,p) λc=>cond c.1 ((forS (σ:=(Bool×List Bool)) 0 (p_0.2.2.1.length:Int) (false,c.2) λb d=>(loop (σ:=(Int×Bool×List Bool)) (β:=(Bool×List Bool)) (0,d.1,d.2) λa=>(idx p_0.2.2.1 b).bind λq=>cond (decide (a.1< (q.2.1.length:Int))) (((idx p_0.2.2.1 b).bind λr=>(idx a.2.2 r.1).bind λe=>cond e ((idx p_0.2.2.1 b).bind λf=>(idx f.2.1 a.1).bind λg=>(idx a.2.2 g).bind λh=>some (!h)) (some false)).bind λs=>(cond s ((idx p_0.2.2.1 b).bind λi=>(idx i.2.1 a.1).bind λj=>(DB a.2.2 j true).bind λk=>some (true,k)) (some (a.2.1,a.2.2))).bind λl=>some (iH ((gO .i64 (a.1+1)),l.1,l.2))) (some (iG (a.2.1,a.2.2)))).bind λm=>some (m.1,m.2)).bind λn=>some (iH (n.1,n.2))) (some (iG c.2))).bind λt=>some t
theorem Jk {p_0:Pl6}{d_p_0:Au}(e:JR φ p_0 d_p_0) (S:St φ (F) h) {r:(List Bool)}(hd:DW d_p_0=some r):
 CallsH gP 25 [(aG p_0)] h (Ap λv h'=>∃ψ:AD,∃y:Slc,∃q:List Bool,Sub φ ψ∧v=fP.val y∧q=r∧Ro.SliceIs iC ψ y q∧St ψ (F) h'):=by
 refine AY mixed Tryz.func25 (Jh ..) ?_;have s:p_0.2.2.1.2.1=iA d_p_0.2.2.1:=e.k2.length;refine GK (t:=p_0) S λr1 d4 u=>Bk (t:=p_0) u ?_;have⟨d5,T,hd⟩:=bS hd;refine AK (CN e u T) ?_;rintro _ d6 ⟨d7,U,d8,rfl,rfl,V⟩;refine⟨U,rfl,?_⟩;have⟨d9,W,hd⟩:=bS hd;refine Er (r:=iC) (x:=false) PW V rfl rfl W ?_;intro B da w;refine Bk (t:=p_0) w.at1 ?_;have⟨db,X,hd⟩:=bS hd;refine AK (CN e.up w X) ?_;rintro _ dc ⟨k,D,dd,rfl,rfl,z⟩;refine⟨D,rfl,?_⟩;have⟨Y,a0,hd⟩:=bS hd;have⟨de,J,Z⟩:=z.there a0;refine AF _ J (Ah Z (Ef z a0 rfl J ?_));intro df b6;have⟨b7,b8,hd⟩:=bS hd;refine Ag (λy w_ g=>∃ψ:AD,∃K:List Bool,Sub k ψ∧K=g∧St ψ (cR 4 iC B K::Wq2 r1 p_0::F) w_) (g:=b7) ?_ ?_
 ·refine CA b8 (λy w_ g=>∃ψ:AD,∃L:List Bool,Sub k ψ∧(y.1,L)=g∧St ψ (cR 4 iC B L::Wq2 r1 p_0::F) w_) (true,()) rfl ⟨k,Y,sb,rfl,b6.at1.at1⟩ ?_
  ·rintro E dg _ _ ⟨l,M,dh,rfl,N⟩ f b9;refine AH f rfl (λ_ f=> ?_) (λ_ f=> ?_)
   ·have ba:=N.at1;have⟨di,bb,f⟩:=bS f;refine BM bb (λbd y w_ g=>∃ψ:AD,∃O:List Bool,Sub l ψ∧y.1=bd∧(y.2.1,O)=g∧St ψ (cR 4 iC B O::Wq2 r1 p_0::F) w_) ((0:Int),false,()) rfl ⟨l,M,sb,rfl,rfl,ba.at1⟩ ?_ ?_ ?_
    ·rintro _ A dj _ _ ⟨m,bf,dk,rfl,rfl,P⟩ n dl bg bi;refine AA P.at1 rfl<|Ac (dT s bg) ?_;have⟨bj,bl,n⟩:=bS n;refine Ag (λy w_ g=>∃ψ:AD,∃Q:List Bool,Sub m ψ∧(y.2.1,Q)=g∧St ψ (cR 4 iC B Q::Wq2 r1 p_0::F) w_) (g:=bj) ?_ ?_
     ·refine CA bl (λy w_ g=>∃ψ:AD,∃R:List Bool,Sub m ψ∧(y.1,y.2.1,R)=g∧St ψ (cR 4 iC B R::Wq2 r1 p_0::F) w_) ((0:Int),A.2.1,()) rfl ⟨m,bf,sb,rfl,P.at1.at1⟩ ?_
      ·rintro C dm _ _ ⟨j,o,dn,rfl,b⟩ c bn;refine AA b.at1 rfl<|ixR HX e.k2 c b λdp dq bp c=> ?_;have bq:=bp.length;refine AH c (by rw[bq] <;>rfl) (λ_ c=> ?_) (λ_ c=> ?_)
       ·have⟨bs,a,c⟩:=bS c;refine Aa (λy w_ g=>∃ψ:AD,Sub j ψ∧y.1=g∧St ψ (cR 4 iC B o::Wq2 r1 p_0::F) w_) (g:=bs) ?_ ?_
        ·refine AA b.at1 rfl<|IS L8 e.k2 a b λdr a=>gxO b a λds a=>AH a rfl (λ_ a=> ?_) (λ_ a=> ?_)
         ·refine AA b.at1 rfl<|ixR HX e.k2 a b λdt du bt a=>gx bt a b λdv a=>gxO b a λbx a=> ?_;obtain rfl:=iS a;exact AO ((!bx),()) rfl ⟨j,sb,rfl,b.at1.at1⟩
         obtain rfl:=iS a;exact AO (false,()) rfl ⟨j,sb,rfl,b.at1.at1⟩
        rintro f0 dw ⟨p,dx,rfl,i⟩;have⟨bz,d,c⟩:=bS c;refine Aa (λy w_ g=>∃ψ:AD,∃ad:List Bool,Sub p ψ∧(y.1,ad)=g∧St ψ (cR 4 iC B ad::Wq2 r1 p_0::F) w_) (g:=bz) ?_ ?_
        ·refine AH d rfl (λ_ d=> ?_) (λ_ d=> ?_)
         ·refine AA i.at1 rfl<|ixR HX e.k2 d i λdy dz c0 d=>gx c0 d i λe0 d=> ?_;have⟨c1,al,d⟩:=bS d;have⟨e1,ap,c2⟩:=i.there al;refine AF _ ap (Ah c2 (Ef i al rfl ap ?_));intro e2 c3;obtain rfl:=iS d;exact AO (true,()) rfl ⟨p,c1,sb,rfl,c3.at1.at1⟩
         obtain rfl:=iS d;exact AO (C.2.1,()) rfl ⟨p,o,sb,rfl,i.at1.at1⟩
        rintro G e3 ⟨c4,c5,e4,rfl,c6⟩;obtain rfl:=iS c;exact AZ ((wN C.1),G.1,()) _ rfl rfl ⟨c4,c5,sb,rfl,c6.at1.at1⟩
       obtain rfl:=iS c;obtain rfl:=bn _ rfl;exact AI (AL (C.1,C.2.1,()) rfl ⟨j,o,sb,rfl,b.at1.at1⟩)
     rintro H e5 ⟨c7,c8,e6,rfl,c9⟩;obtain rfl:=iS n;exact AZ ((wN A.1),H.2.1,()) _ rfl rfl ⟨c7,c8,sb,bi,rfl,c9.at1.at1⟩
    ·rintro _ A e7 ⟨ch,cl,e8,rfl,rfl,ax⟩ cm;refine AA ax.at1 rfl<|AU (dF s cm)<|AI (AL (A.1,A.2.1,()) rfl ⟨_,ch,cl,sb,rfl,rfl,ax.at1.at1⟩)
    rintro I e9 ⟨_,cp,cs,ea,_,rfl,cw⟩;obtain rfl:=iS f;exact AZ (I.2.1,()) _ rfl rfl ⟨cp,cs,sb,rfl,cw.at1.at1⟩
   obtain rfl:=iS f;obtain rfl:=b9 _ rfl;exact AI (AL (E.1,()) rfl ⟨l,M,sb,rfl,N.at1.at1⟩)
 rintro f1 eb ⟨ec,cx,ed,rfl,d0⟩;have⟨d1,ee,d2,d3⟩:=hZ (t:=B) d0;obtain rfl:=iS hd;exact AC ⟨d1,B,cx,sb,rfl,rfl,d2,d3.tail⟩
noncomputable def CF (p_0:Au):Option (Int×Int):=
 (DN p_0).bind λl=>
 (DW p_0).bind λe=>
 (loop (σ:=Int) (β:=AW Unit (Int×Int)) (p_0.1.length:Int) λa=>
  (Ba p_0).bind λf=>
  cond (decide (a< (gO .i64 (f - 1))))
  ((idx l a).bind λg=>
   cond (!g)
   (some (iG (iG (a,18))))
   (some (iH (gO .i64 (a+1)))))
  (some (iG (iH ())))).bind λc=>match c with
 |.next m=>
  (loop (σ:=Int) (β:=AW Unit (Int×Int)) (p_0.1.length:Int) λb=>
   (Ba p_0).bind λh=>
   cond (decide (b< (gO .i64 (h - 1))))
   ((idx e b).bind λi=>
    cond (!i)
    (some (iG (iG (b,17))))
    (some (iH (gO .i64 (b+1)))))
   (some (iG (iH ())))).bind λd=>match d with
  |.next n=>
   some (0,0)
  |.done j=>some j
 |.done k=>some k
theorem FS {p_0:Pl6}{d_p_0:Au}(c:JR φ p_0 d_p_0) (H:St φ (F) h) {r:(Int×Int)}(hd:CF d_p_0=some r):
 CallsH gP 7 [(aG p_0)] h (Ap λv h'=>∃ψ:AD,∃y:Int×Int×Unit,Sub φ ψ∧v=((.tuple fU):Sh).val y∧(y.1,y.2.1)=r∧St ψ (F) h'):=by
 refine AY mixed Tryz.func7 (Iu ..) ?_;have l:p_0.1.2.1=iA d_p_0.1:=c.k0.length;refine GK (t:=p_0) H λr1 ad m=>Bk (t:=p_0) m ?_;have⟨al,x,hd⟩:=bS hd;refine AK (I4 c m x) ?_;rintro _ ap ⟨ax,I,T,U,rfl,rfl,z,n⟩;refine⟨I,rfl,?_⟩;refine Bk (t:=p_0) n ?_;have⟨V,a0,hd⟩:=bS hd;refine AK (Jk c.up n a0) ?_;rintro _ W ⟨f,D,X,Y,rfl,rfl,J,o⟩;refine⟨D,rfl,?_⟩;refine AA o rfl ?_;have⟨K,L,hd⟩:=bS hd;refine Ag (λy w_ g=>∃ψ:AD,Sub f ψ∧iH ()=g∧St ψ (Wq2 r1 p_0::F) w_) (g:=K) ?_ ?_
 ·refine CA L (λy w_ g=>∃ψ:AD,Sub f ψ∧y.1=g∧St ψ (Wq2 r1 p_0::F) w_) ((p_0.1.2.1:Int),(0:Int),(0:Int),()) rfl ⟨f,sb,(by rw[l]),o⟩ ?_
  ·rintro A Z _ _ ⟨b7,b8,rfl,p⟩ a q;refine Bk (t:=p_0) p ?_;have⟨b9,M,a⟩:=bS a;refine AK (CN c.up p M) ?_;rintro _ ba ⟨i,E,bb,rfl,rfl,d⟩;refine⟨E,rfl,?_⟩;refine AH a rfl (λ_ a=> ?_) (λ_ a=> ?_)
   ·refine gx z a d λbd a=>AH a rfl (λ_ a=> ?_) (λ_ a=> ?_)
    ·obtain rfl:=iS a;obtain rfl:=q _ rfl;obtain rfl:=iS hd;exact Aj (Al (AC ⟨i,(A.1,(18:Int),()),sb,rfl,rfl,d.tail⟩))
    obtain rfl:=iS a;exact AZ ((wN A.1),A.2.1,A.2.2.1,()) _ rfl rfl ⟨i,sb,rfl,d⟩
   obtain rfl:=iS a;obtain rfl:=q _ rfl;exact AI (AL (A.1,A.2.1,A.2.2.1,()) rfl ⟨i,sb,rfl,d⟩)
 rintro C bf ⟨j,bg,rfl,s⟩;refine AA s rfl ?_;have⟨N,O,hd⟩:=bS hd;refine Ag (λy w_ g=>∃ψ:AD,Sub j ψ∧iH ()=g∧St ψ (Wq2 r1 p_0::F) w_) (g:=N) ?_ ?_
 ·refine CA O (λy w_ g=>∃ψ:AD,Sub j ψ∧y.1=g∧St ψ (Wq2 r1 p_0::F) w_) ((p_0.1.2.1:Int),C.2.1,C.2.2.1,()) rfl ⟨j,sb,(by rw[l]),s⟩ ?_
  ·rintro B bi _ _ ⟨bj,bl,rfl,u⟩ b w;refine Bk (t:=p_0) u ?_;have⟨bn,P,b⟩:=bS b;refine AK (CN c.up u P) ?_;rintro _ bp ⟨k,G,bq,rfl,rfl,e⟩;refine⟨G,rfl,?_⟩;refine AH b rfl (λ_ b=> ?_) (λ_ b=> ?_)
   ·refine gx J b e λbs b=>AH b rfl (λ_ b=> ?_) (λ_ b=> ?_)
    ·obtain rfl:=iS b;obtain rfl:=w _ rfl;obtain rfl:=iS hd;exact Aj (Al (AC ⟨k,(B.1,(17:Int),()),sb,rfl,rfl,e.tail⟩))
    obtain rfl:=iS b;exact AZ ((wN B.1),B.2.1,B.2.2.1,()) _ rfl rfl ⟨k,sb,rfl,e⟩
   obtain rfl:=iS b;obtain rfl:=w _ rfl;exact AI (AL (B.1,B.2.1,B.2.2.1,()) rfl ⟨k,sb,rfl,e⟩)
 rintro Q bt ⟨R,bx,rfl,S⟩;obtain rfl:=iS hd;exact AC ⟨R,((0:Int),(0:Int),()),sb,rfl,rfl,S.tail⟩
noncomputable def Be (b:gM) (c:gM):Option Bool:=
 cond ((b.length:Int) !=(c.length:Int))
 (some false)
 ((DE (σ:=Unit) (β:=Bool) 0 (b.length:Int) () λa h=>
  (idx b a).bind λe=>
  (idx c a).bind λf=>
  cond (e !=f)
  (some (iG false))
  (some (iH ()))).bind λd=>match d with
  |.next i=>
   some true
  |.done g=>some g)
theorem C3 {A:Slc}{c:gM}{B:Slc}{d:gM}(f:Ro.SliceIs (gT .i64) φ A c) (i:Ro.SliceIs (gT .i64) φ B d) (D:St φ (F) h) {r:Bool}(hd:Be c d=some r):
 CallsH gP 12 [(sv A),(sv B)] h (Ap λv h'=>∃ψ:AD,∃y:Bool,Sub φ ψ∧v=fR.val y∧y=r∧St ψ (F) h'):=by
 refine AY mixed Tryz.func12 (Jg ..) ?_;have e:A.2.1=iA c:=f.length;have k:B.2.1=iA d:=i.length;refine AH hd (by rw[e,k] <;>rfl) (λ_ hd=> ?_) (λ_ hd=> ?_)
 ·obtain rfl:=iS hd;exact AC ⟨φ,false,sb,rfl,rfl,D⟩
 have⟨z,l,hd⟩:=bS hd;refine BZ l (λm y w_ g=>∃ψ:AD,Sub φ ψ∧y.1=m∧()=g∧St ψ (F) w_) ((0:Int),false,()) rfl ⟨φ,sb,rfl,rfl,D⟩ ?_ ?_ ?_
 ·rintro _ C a0 _ _ ⟨j,E,rfl,rfl,b⟩ a G n o p;refine Ac (dT e n)<|gx f a b λH a=>gx i a b λI a=>AH a rfl (λ_ a=> ?_) (λ_ a=> ?_)
  ·obtain rfl:=iS a;obtain rfl:=p _ rfl;obtain rfl:=iS hd;exact Aj (Al (AC ⟨j,false,sb,rfl,rfl,b⟩))
  obtain rfl:=iS a;exact AZ ((wN C.1),C.2.1,()) _ rfl rfl ⟨j,sb,o,rfl,b⟩
 ·rintro _ C J _ ⟨q,K,rfl,rfl,s⟩ t u;subst u;refine AU (dF e t)<|AI (AL (C.1,C.2.1,()) rfl ⟨_,rfl,_,q,sb,rfl,rfl,s⟩)
 rintro L M ⟨_,rfl,_,w,N,_,rfl,x⟩;obtain rfl:=iS hd;exact AC ⟨w,true,sb,rfl,rfl,x⟩
noncomputable def Ar (d:List Bool) (b:List Bool):Option (Bool×List Bool):=(forS (σ:=(Bool×List Bool)) 0 (b.length:Int) (false,d) λa c=>((idx b a).bind λe=>cond e ((idx c.2 a).bind λf=>some (!f)) (some false)).bind λj=>(cond j ((DB c.2 a true).bind λg=>some (true,g)) (some (c.1,c.2))).bind λh=>some (h.1,h.2)).bind λi=>some (i.1,i.2)
theorem IE {A:Slc}{e:List Bool}{B:Slc}{f:List Bool}(l:Ro.SliceIs iC φ B f) (D:St φ (cR 4 iC A e::F) h) {r:(Bool×List Bool)}(hd:Ar e f=some r):
 CallsH gP 53 [(sv A),(sv B)] h (Ap λv h'=>∃ψ:AD,∃y:Bool,∃m:List Bool,Sub φ ψ∧v=fR.val y∧(y,m)=r∧St ψ (cR 4 iC A m::F) h'):=by
 refine AY mixed Tryz.func53 (EM ..) ?_;have n:B.2.1=iA f:=l.length;have⟨S,u,hd⟩:=bS hd;refine BM u (λw y w_ g=>∃ψ:AD,∃o:List Bool,Sub φ ψ∧y.1=w∧(y.2.1,o)=g∧St ψ (cR 4 iC A o::F) w_) ((0:Int),false,()) rfl ⟨φ,e,sb,rfl,rfl,D⟩ ?_ ?_ ?_
 ·rintro _ C T _ _ ⟨i,p,U,rfl,rfl,d⟩ c V x z;refine Ac (dT n x) ?_;have⟨a0,a,c⟩:=bS c;refine Aa (λy w_ g=>∃ψ:AD,Sub i ψ∧y.1=g∧St ψ (cR 4 iC A p::F) w_) (g:=a0) ?_ ?_
  ·refine gx l a d λW a=>AH a rfl (λ_ a=> ?_) (λ_ a=> ?_)
   ·refine gxO d a λE a=> ?_;obtain rfl:=iS a;exact AO ((!E),()) rfl ⟨i,sb,rfl,d⟩
   obtain rfl:=iS a;exact AO (false,()) rfl ⟨i,sb,rfl,d⟩
  rintro X Y ⟨j,Z,rfl,k⟩;have⟨G,b,c⟩:=bS c;refine Aa (λy w_ g=>∃ψ:AD,∃q:List Bool,Sub j ψ∧(y.1,q)=g∧St ψ (cR 4 iC A q::F) w_) (g:=G) ?_ ?_
  ·refine AH b rfl (λ_ b=> ?_) (λ_ b=> ?_)
   ·have⟨H,s,b⟩:=bS b;have⟨b9,t,I⟩:=k.there s;refine AF _ t (Ah I (Ef k s rfl t ?_));intro ba J;obtain rfl:=iS b;exact AO (true,()) rfl ⟨j,H,sb,rfl,J⟩
   obtain rfl:=iS b;exact AO (C.2.1,()) rfl ⟨j,p,sb,rfl,k⟩
  rintro K bb ⟨L,M,bd,rfl,N⟩;obtain rfl:=iS c;exact AZ ((wN C.1),K.1,()) _ rfl rfl ⟨L,M,sb,z,rfl,N⟩
 ·rintro _ C bf ⟨O,ad,bg,rfl,rfl,al⟩ ap;refine AU (dF n ap)<|AI (AL (C.1,C.2.1,()) rfl ⟨_,O,ad,sb,rfl,rfl,al⟩)
 rintro P bi ⟨_,ax,Q,bj,_,rfl,R⟩;obtain rfl:=iS hd;exact AC ⟨ax,P.2.1,Q,sb,rfl,rfl,R⟩
theorem CZ {B:Slc}{f:List Bool}{A:Slc}{b:List Bool}(D:St φ (cR 4 iC B f::cR 4 iC A b::F) h) {r:(Bool×List Bool)}(hd:Ar f b=some r):
 CallsH gP 53 [(sv B),(sv A)] h (Ap λv h'=>∃ψ:AD,∃y:Bool,∃l:List Bool,Sub φ ψ∧v=fR.val y∧(y,l)=r∧St ψ (cR 4 iC A b::cR 4 iC B l::F) h'):=by
 refine AY mixed Tryz.func53 (EM ..) ?_;have m:A.2.1=iA b:=(D.at1).rowLen;have⟨R,t,hd⟩:=bS hd;refine BM t (λu y w_ g=>∃ψ:AD,∃n:List Bool,Sub φ ψ∧y.1=u∧(y.2.1,n)=g∧St ψ (cR 4 iC B n::cR 4 iC A b::F) w_) ((0:Int),false,()) rfl ⟨φ,f,sb,rfl,rfl,D.at1.at1⟩ ?_ ?_ ?_
 ·rintro _ C S _ _ ⟨i,o,T,rfl,rfl,e⟩ d U w x;refine Ac (dT m w) ?_;have⟨z,a,d⟩:=bS d;refine Aa (λy w_ g=>∃ψ:AD,Sub i ψ∧y.1=g∧St ψ (cR 4 iC B o::cR 4 iC A b::F) w_) (g:=z) ?_ ?_
  ·refine gxO e.at1 a λV a=>AH a rfl (λ_ a=> ?_) (λ_ a=> ?_)
   ·refine gxO e a λa0 a=> ?_;obtain rfl:=iS a;exact AO ((!a0),()) rfl ⟨i,sb,rfl,e.at1.at1⟩
   obtain rfl:=iS a;exact AO (false,()) rfl ⟨i,sb,rfl,e.at1.at1⟩
  rintro W X ⟨j,Y,rfl,k⟩;have⟨E,c,d⟩:=bS d;refine Aa (λy w_ g=>∃ψ:AD,∃p:List Bool,Sub j ψ∧(y.1,p)=g∧St ψ (cR 4 iC B p::cR 4 iC A b::F) w_) (g:=E) ?_ ?_
  ·refine AH c rfl (λ_ c=> ?_) (λ_ c=> ?_)
   ·have⟨G,q,c⟩:=bS c;have⟨Z,s,H⟩:=k.there q;refine AF _ s (Ah H (Ef k q rfl s ?_));intro b9 I;obtain rfl:=iS c;exact AO (true,()) rfl ⟨j,G,sb,rfl,I.at1.at1⟩
   obtain rfl:=iS c;exact AO (C.2.1,()) rfl ⟨j,o,sb,rfl,k.at1.at1⟩
  rintro J ba ⟨K,L,bb,rfl,M⟩;obtain rfl:=iS d;exact AZ ((wN C.1),J.1,()) _ rfl rfl ⟨K,L,sb,x,rfl,M.at1.at1⟩
 ·rintro _ C bd ⟨N,O,bf,rfl,rfl,ad⟩ al;refine AU (dF m al)<|AI (AL (C.1,C.2.1,()) rfl ⟨_,N,O,sb,rfl,rfl,ad.at1.at1⟩)
 rintro P bg ⟨_,ap,ax,bi,_,rfl,Q⟩;obtain rfl:=iS hd;exact AC ⟨ap,P.2.1,ax,sb,rfl,rfl,Q.at1⟩
noncomputable def Ce (p_0:Au):Option (List (List Bool)):=(loop (σ:=(Int×List (List Bool))) (β:=List (List Bool)) (0,([]:List (List Bool))) λa=>cond (decide (a.1≤(p_0.2.1.length:Int))) ((Dh (p_0.1.length:Int) false).bind λb=>(app a.2 ([b]:List (List Bool))).bind λc=>some (iH ((gO .i64 (a.1+1)),c))) (some (iG a.2))).bind λd=>some d
noncomputable def DX (b:List Bool):Option gM:=(forS (σ:=gM) 0 (b.length:Int) ([]:gM) λa d=>(idx b a).bind λc=>(cond c ((app d ([a]:gM)).bind λe=>some e) (some d)).bind λf=>some f).bind λg=>some g
theorem Jl {A:Slc}{d:List Bool}(i:Ro.SliceIs iC φ A d) (D:St φ (F) h) {r:gM}(hd:DX d=some r):
 CallsH gP 40 [(sv A)] h (Ap λv h'=>∃ψ:AD,∃y:Slc,∃j:gM,Sub φ ψ∧v=fP.val y∧j=r∧Ro.SliceIs (gT .i64) ψ y j∧St ψ (F) h'):=by
 refine AY mixed Tryz.func40 (Jj ..) ?_;have k:A.2.1=iA d:=i.length;have⟨ax,o,hd⟩:=bS hd;refine BM o (λp y w_ g=>∃ψ:AD,∃l:gM,Sub φ ψ∧y.1=p∧l=g∧St ψ (cR 3 (gT .i64) y.2.1 l::F) w_) ((0:Int),((none,0,0):Slc),()) rfl ⟨φ,[],sb,rfl,rfl,(D.nil 3 (gT .i64))⟩ ?_ ?_ ?_
 ·rintro _ B Q _ _ ⟨e,q,R,rfl,rfl,f⟩ c S s u;refine Ac (dT k s)<|gx i c f λT c=> ?_;have⟨w,b,c⟩:=bS c;refine Aa (λy w_ g=>∃ψ:AD,∃m:gM,Sub e ψ∧m=g∧St ψ (cR 3 (gT .i64) y.1 m::F) w_) (g:=w) ?_ ?_
  ·refine AH b rfl (λ_ b=> ?_) (λ_ b=> ?_)
   ·refine AV (vs:=[.int .i64 B.1]) f λU V n=> ?_;have⟨x,z,b⟩:=bS b;refine AX (r:=(gT .i64)) (ms:=([B.1]:gM)) B0 n.tail rfl (iO n) (.cons (a:=[_]) rfl .nil) rfl z ?_;intro E W a0;obtain rfl:=iS b;exact AO (E,()) rfl ⟨e,x,sb,rfl,a0⟩
   obtain rfl:=iS b;exact AO (B.2.1,()) rfl ⟨e,q,sb,rfl,f⟩
  rintro G X ⟨H,I,Y,rfl,J⟩;obtain rfl:=iS c;exact AZ ((wN B.1),G.1,()) _ rfl rfl ⟨H,I,sb,u,rfl,J⟩
 ·rintro _ B Z ⟨K,L,b9,rfl,rfl,M⟩ N;refine AU (dF k N)<|AI (AL (B.1,B.2.1,()) rfl ⟨_,K,L,sb,rfl,rfl,M⟩)
 rintro C ba ⟨_,bb,O,bd,_,rfl,P⟩;have⟨ad,bf,al,ap⟩:=hZ (t:=C.2.1) P;obtain rfl:=iS hd;exact AC ⟨ad,C.2.1,O,sb,rfl,rfl,al,ap⟩
noncomputable def GE:Option (Int×Int×gM×List gM×gM×gM×gM):=some (2,2,([(0:Int),0,1,1,2]:gM),([([(4:Int),0,5]:gM),([(5:Int)]:gM),([(1:Int),5]:gM),([(2:Int)]:gM),([(4:Int)]:gM)]:List gM),([]:gM),([]:gM),([]:gM))
theorem I5 (H:St φ (F) h) {r:(Int×Int×gM×List gM×gM×gM×gM)}(hd:GE=some r):
 CallsH gP 20 [] h (Ap λv h'=>∃ψ:AD,∃y:Int×Int×Slc×Slc×Slc×Slc×Slc×Unit,∃d:gM,∃e:List gM,∃f:gM,∃g:gM,∃i:gM,Sub φ ψ∧v=((.one (.agg [(.int .u8),(.int .u8),.slice,.slice,.slice,.slice,.slice])):Sh).val y∧(y.1,y.2.1,d,e,f,g,i)=r∧Ro.SliceIs (gT .u8) ψ y.2.2.1 d∧Ro.SliceIs (hQ (gT .u8)) ψ y.2.2.2.1 e∧Ro.SliceIs (gT .u8) ψ y.2.2.2.2.1 f∧Ro.SliceIs (gT .u8) ψ y.2.2.2.2.2.1 g∧Ro.SliceIs (gT .u8) ψ y.2.2.2.2.2.2.1 i∧St ψ (F) h'):=by
 refine AY mixed Tryz.func20 (Iz ..)<|AV (vs:=[.int .u8 (0:Int),.int .u8 (0:Int),.slice none 0 0,.slice none 0 0,.slice none 0 0,.slice none 0 0,.slice none 0 0]) H λr1 bb j=>AV (vs:=[.int .u8 (0:Int),.int .u8 (0:Int),.int .u8 (1:Int),.int .u8 (1:Int),.int .u8 (2:Int)]) j λA bd k=>AV (vs:=[.int .u8 (4:Int),.int .u8 (0:Int),.int .u8 (5:Int)]) k λr3 bf m=>AV (vs:=[.int .u8 (5:Int)]) m λB bg o=>AV (vs:=[.int .u8 (1:Int),.int .u8 (5:Int)]) o λC bi p=>AV (vs:=[.int .u8 (2:Int)]) p λD bj q=>AV (vs:=[.int .u8 (4:Int)]) q λE bl s=>AV (vs:=[.slice (fH r3) 3 3,.slice (fH B) 1 1,.slice (fH C) 2 2,.slice (fH D) 1 1,.slice (fH E) 1 1]) s λG bn u=>AQ u.at7 rfl rfl λbp w=>AQ w rfl rfl λbq z=>AQ z rfl rfl λbs a0=>AQ a0 rfl rfl λbt I=>AQ I rfl rfl λbx J=>AQ J rfl rfl λbz K=>AQ K rfl rfl λc0 b=>AA (x:=(2:Int)) b rfl<|AA (x:=(2:Int)) b rfl<|AA (x:=((some ⟨A,0,none⟩,5,5):Slc)) b rfl<|AA (x:=((some ⟨G,0,none⟩,5,5):Slc)) b rfl<|AA (x:=((none,0,0):Slc)) b rfl<|AA (x:=((none,0,0):Slc)) b rfl<|AA (x:=((none,0,0):Slc)) b rfl ?_;have L:=jV (r:=(gT .u8)) (l:=([(0:Int),(0:Int),(1:Int),(1:Int),(2:Int)]:gM)) (n:=5) b.at7 (.cons (a:=[_]) rfl (.cons (a:=[_]) rfl (.cons (a:=[_]) rfl (.cons (a:=[_]) rfl (.cons (a:=[_]) rfl .nil))))) rfl (by decide);have⟨c1,c2,M,N⟩:=hZ (t:=((some ⟨A,0,none⟩,5,5):Slc)) L;have O:=jV (r:=(gT .u8)) (l:=([(4:Int),(0:Int),(5:Int)]:gM)) (n:=3) N.at6 (.cons (a:=[_]) rfl (.cons (a:=[_]) rfl (.cons (a:=[_]) rfl .nil))) rfl (by decide);have⟨c3,c4,P,Q⟩:=hZ (t:=((some ⟨r3,0,none⟩,3,3):Slc)) O;have ad:=jV (r:=(gT .u8)) (l:=([(5:Int)]:gM)) (n:=1) Q.at5 (.cons (a:=[_]) rfl .nil) rfl (by decide);have⟨c5,c6,al,ap⟩:=hZ (t:=((some ⟨B,0,none⟩,1,1):Slc)) ad;have ax:=jV (r:=(gT .u8)) (l:=([(1:Int),(5:Int)]:gM)) (n:=2) ap.at4 (.cons (a:=[_]) rfl (.cons (a:=[_]) rfl .nil)) rfl (by decide);have⟨c7,c8,R,S⟩:=hZ (t:=((some ⟨C,0,none⟩,2,2):Slc)) ax;have T:=jV (r:=(gT .u8)) (l:=([(2:Int)]:gM)) (n:=1) S.at3 (.cons (a:=[_]) rfl .nil) rfl (by decide);have⟨c9,ch,U,V⟩:=hZ (t:=((some ⟨D,0,none⟩,1,1):Slc)) T;have W:=jV (r:=(gT .u8)) (l:=([(4:Int)]:gM)) (n:=1) V.at2 (.cons (a:=[_]) rfl .nil) rfl (by decide);have⟨cl,cm,X,Y⟩:=hZ (t:=((some ⟨E,0,none⟩,1,1):Slc)) W;have Z:=jV (r:=(hQ (gT .u8))) (l:=([([(4:Int),(0:Int),(5:Int)]:gM),([(5:Int)]:gM),([(1:Int),(5:Int)]:gM),([(2:Int)]:gM),([(4:Int)]:gM)]:List gM)) (n:=5) Y.at1 (.cons (a:=[_]) ⟨((some ⟨r3,0,none⟩,3,3):Slc),rfl,P.up⟩ (.cons (a:=[_]) ⟨((some ⟨B,0,none⟩,1,1):Slc),rfl,al.up⟩ (.cons (a:=[_]) ⟨((some ⟨C,0,none⟩,2,2):Slc),rfl,R.up⟩ (.cons (a:=[_]) ⟨((some ⟨D,0,none⟩,1,1):Slc),rfl,U.up⟩ (.cons (a:=[_]) ⟨((some ⟨E,0,none⟩,1,1):Slc),rfl,X⟩ .nil))))) rfl (by decide);have⟨c,cp,b9,ba⟩:=hZ (t:=((some ⟨G,0,none⟩,5,5):Slc)) Z;obtain rfl:=iS hd;exact AC ⟨c,((2:Int),(2:Int),((some ⟨A,0,none⟩,5,5):Slc),((some ⟨G,0,none⟩,5,5):Slc),((none,0,0):Slc),((none,0,0):Slc),((none,0,0):Slc),()),([(0:Int),(0:Int),(1:Int),(1:Int),(2:Int)]:gM),([([(4:Int),(0:Int),(5:Int)]:gM),([(5:Int)]:gM),([(1:Int),(5:Int)]:gM),([(2:Int)]:gM),([(4:Int)]:gM)]:List gM),[],[],[],sb,rfl,rfl,M.up,b9,(jP (gT .u8) c),(jP (gT .u8) c),(jP (gT .u8) c),ba.tail⟩
noncomputable def Cq (small_0:NT):Option (List gN×List gN×List Ax×gM×gM×List gN×Option EC×(Option LkD)×Bool):=(Bb (small_0.1,small_0.2.1,small_0.2.2.1,small_0.2.2.2.1,small_0.2.2.2.2.1,small_0.2.2.2.2.2.1,small_0.2.2.2.2.2.2)).bind λa=>(CF (a.1,a.2.1,a.2.2.1,a.2.2.2.1,a.2.2.2.2.1,a.2.2.2.2.2)).bind λf=>cond (f.2 !=0) (some (a.1,a.2.1,a.2.2.1,a.2.2.2.1,a.2.2.2.2.1,a.2.2.2.2.2,none,none,false)) ((PH (a.1,a.2.1,a.2.2.1,a.2.2.2.1,a.2.2.2.2.1,a.2.2.2.2.2) 300 9000).bind λc=>(cond (iU c.1) (some true) (c.1.bind λd=>(B5 d).bind λg=>some (g==0))).bind λh=>cond h (some (a.1,a.2.1,a.2.2.1,a.2.2.2.1,a.2.2.2.2.1,a.2.2.2.2.2,none,none,false)) (c.1.bind λb=>(U9 (a.1,a.2.1,a.2.2.1,a.2.2.2.1,a.2.2.2.2.1,a.2.2.2.2.2) b).bind λe=>some (a.1,a.2.1,a.2.2.1,a.2.2.2.1,a.2.2.2.2.1,a.2.2.2.2.2,(some b),e,(!(iU e)))))
theorem Fb {small_0:Int×Int×Slc×Slc×Slc×Slc×Slc×Unit}{a0:gM}{H:List gM}{I:gM}{J:gM}{K:gM}(gk:OF φ) (X:Ro.SliceIs (gT .u8) φ small_0.2.2.1 a0) (Y:Ro.SliceIs (hQ (gT .u8)) φ small_0.2.2.2.1 H) (Z:Ro.SliceIs (gT .u8) φ small_0.2.2.2.2.1 I) (ba:Ro.SliceIs (gT .u8) φ small_0.2.2.2.2.2.1 J) (bb:Ro.SliceIs (gT .u8) φ small_0.2.2.2.2.2.2.1 K) (s0:St φ (F) h) {r:(List gN×List gN×List Ax×gM×gM×List gN×Option EC×(Option LkD)×Bool)}(hd:Cq (small_0.1,small_0.2.1,a0,H,I,J,K)=some r):
 CallsH gP 10 [(.agg #[(.int .u8 small_0.1),(.int .u8 small_0.2.1),(sv small_0.2.2.1),(sv small_0.2.2.2.1),(sv small_0.2.2.2.2.1),(sv small_0.2.2.2.2.2.1),(sv small_0.2.2.2.2.2.2.1)])] h (Ap λv h'=>∃ψ:AD,∃y:(Pl6)×gL×gL×Bool×Unit,∃L:List gN,∃M:List gN,∃N:List Ax,∃O:gM,∃P:gM,∃ad:List gN,∃al:Option EC,∃ap:(Option LkD),Sub φ ψ∧v=((.tuple [(.agg [.slice,.slice,.slice,.slice,.slice,.slice]),aP,aP,aB]):Sh).val y∧(L,M,N,O,P,ad,al,ap,y.2.2.2.1)=r∧Ro.SliceIs iX ψ y.1.1 L∧Ro.SliceIs iX ψ y.1.2.1 M∧Ro.SliceIs CI ψ y.1.2.2.1 N∧Ro.SliceIs (gT .i64) ψ y.1.2.2.2.1 O∧Ro.SliceIs (gT .i64) ψ y.1.2.2.2.2.1 P∧Ro.SliceIs iX ψ y.1.2.2.2.2.2.1 ad∧Np Fy ψ y.2.1 al∧St ψ (⟨E9,[.pointer y.2.2.1],ap⟩::F) h'):=by
 refine AY mixed Tryz.func10 (Ji ..)<|AV (vs:=[.int .u8 small_0.1,.int .u8 small_0.2.1,sv small_0.2.2.1,sv small_0.2.2.2.1,sv small_0.2.2.2.2.1,sv small_0.2.2.2.2.2.1,sv small_0.2.2.2.2.2.2.1]) s0 λr1 db bd=>AV (vs:=[.slice none 0 0,.slice none 0 0,.slice none 0 0,.slice none 0 0,.slice none 0 0,.slice none 0 0]) bd λr2 dc d=>AA d.at1 rfl<|AA d.at1 rfl<|AA d.at1 rfl<|AA d.at1 rfl<|AA d.at1 rfl<|AA d.at1 rfl<|AA d.at1 rfl ?_;have⟨dd,bf,hd⟩:=bS hd;refine AK (Dx (s_0:=(small_0.1,small_0.2.1,small_0.2.2.1,small_0.2.2.2.1,small_0.2.2.2.2.1,small_0.2.2.2.2.2.1,small_0.2.2.2.2.2.2.1,())) X Y Z ba bb d bf) ?_;rintro _ de ⟨df,A,m,n,o,p,q,s,dg,rfl,rfl,e,f,i,j,k,l,bg⟩;refine⟨A,rfl,?_⟩;refine AV (vs:=[.slice none 0 0,.slice none 0 0,.slice none 0 0,.slice none 0 0,.slice none 0 0,.slice none 0 0]) bg λE dh bi=>AQ bi rfl rfl λdi bj=>AQ bj rfl rfl λdj bl=>AQ bl rfl rfl λdk bn=>AQ bn rfl rfl λdl bp=>AQ bp rfl rfl λdm bq=>AQ bq rfl rfl λdn ax=>Bk (t:=A) ax ?_;have⟨dp,bs,hd⟩:=bS hd;refine AK (FS (p_0:=(A.1,A.2.1,A.2.2.1,A.2.2.2.1,A.2.2.2.2.1,A.2.2.2.2.2.1,())) (d_p_0:=(m,n,o,p,q,s)) ⟨e,f,i,j,k,l⟩ ax bs) ?_;rintro _ dq ⟨bt,G,dr,rfl,rfl,u⟩;refine⟨G,rfl,?_⟩;refine AH hd rfl (λ_ hd=> ?_) (λ_ hd=> ?_)
 ·refine Bk (t:=A) u<|AQ u.at1 rfl rfl λds bx=>AQ bx rfl rfl λdt bz=>AQ bz rfl rfl λdu c0=>AQ c0 rfl rfl λdv c1=>AQ c1 rfl rfl λdw c2=>AQ c2 rfl rfl λdx Q=>Bk (t:=A) Q ?_;obtain rfl:=iS hd;exact AC ⟨bt,((A.1,A.2.1,A.2.2.1,A.2.2.2.1,A.2.2.2.2.1,A.2.2.2.2.2.1,()),none,none,false,()),m,n,o,p,q,s,none,none,sb,rfl,rfl,e.up,f.up,i.up,j.up,k.up,l.up,(Np.none _ _),((((VA Q).at1.tail).at1.tail).at1.tail)⟩
 refine Bk (t:=A) u ?_;have⟨dy,c3,hd⟩:=bS hd;refine AK (V6 (p_0:=(A.1,A.2.1,A.2.2.1,A.2.2.2.1,A.2.2.2.2.1,A.2.2.2.2.2.1,())) (gk.a.mono sb) e.up f.up i.up j.up k.up l.up u c3) ?_;rintro _ dz ⟨R,C,e0,e1,rfl,rfl,x,S⟩;refine⟨C,rfl,?_⟩;have c4:=x.nil;have⟨c5,c,hd⟩:=bS hd;refine Aa (λy w_ g=>∃ψ:AD,Sub R ψ∧y.1=g∧St ψ (cW 32 E [sv A.1,sv A.2.1,sv A.2.2.1,sv A.2.2.2.1,sv A.2.2.2.2.1,sv A.2.2.2.2.2.1]::Wq5 r2::Wq0 r1 small_0::F) w_) (g:=c5) ?_ ?_
 ·refine AH c (by rw[c4] <;>rfl) (λ_ c=> ?_) (λ_ c=> ?_)
  ·have c6:=S.at2;obtain rfl:=iS c;exact AO (true,()) rfl ⟨R,sb,rfl,c6.at2.at2⟩
  have⟨e2,c7,c⟩:=bS c;have⟨e3,c8,c⟩:=bS c;refine AK (Co ((x).get c7) S c8) ?_;rintro _ e4 ⟨c9,D,e5,rfl,rfl,ch⟩;refine⟨D,rfl,?_⟩;obtain rfl:=iS c;exact AO ((D==(0:Int)),()) rfl ⟨c9,sb,rfl,ch.at2.at2.at2⟩
 rintro f0 e6 ⟨T,e7,rfl,w⟩;refine AH hd rfl (λ_ hd=> ?_) (λ_ hd=> ?_)
 ·refine Bk (t:=A) w<|AQ w.at1 rfl rfl λe8 cl=>AQ cl rfl rfl λe9 cm=>AQ cm rfl rfl λea cp=>AQ cp rfl rfl λeb cs=>AQ cs rfl rfl λec cw=>AQ cw rfl rfl λed U=>Bk (t:=A) U ?_;obtain rfl:=iS hd;exact AC ⟨T,((A.1,A.2.1,A.2.2.1,A.2.2.2.1,A.2.2.2.2.1,A.2.2.2.2.2.1,()),none,none,false,()),m,n,o,p,q,s,none,none,sb,rfl,rfl,e.up,f.up,i.up,j.up,k.up,l.up,(Np.none _ _),((((VA U).at1.tail).at1.tail).at1.tail)⟩
 refine Bk (t:=A) w ?_;have⟨cx,d0,hd⟩:=bS hd;have V:=((x.up (ψ:=T))).get d0;have⟨ee,d1,hd⟩:=bS hd;refine AK (Xz (p_0:=(A.1,A.2.1,A.2.2.1,A.2.2.2.1,A.2.2.2.2.1,A.2.2.2.2.2.1,())) (gk.b.mono sb) e.up f.up i.up j.up k.up l.up V w d1) ?_;rintro _ ef ⟨d2,B,d3,eg,rfl,rfl,z⟩;refine⟨B,rfl,?_⟩;have d4:=bV z;refine Bk (t:=A) z.at1<|AQ z.at2 rfl rfl λeh d5=>AQ d5 rfl rfl λei d6=>AQ d6 rfl rfl λej d7=>AQ d7 rfl rfl λek d8=>AQ d8 rfl rfl λel d9=>AQ d9 rfl rfl λem W=>Bk (t:=A) W ?_;obtain rfl:=iS hd;have da:=W.tail.at1.tail.at1.tail;exact AC ⟨d2,((A.1,A.2.1,A.2.2.1,A.2.2.2.1,A.2.2.2.2.1,A.2.2.2.2.2.1,()),C.1,B,(!(iU B)),()),m,n,o,p,q,s,(some cx),d3,sb,rfl,(by rw[d4]),e.up,f.up,i.up,j.up,k.up,l.up,V.up,da⟩
end
noncomputable def Kf (d:gL) (a f:Nat) (e:gL) (b g:Nat):T:=cond (((a:Nat):Int) !=((b:Nat):Int)) (iF (.bool false)) (gZ 0 fT (iD fT [fL 0,.bool false] λc=>fJ c.1 a (fI d a c.1 λh=>eH h c.1 2 λt4=>eK h c.1 2 1 λt5=>fI e b c.1 λi=>eH i c.1 2 λj=>eK i c.1 2 1 λk=>cond (!((t4==j) && ((t5==k) && true))) (iF (.bool false)) (gS [fL (wN c.1),.bool c.2.1])) (iJ 0 [fL c.1,.bool c.2.1])) λl=>iF (.bool true))
theorem I6 (a:gL) (b c:Nat) (d:gL) (e f:Nat):Ab gP Tryz.f49 [(.slice a b c),(.slice d e f)] =Kf a b c d e f:=by kernel_rfl
noncomputable def Kg (d:gL) (a f:Nat) (e:gL) (b g:Nat):T:=cond (((a:Nat):Int) !=((b:Nat):Int)) (iF (.bool false)) (gZ 0 fT (iD fT [fL 0,.bool false] λc=>fJ c.1 a (fI d a c.1 λh=>eH h c.1 2 λt4=>eK h c.1 2 1 λt5=>fI e b c.1 λi=>eH i c.1 2 λj=>eK i c.1 2 1 λk=>cond (!((t4==j) && ((t5==k) && true))) (iF (.bool false)) (gS [fL (wN c.1),.bool c.2.1])) (iJ 0 [fL c.1,.bool c.2.1])) λl=>iF (.bool true))
theorem I7 (a:gL) (b c:Nat) (d:gL) (e f:Nat):Ab gP Tryz.f17 [(.slice a b c),(.slice d e f)] =Kg a b c d e f:=by kernel_rfl
noncomputable def MR (a:gL) (c b:Nat) (x_1:Int×Int×Unit):T:=dZ #[fL x_1.1,fL x_1.2.1] 73 λr1=>gZ 0 fW (iD fW [fL 0] λg=>iE fS (fJ g.1 c (fI a c g.1 λG=>eH G g.1 2 λH=>eL r1 0 λI=>fK (H<I) (gS [.bool true]) (fI a c g.1 λJ=>eH J g.1 2 λK=>eL r1 0 λj=>cond (K==j) (fI a c g.1 λk=>eK k g.1 2 1 λl=>eL r1 1 λm=>gS [.bool (decide (l<m))]) (gS [.bool false]))) (gS [.bool false])) λL=>cond L.1 (gS [fL (wN g.1)]) (iJ 0 [fL g.1])) λd=>iE fS (fJ d.1 c (fI a c d.1 λh=>eH h d.1 2 λn=>eK h d.1 2 1 λo=>eL r1 0 λp=>eL r1 1 λq=>gS [.bool ((n==p) && ((o==q) && true))]) (gS [.bool false])) λr=>cond r.1 (iF (.slice a c b)) (chk (0≤(0:Int)∧(0:Int) ≤d.1∧d.1≤(b:Nat))<|eL r1 0 λe=>eL r1 1 λf=>chk (0≤d.1∧d.1≤((c:Nat):Int)∧((c:Nat):Int) ≤(b:Nat))<|kW (dZ #[] 73 λi=>fG r1 0 e<|fG r1 1 f<|kW (iL (gR #[74,74] 74 #[.slice (fH i) 0 0,.slice (if b=gQ 0 then a else iP (λx=>iY x (gQ 0 *2)) a) (gQ d.1 - gQ 0) (b - gQ 0)]) fP λs=>fG r1 0 e<|fG r1 1 f<|dZ #[fL e,fL f] 73 λt=>iL (gR #[74,74] 74 #[sv s,.slice (fH t) 1 1]) fP λu=>iL (gR #[74,74] 74 #[sv u,.slice (if b=gQ d.1 then a else iP (λx=>iY x (gQ d.1 *2)) a) (gQ ((c:Nat):Int) - gQ d.1) (b - gQ d.1)]) fP λv=>iF (sv v)) (dZ #[fL e,fL f] 73 λw=>iL (gR #[74,74] 74 #[.slice (fH i) 0 0,.slice (if b=gQ 0 then a else iP (λx=>iY x (gQ 0 *2)) a) (gQ d.1 - gQ 0) (b - gQ 0)]) fP λy=>iL (gR #[74,74] 74 #[sv y,.slice (fH w) 1 1]) fP λz=>iL (gR #[74,74] 74 #[sv z,.slice (if b=gQ d.1 then a else iP (λx=>iY x (gQ d.1 *2)) a) (gQ ((c:Nat):Int) - gQ d.1) (b - gQ d.1)]) fP λA=>iF (sv A))) (dZ #[fL e,fL f] 73 λB=>dZ #[] 73 λC=>iL (gR #[74,74] 74 #[.slice (fH C) 0 0,.slice (if b=gQ 0 then a else iP (λx=>iY x (gQ 0 *2)) a) (gQ d.1 - gQ 0) (b - gQ 0)]) fP λD=>iL (gR #[74,74] 74 #[sv D,.slice (fH B) 1 1]) fP λE=>iL (gR #[74,74] 74 #[sv E,.slice (if b=gQ d.1 then a else iP (λx=>iY x (gQ d.1 *2)) a) (gQ ((c:Nat):Int) - gQ d.1) (b - gQ d.1)]) fP λF=>iF (sv F)))
theorem Kh (a:gL) (b c:Nat) (x_1:Int×Int×Unit):Ab gP Tryz.f30 [(.slice a b c),(.agg #[(.int .i64 x_1.1),(.int .i64 x_1.2.1)])] =MR a b c x_1:=by kernel_rfl
noncomputable def Jm (p_0:Pl6) (x_1:Int×Int×Unit):T:=dZ #[sv p_0.1,sv p_0.2.1,sv p_0.2.2.1,sv p_0.2.2.2.1,sv p_0.2.2.2.2.1,sv p_0.2.2.2.2.2.1] 32 λr1=>dZ #[fL x_1.1,fL x_1.2.1] 73 λc=>eL c 1 λt3=>dX r1 2 λt4=>eL c 0 λt5=>fI t4.1 t4.2.1 t5 λi=>eG i t5 3 1 λj=>fJ t3 j.2.1 (dX r1 2 λg=>eL c 0 λh=>fI g.1 g.2.1 h λd=>eG d h 3 1 λa=>eL c 1 λb=>fI a.1 a.2.1 b λe=>eH e b 1 λf=>iF (fL f)) (iF (fL (-1:Int)))
theorem IF (p_0:Pl6) (x_1:Int×Int×Unit):Ab gP Tryz.f29 [(aG p_0),(.agg #[(.int .i64 x_1.1),(.int .i64 x_1.2.1)])] =Jm p_0 x_1:=by kernel_rfl
noncomputable def I8 (p_0:Pl6) (b:gL) (c d:Nat):T:=dZ #[sv p_0.1,sv p_0.2.1,sv p_0.2.2.1,sv p_0.2.2.2.1,sv p_0.2.2.2.2.1,sv p_0.2.2.2.2.2.1] 32 λr1=>dZ #[] 73 λy=>iL (gR #[74,74] 74 #[.slice (fH y) 0 0,.slice b c d]) fP λt3=>gZ 0 [aB,aS] (iD [aB,aS] [.bool true,sv t3] λk=>cond k.1 (gZ 2 fX (iD fX [fL 0,.bool false,sv k.2.1] λe=>iE fS (fJ e.1 e.2.2.1.2.1 (gS [.bool (!e.2.1)]) (gS [.bool false])) λz=>cond z.1 (L6 r1 λA l m n o p=>fI e.2.2.1.1 e.2.2.1.2.1 e.1 λf=>eH f e.1 2 λq=>eK f e.1 2 1 λr=>gX 29 [aH A l m n o p,.agg #[fL q,fL r]] fQ λs=>gZ 4 fX (iD fX [fL 0,.bool e.2.1,sv e.2.2.1] λa=>dX r1 2 λt=>fJ a.1 t.2.1 (dX r1 2 λg=>fI g.1 g.2.1 a.1 λu=>eH u a.1 3 λv=>iE [aB,aS] (cond (v==s) (gX 30 [sv a.2.2.1,.agg #[fL a.1,fL 0]] fP λh=>iE fS (cond a.2.1 (gS [.bool true]) (gS [.bool (decide ((h.2.1:Int) >(a.2.2.1.2.1:Int)))])) λw=>gS [.bool w.1,sv h]) (gS [.bool a.2.1,sv a.2.2.1])) λi=>gS [fL (wN a.1),.bool i.1,sv i.2.1]) (iJ 4 [fL a.1,.bool a.2.1,sv a.2.2.1])) λj=>gS [fL (wN e.1),.bool j.2.1,sv j.2.2.1]) (iJ 2 [fL e.1,.bool e.2.1,sv e.2.2.1])) λx=>gS [.bool x.2.1,sv x.2.2.1]) (iJ 0 [.bool k.1,sv k.2.1])) λB=>iF (sv B.2.1)
theorem Hh (p_0:Pl6) (a:gL) (b c:Nat):Ab gP Tryz.f50 [(aG p_0),(.slice a b c)] =I8 p_0 a b c:=by kernel_rfl
noncomputable def GF (p_0:Pl6) (c:Int) (e:Int):T:=dZ #[sv p_0.1,sv p_0.2.1,sv p_0.2.2.1,sv p_0.2.2.2.1,sv p_0.2.2.2.2.1,sv p_0.2.2.2.2.2.1] 32 λr1=>L6 r1 λt2 t3 t4 t5 t6 t7=>dZ #[sv t2,sv t3,sv t4,sv t5,sv t6,sv t7,fM,fM,fM,fM,fM,fL 0] 49 λd=>dZ #[fL 0,fL 0] 73 λr9=>gX 27 [fN (fH d),.slice (fH r9) 1 1,fL (-1:Int),fL (-1:Int)] fQ λa0=>gZ 0 [aI,aP] (iD [aI,aP] [fL 0,fN none] λa=>dX d 6 λu=>cond (decide (a.1< (u.2.1:Int))) (iE fS (dX d 6 λj=>gX 28 [fL c] fQ λv=>eR d 6 j<|cond (decide ((j.2.1:Int) >v)) (gS [.bool true]) (eL d 11 λk=>gX 28 [fL e] fQ λw=>fG d 11 k<|gS [.bool (decide (k>w))])) λx=>cond x.1 (iF (fN none)) (gZ 2 fW (iD fW [fL 0] λf=>dX r1 0 λy=>dX r1 1 λz=>cond (decide (f.1≤(gO .i64 ((y.2.1:Int)+(z.2.1:Int))))) (gZ 4 fV (iD fV [fL 0,fM] λb=>dX d 7 λl=>deref l.1 λA=>chk (0≤a.1∧a.1< (l.2.1:Nat))<|dY A a.1 1 λB=>cond (decide (b.1< (B.2.1:Int))) (dX d 7 λm=>deref m.1 λC=>chk (0≤a.1∧a.1< (m.2.1:Nat))<|dY C a.1 1 λn=>deref n.1 λo=>chk (0≤b.1∧b.1< (n.2.1:Nat))<|eH o b.1 2 λD=>eK o b.1 2 1 λE=>dZ #[fL 0,fL 0] 73 λg=>eM g 0 D<|eM g 1 E<|L6 r1 λF G H I J K=>eL g 0 λL=>eL g 1 λM=>gX 29 [aH F G H I J K,.agg #[fL L,fL M]] fQ λN=>iE [aS] (cond (N==f.1) (eL g 0 λO=>eL g 1 λP=>gX 30 [sv b.2.1,.agg #[fL O,fL (wN P)]] fP λQ=>gS [sv Q]) (gS [sv b.2.1])) λR=>gS [fL (wN b.1),sv R.1]) (iJ 4 [fL b.1,sv b.2.1])) λp=>iE [] (cond (decide ((p.2.1.2.1:Int) >(0:Int))) (gX 27 [fN (fH d),sv p.2.1,fL a.1,fL f.1] fQ λS=>dX d 8 λh=>dX d 8 λi=>deref i.1 λq=>chk (0≤a.1∧a.1< (i.2.1:Nat))<|dY q a.1 1 λr=>dZ #[fL f.1,fL S] 79 λU=>kO (q.add (gQ a.1 *1)) (sv r)<|eR d 8 i<|eR d 8 h<|iL (gR #[54,54] 54 #[sv r,.slice (fH U) 1 1]) fP λV=>eR d 8 h<|deref h.1 λW=>chk (0≤a.1∧a.1< (h.2.1:Nat))<|iV (W.add (gQ a.1 *1)) (sv V)<|gS []) (gS [])) λa1=>gS [fL (wN f.1)]) (iJ 2 [fL f.1])) λa2=>gS [fL (wN a.1),fN a.2.1])) (iJ 0 [fL a.1,fN a.2.1])) λa3=>iE fS (dX d 6 λs=>gX 28 [fL c] fQ λX=>eR d 6 s<|cond (decide ((s.2.1:Int) >X)) (gS [.bool true]) (eL d 11 λt=>gX 28 [fL e] fQ λY=>fG d 11 t<|gS [.bool (decide (t>Y))])) λZ=>cond Z.1 (iF (fN none)) (iF (fN (fH d)))
theorem I9 (p_0:Pl6) (a:Int) (b:Int):Ab gP Tryz.f8 [(aG p_0),(.int .i64 a),(.int .i64 b)] =GF p_0 a b:=by kernel_rfl
noncomputable def G8 (a:gL) (b:gL) (c d:Nat) (e:Int) (f:Int):T:=gZ 0 fU (iD fU [fL 0,fL 0] λg=>deref a λV=>eF V 6 λt4=>fJ g.1 t4.2.1 (deref a λW=>eF W 6 λU=>fI U.1 U.2.1 g.1 λX=>dY X g.1 1 λY=>gX 49 [sv Y,.slice b c d] fR λZ=>cond Z (iF (fL g.1)) (gS [fL (wN g.1),fL g.2.1])) (iJ 0 [fL g.1,fL g.2.1])) λz1=>deref a λi=>M6 i λj k l m n o=>gX 50 [aH j k l m n o,.slice b c d] fP λh=>deref a λp=>eF p 6 λq=>dZ #[.slice b c d] 74 λr=>iL (gR #[46,46] 46 #[sv q,.slice (fH r) 1 1]) fP λs=>deref a λt=>iV (t.add 6) (sv s)<|deref a λu=>eF u 7 λv=>dZ #[sv h] 74 λw=>iL (gR #[46,46] 46 #[sv v,.slice (fH w) 1 1]) fP λx=>deref a λy=>iV (y.add 7) (sv x)<|deref a λz=>eF z 8 λA=>dZ #[fM] 54 λB=>iL (gR #[47,47] 47 #[sv A,.slice (fH B) 1 1]) fP λC=>deref a λD=>iV (D.add 8) (sv C)<|deref a λE=>eF E 9 λF=>dZ #[fL e] 3 λG=>iL (gR #[30,30] 30 #[sv F,.slice (fH G) 1 1]) fP λH=>deref a λI=>iV (I.add 9) (sv H)<|deref a λJ=>eF J 10 λK=>dZ #[fL f] 3 λL=>iL (gR #[30,30] 30 #[sv K,.slice (fH L) 1 1]) fP λM=>deref a λN=>iV (N.add 10) (sv M)<|deref a λO=>eU O 11 λP=>deref a λQ=>iV (Q.add 11) (fL (gO .i64 (P+(h.2.1:Int))))<|deref a λR=>eF R 6 λS=>iF (fL (gO .i64 ((S.2.1:Int) - 1)))
theorem GU (f:gL) (c:gL) (d e:Nat) (a:Int) (b:Int):Ab gP Tryz.f27 [(.pointer f),(.slice c d e),(.int .i64 a),(.int .i64 b)] =G8 f c d e a b:=by kernel_rfl
noncomputable def JA (b:gL) (a:Int) (d:Int):T:=iE fS (fK (a< 0) (gS [.bool true]) (deref b λr=>eF r 8 λt3=>gS [.bool (decide (a≥ (t3.2.1:Int)))])) λs=>cond s.1 (iF (fL (-1:Int))) (gZ 0 fU (iD fU [fL 0,fL 0] λc=>deref b λt=>eF t 8 λq=>fI q.1 q.2.1 a λu=>dY u a 1 λv=>fJ c.1 v.2.1 (deref b λi=>eF i 8 λe=>fI e.1 e.2.1 a λj=>dY j a 1 λf=>fI f.1 f.2.1 c.1 λk=>eH k c.1 2 λl=>cond (l==d) (deref b λm=>eF m 8 λg=>fI g.1 g.2.1 a λn=>dY n a 1 λh=>fI h.1 h.2.1 c.1 λo=>eK o c.1 2 1 λp=>iF (fL p)) (gS [fL (wN c.1),fL c.2.1])) (iJ 0 [fL c.1,fL c.2.1])) λw=>iF (fL (-1:Int)))
theorem Hi (c:gL) (a:Int) (b:Int):Ab gP Tryz.f35 [(.pointer c),(.int .i64 a),(.int .i64 b)] =JA c a b:=by kernel_rfl
noncomputable def Hk (e:gL) (a:Int) (c:gL) (b f:Nat):T:=iE fS (fK (a< 0) (gS [.bool true]) (deref e λg=>eF g 6 λt3=>gS [.bool (decide (a≥ (t3.2.1:Int)))])) λh=>cond h.1 (iF (fL (-1:Int))) (gZ 0 fU (iD fU [fL 0,fL a] λd=>iE fS (fJ d.1 b (gS [.bool (decide (d.2.1≥ 0))]) (gS [.bool false])) λi=>cond i.1 (fI c b d.1 λj=>eH j d.1 1 λk=>gX 35 [fN e,fL d.2.1,fL k] fQ λl=>gS [fL (wN d.1),fL l]) (iJ 0 [fL d.1,fL d.2.1])) λm=>iF (fL m.2.1))
theorem Gz (e:gL) (a:Int) (b:gL) (c d:Nat):Ab gP Tryz.f43 [(.pointer e),(.int .i64 a),(.slice b c d)] =Hk e a b c d:=by kernel_rfl
noncomputable def MS (a:gL) (c b:Nat) (x_1:Int×Int×Int×Unit):T:=dZ #[fL x_1.1,fL x_1.2.1,fL x_1.2.2.1] 85 λr1=>gZ 0 fW (iD fW [fL 0] λe=>iE fS (fJ e.1 c (fI a c e.1 λP=>eH P e.1 3 λQ=>eL r1 0 λR=>fK (Q<R) (gS [.bool true]) (fI a c e.1 λS=>eH S e.1 3 λU=>eL r1 0 λk=>cond (U==k) (fI a c e.1 λl=>eK l e.1 3 1 λm=>eL r1 1 λn=>fK (m<n) (gS [.bool true]) (fI a c e.1 λo=>eK o e.1 3 1 λp=>eL r1 1 λq=>cond (p==q) (fI a c e.1 λr=>eK r e.1 3 2 λs=>eL r1 2 λt=>gS [.bool (decide (s<t))]) (gS [.bool false]))) (gS [.bool false]))) (gS [.bool false])) λV=>cond V.1 (gS [fL (wN e.1)]) (iJ 0 [fL e.1])) λd=>iE fS (fJ d.1 c (fI a c d.1 λi=>eH i d.1 3 λu=>eK i d.1 3 1 λv=>eK i d.1 3 2 λw=>eL r1 0 λy=>eL r1 1 λz=>eL r1 2 λA=>gS [.bool (((u==y) && ((v==z) && true)) && ((w==A) && true))]) (gS [.bool false])) λB=>cond B.1 (iF (.tuple #[.slice a c b,.bool false])) (chk (0≤(0:Int)∧(0:Int) ≤d.1∧d.1≤(b:Nat))<|eL r1 0 λf=>eL r1 1 λg=>eL r1 2 λh=>chk (0≤d.1∧d.1≤((c:Nat):Int)∧((c:Nat):Int) ≤(b:Nat))<|kW (dZ #[] 85 λj=>fG r1 0 f<|fG r1 1 g<|fG r1 2 h<|kW (iL (gR #[82,82] 82 #[.slice (fH j) 0 0,.slice (if b=gQ 0 then a else iP (λx=>iY x (gQ 0 *3)) a) (gQ d.1 - gQ 0) (b - gQ 0)]) fP λC=>fG r1 0 f<|fG r1 1 g<|fG r1 2 h<|dZ #[fL f,fL g,fL h] 85 λD=>iL (gR #[82,82] 82 #[sv C,.slice (fH D) 1 1]) fP λE=>iL (gR #[82,82] 82 #[sv E,.slice (if b=gQ d.1 then a else iP (λx=>iY x (gQ d.1 *3)) a) (gQ ((c:Nat):Int) - gQ d.1) (b - gQ d.1)]) fP λF=>iF (.tuple #[sv F,.bool true])) (dZ #[fL f,fL g,fL h] 85 λG=>iL (gR #[82,82] 82 #[.slice (fH j) 0 0,.slice (if b=gQ 0 then a else iP (λx=>iY x (gQ 0 *3)) a) (gQ d.1 - gQ 0) (b - gQ 0)]) fP λH=>iL (gR #[82,82] 82 #[sv H,.slice (fH G) 1 1]) fP λI=>iL (gR #[82,82] 82 #[sv I,.slice (if b=gQ d.1 then a else iP (λx=>iY x (gQ d.1 *3)) a) (gQ ((c:Nat):Int) - gQ d.1) (b - gQ d.1)]) fP λJ=>iF (.tuple #[sv J,.bool true]))) (dZ #[fL f,fL g,fL h] 85 λK=>dZ #[] 85 λL=>iL (gR #[82,82] 82 #[.slice (fH L) 0 0,.slice (if b=gQ 0 then a else iP (λx=>iY x (gQ 0 *3)) a) (gQ d.1 - gQ 0) (b - gQ 0)]) fP λM=>iL (gR #[82,82] 82 #[sv M,.slice (fH K) 1 1]) fP λN=>iL (gR #[82,82] 82 #[sv N,.slice (if b=gQ d.1 then a else iP (λx=>iY x (gQ d.1 *3)) a) (gQ ((c:Nat):Int) - gQ d.1) (b - gQ d.1)]) fP λO=>iF (.tuple #[sv O,.bool true])))
theorem Ki (a:gL) (b c:Nat) (x_1:Int×Int×Int×Unit):Ab gP Tryz.f33 [(.slice a b c),(.agg #[(.int .i64 x_1.1),(.int .i64 x_1.2.1),(.int .i64 x_1.2.2.1)])] =MS a b c x_1:=by kernel_rfl
noncomputable def JB (p_0:Pl6) (D:gL) (p:gL) (q r:Nat):T:=dZ #[sv p_0.1,sv p_0.2.1,sv p_0.2.2.1,sv p_0.2.2.2.1,sv p_0.2.2.2.2.1,sv p_0.2.2.2.2.2.1] 32 λr1=>dZ #[] 85 λr2=>iL (gR #[82,82] 82 #[.slice (fH r2) 0 0,.slice p q r]) fP λt3=>dZ #[] 85 λr4=>iL (gR #[82,82] 82 #[.slice (fH r4) 0 0,.slice p q r]) fP λt5=>gZ 0 gA (iD gA [fL 0,sv t5,sv t3] λl=>fJ l.1 l.2.1.2.1 (gZ 1 fY (fI l.2.1.1 l.2.1.2.1 l.1 λa9=>eH a9 l.1 3 λb6=>eK a9 l.1 3 1 λb7=>eK a9 l.1 3 2 λb8=>dZ #[fL 0,fL 0,fL 0] 85 λd=>eM d 0 b6<|eM d 1 b7<|eM d 2 b8<|L6 r1 λb9 c0 c1 c2 c3 c4=>eL d 0 λc5=>eL d 1 λc6=>gX 29 [aH b9 c0 c1 c2 c3 c4,.agg #[fL c5,fL c6]] fQ λv=>dX r1 0 λc7=>fJ v c7.2.1 (iJ 1 [sv l.2.1,sv l.2.2.1]) (dX r1 2 λo=>eL d 0 λk=>fI o.1 o.2.1 k λs=>eG s k 3 1 λa=>eL d 1 λe=>chk (0≤(wN e)∧(wN e) ≤(a.2.1:Int)∧(a.2.1:Int) ≤(a.2.2:Nat))<|eL d 2 λt=>kW (dZ #[] 3 λG=>fG d 2 t<|fG d 1 e<|kO ((s.add (gQ k *3)).add 1) (sv a)<|fG d 0 k<|eR r1 2 o<|kW (iL (gR #[30,30] 30 #[.slice (fH G) 0 0,.slice (if a.2.2=gQ (wN e) then a.1 else iP (λx=>iY x (gQ (wN e) *1)) a.1) (gQ (a.2.1:Int) - gQ (wN e)) (a.2.2 - gQ (wN e))]) fP λc8=>fG d 2 t<|dZ #[fL t] 3 λc9=>iL (gR #[30,30] 30 #[sv c8,.slice (fH c9) 1 1]) fP λd0=>L6 r1 λd1 d2 d3 d4 d5 d6=>gX 52 [fN D,aH d1 d2 d3 d4 d5 d6,sv d0] (.tuple fZ) λE=>gZ 2 gA (iD gA [fL 0,sv l.2.1,sv l.2.2.1] λi=>dX r1 2 λd7=>fJ i.1 d7.2.1 (gZ 3 fY (dX r1 2 λH=>fI H.1 H.2.1 i.1 λd8=>eH d8 i.1 3 λd9=>cond (d9 !=v) (iJ 3 [sv i.2.1,sv i.2.2.1]) (gZ 4 gA (iD gA [fL 0,sv i.2.1,sv i.2.2.1] λg=>fJ g.1 E.1.2.1 (fI E.1.1 E.1.2.1 g.1 λe0=>fC e0 g.1 1 λe1=>iE fY (cond e1 (dZ #[fL 0,fL 0,fL 0] 85 λm=>eM m 0 i.1<|eM m 1 0<|eM m 2 g.1<|eL m 0 λe2=>eL m 1 λe3=>eL m 2 λe4=>gX 33 [sv g.2.2.1,.agg #[fL e2,fL e3,fL e4]] (.tuple fZ) λI=>iE [aS] (cond I.2.1 (eL m 0 λe5=>eL m 1 λe6=>eL m 2 λe7=>dZ #[fL e5,fL e6,fL e7] 85 λe8=>iL (gR #[82,82] 82 #[sv g.2.1,.slice (fH e8) 1 1]) fP λe9=>gS [sv e9]) (gS [sv g.2.1])) λf0=>gS [sv f0.1,sv I.1]) (gS [sv g.2.1,sv g.2.2.1])) λJ=>gS [fL (wN g.1),sv J.1,sv J.2.1]) (iJ 4 [fL g.1,sv g.2.1,sv g.2.2.1])) λK=>gS [sv K.2.1,sv K.2.2.1])) λL=>gS [fL (wN i.1),sv L.1,sv L.2.1]) (iJ 2 [fL i.1,sv i.2.1,sv i.2.2.1])) λM=>gS [sv M.2.1,sv M.2.2.1]) (dZ #[fL t] 3 λf1=>fG d 1 e<|kO ((s.add (gQ k *3)).add 1) (sv a)<|fG d 0 k<|eR r1 2 o<|iL (gR #[30,30] 30 #[.slice (fH G) 0 0,.slice (if a.2.2=gQ (wN e) then a.1 else iP (λx=>iY x (gQ (wN e) *1)) a.1) (gQ (a.2.1:Int) - gQ (wN e)) (a.2.2 - gQ (wN e))]) fP λf2=>iL (gR #[30,30] 30 #[sv f2,.slice (fH f1) 1 1]) fP λf3=>L6 r1 λf4 f5 f6 f7 f8 f9=>gX 52 [fN D,aH f4 f5 f6 f7 f8 f9,sv f3] (.tuple fZ) λF=>gZ 2 gA (iD gA [fL 0,sv l.2.1,sv l.2.2.1] λj=>dX r1 2 λg0=>fJ j.1 g0.2.1 (gZ 3 fY (dX r1 2 λN=>fI N.1 N.2.1 j.1 λg1=>eH g1 j.1 3 λg2=>cond (g2 !=v) (iJ 3 [sv j.2.1,sv j.2.2.1]) (gZ 4 gA (iD gA [fL 0,sv j.2.1,sv j.2.2.1] λh=>fJ h.1 F.1.2.1 (fI F.1.1 F.1.2.1 h.1 λg3=>fC g3 h.1 1 λg4=>iE fY (cond g4 (dZ #[fL 0,fL 0,fL 0] 85 λn=>eM n 0 j.1<|eM n 1 0<|eM n 2 h.1<|eL n 0 λg5=>eL n 1 λg6=>eL n 2 λg7=>gX 33 [sv h.2.2.1,.agg #[fL g5,fL g6,fL g7]] (.tuple fZ) λO=>iE [aS] (cond O.2.1 (eL n 0 λg8=>eL n 1 λg9=>eL n 2 λh0=>dZ #[fL g8,fL g9,fL h0] 85 λh1=>iL (gR #[82,82] 82 #[sv h.2.1,.slice (fH h1) 1 1]) fP λh2=>gS [sv h2]) (gS [sv h.2.1])) λh3=>gS [sv h3.1,sv O.1]) (gS [sv h.2.1,sv h.2.2.1])) λP=>gS [fL (wN h.1),sv P.1,sv P.2.1]) (iJ 4 [fL h.1,sv h.2.1,sv h.2.2.1])) λQ=>gS [sv Q.2.1,sv Q.2.2.1])) λR=>gS [fL (wN j.1),sv R.1,sv R.2.1]) (iJ 2 [fL j.1,sv j.2.1,sv j.2.2.1])) λS=>gS [sv S.2.1,sv S.2.2.1])) (dZ #[fL t] 3 λh4=>fG d 1 e<|kO ((s.add (gQ k *3)).add 1) (sv a)<|fG d 0 k<|eR r1 2 o<|dZ #[] 3 λh5=>fG d 1 e<|kO ((s.add (gQ k *3)).add 1) (sv a)<|fG d 0 k<|eR r1 2 o<|iL (gR #[30,30] 30 #[.slice (fH h5) 0 0,.slice (if a.2.2=gQ (wN e) then a.1 else iP (λx=>iY x (gQ (wN e) *1)) a.1) (gQ (a.2.1:Int) - gQ (wN e)) (a.2.2 - gQ (wN e))]) fP λh6=>iL (gR #[30,30] 30 #[sv h6,.slice (fH h4) 1 1]) fP λU=>L6 r1 λV W X Y Z a0=>gX 52 [fN D,aH V W X Y Z a0,sv U] (.tuple fZ) λu=>gZ 2 gA (iD gA [fL 0,sv l.2.1,sv l.2.2.1] λc=>dX r1 2 λa1=>fJ c.1 a1.2.1 (gZ 3 fY (dX r1 2 λw=>fI w.1 w.2.1 c.1 λa2=>eH a2 c.1 3 λa3=>cond (a3 !=v) (iJ 3 [sv c.2.1,sv c.2.2.1]) (gZ 4 gA (iD gA [fL 0,sv c.2.1,sv c.2.2.1] λb=>fJ b.1 u.1.2.1 (fI u.1.1 u.1.2.1 b.1 λa4=>fC a4 b.1 1 λa5=>iE fY (cond a5 (dZ #[fL 0,fL 0,fL 0] 85 λf=>eM f 0 c.1<|eM f 1 0<|eM f 2 b.1<|eL f 0 λa6=>eL f 1 λa7=>eL f 2 λa8=>gX 33 [sv b.2.2.1,.agg #[fL a6,fL a7,fL a8]] (.tuple fZ) λy=>iE [aS] (cond y.2.1 (eL f 0 λb0=>eL f 1 λb1=>eL f 2 λb2=>dZ #[fL b0,fL b1,fL b2] 85 λb3=>iL (gR #[82,82] 82 #[sv b.2.1,.slice (fH b3) 1 1]) fP λb4=>gS [sv b4]) (gS [sv b.2.1])) λb5=>gS [sv b5.1,sv y.1]) (gS [sv b.2.1,sv b.2.2.1])) λz=>gS [fL (wN b.1),sv z.1,sv z.2.1]) (iJ 4 [fL b.1,sv b.2.1,sv b.2.2.1])) λA=>gS [sv A.2.1,sv A.2.2.1])) λB=>gS [fL (wN c.1),sv B.1,sv B.2.1]) (iJ 2 [fL c.1,sv c.2.1,sv c.2.2.1])) λC=>gS [sv C.2.1,sv C.2.2.1]))) λz8=>gS [fL (wN l.1),sv z8.1,sv z8.2.1]) (iJ 0 [fL l.1,sv l.2.1,sv l.2.2.1])) λz6=>iF (sv z6.2.2.1)
theorem Hl (p_0:Pl6) (d:gL) (a:gL) (b c:Nat):Ab gP Tryz.f32 [(aG p_0),(.pointer d),(.slice a b c)] =JB p_0 d a b c:=by kernel_rfl
noncomputable def Lg (d:gL) (a f:Nat) (e:gL) (c g:Nat):T:=cond (((a:Nat):Int) !=((c:Nat):Int)) (iF (.bool false)) (gZ 0 fT (iD fT [fL 0,.bool false] λb=>fJ b.1 a (fI d a b.1 λh=>eH h b.1 3 λt4=>eK h b.1 3 1 λt5=>eK h b.1 3 2 λk=>fI e c b.1 λi=>eH i b.1 3 λl=>eK i b.1 3 1 λm=>eK i b.1 3 2 λj=>cond (!(((t4==l) && ((t5==m) && true)) && ((k==j) && true))) (iF (.bool false)) (gS [fL (wN b.1),.bool b.2.1])) (iJ 0 [fL b.1,.bool b.2.1])) λn=>iF (.bool true))
theorem Jn (a:gL) (b c:Nat) (d:gL) (e f:Nat):Ab gP Tryz.f34 [(.slice a b c),(.slice d e f)] =Lg a b c d e f:=by kernel_rfl
noncomputable def UQ (r1:Nat) (a_1:gL) (pl al:Slc):T:=L6 r1 λE F G H I J=>dZ #[sv E,sv F,sv G,sv H,sv I,sv J,fN a_1,fM] 92 λj=>gZ 8 fW (iD fW [fL 0] λp=>deref a_1 λK=>eF K 6 λL=>cond (decide (p.1< (L.2.1:Int))) (gZ 10 fV (iD fV [fL 0,fM] λd=>dX r1 2 λM=>cond (decide (d.1< (M.2.1:Int))) (dX r1 0 λq=>iL (iW 68 (fL (q.2.1:Int)) (fL (q.2.1:Int))) fP λN=>dZ #[sv N] 68 λO=>iL (gR #[93,93] 93 #[sv d.2.1,.slice (fH O) 1 1]) fP λP=>gS [fL (wN d.1),sv P]) (iJ 10 [fL d.1,sv d.2.1])) λQ=>dX j 7 λR=>dZ #[sv Q.2.1] 93 λS=>iL (gR #[90,90] 90 #[sv R,.slice (fH S) 1 1]) fP λU=>eC j 7 U<|gS [fL (wN p.1)]) (iJ 8 [fL p.1])) λZ=>gZ 12 fW (iD fW [fL 0] λa=>cond (decide (a.1< (al.2.1:Int))) (gZ 14 fW (iD fW [fL 0] λc=>deref al.1 λV=>chk (0≤a.1∧a.1< (al.2.1:Nat))<|dY V a.1 1 λW=>cond (decide (c.1< (W.2.1:Int))) (deref al.1 λX=>chk (0≤a.1∧a.1< (al.2.1:Nat))<|dY X a.1 1 λk=>deref k.1 λe=>chk (0≤c.1∧c.1< (k.2.1:Nat))<|eH e c.1 3 λr=>eK e c.1 3 1 λs=>eK e c.1 3 2 λt=>dZ #[fL 0,fL 0,fL 0] 85 λb=>eM b 0 r<|eM b 1 s<|eM b 2 t<|iE fS (deref pl.1 λu=>chk (0≤a.1∧a.1< (pl.2.1:Nat))<|eH u a.1 1 λv=>cond (decide (v≥ 0)) (eL b 1 λw=>dX r1 2 λl=>eL b 0 λf=>deref l.1 λx=>chk (0≤f∧f< (l.2.1:Nat))<|eG x f 3 1 λy=>gS [.bool (w==(y.2.1:Int))]) (gS [.bool false])) λz=>iE [] (cond z.1 (dX j 7 λm=>deref pl.1 λA=>chk (0≤a.1∧a.1< (pl.2.1:Nat))<|eH A a.1 1 λg=>deref m.1 λB=>chk (0≤g∧g< (m.2.1:Nat))<|dY B g 1 λn=>eL b 0 λh=>deref n.1 λC=>chk (0≤h∧h< (n.2.1:Nat))<|dY C h 1 λo=>eL b 2 λi=>deref o.1 λD=>chk (0≤i∧i< (o.2.1:Nat))<|iV (D.add (gQ i *1)) (.bool true)<|gS []) (gS [])) λY=>gS [fL (wN c.1)]) (iJ 14 [fL c.1])) λa0=>gS [fL (wN a.1)]) (iJ 12 [fL a.1])) λa1=>iF (fN (fH j))
noncomputable def ND (p_0:Pl6) (a_1:gL) (f:Int):T:=dZ #[sv p_0.1,sv p_0.2.1,sv p_0.2.2.1,sv p_0.2.2.2.1,sv p_0.2.2.2.2.1,sv p_0.2.2.2.2.2.1] 32 λr1=>L6 r1 λt2 t3 t4 t5 t6 t7=>gX 31 [aH t2 t3 t4 t5 t6 t7] fO λt8=>L6 r1 λt9 o p q r s=>dZ #[fL 0,fL 0,fL 0] 85 λt=>gX 32 [aH t9 o p q r s,fN t8,.slice (fH t) 1 1] fP λu=>dZ #[sv u] 82 λv=>dZ #[fL 0] 3 λw=>gZ 0 [aI,aS,aS,aP] (iD [aI,aS,aS,aP] [fL 0,.slice (fH w) 1 1,.slice (fH v) 1 1,fN none] λb=>fJ b.1 b.2.2.1.2.1 (fK ((b.2.2.1.2.1:Int) >f) (iF (fN none)) (gZ 2 gA (iD gA [fL 1,sv b.2.1,sv b.2.2.1] λa=>dX r1 0 λx=>dX r1 1 λy=>fK (a.1< (gO .i64 ((x.2.1:Int)+(y.2.1:Int)))) (gZ 3 fY (gZ 4 fV (iD fV [fL 0,fM] λc=>fI a.2.2.1.1 a.2.2.1.2.1 b.1 λz=>dY z b.1 1 λA=>fJ c.1 A.2.1 (fI a.2.2.1.1 a.2.2.1.2.1 b.1 λB=>dY B b.1 1 λh=>fI h.1 h.2.1 c.1 λg=>eH g c.1 3 λC=>eK g c.1 3 1 λD=>eK g c.1 3 2 λE=>dZ #[fL 0,fL 0,fL 0] 85 λd=>eM d 0 C<|eM d 1 D<|eM d 2 E<|L6 r1 λF G H I J K=>eL d 0 λL=>eL d 1 λM=>gX 29 [aH F G H I J K,.agg #[fL L,fL M]] fQ λN=>iE [aS] (cond (N==a.1) (eL d 0 λO=>eL d 1 λP=>eL d 2 λQ=>gX 33 [sv c.2.1,.agg #[fL O,fL (wN P),fL Q]] (.tuple fZ) λR=>gS [sv R.1]) (gS [sv c.2.1])) λS=>gS [fL (wN c.1),sv S.1]) (iJ 4 [fL c.1,sv c.2.1])) λi=>cond ((i.2.1.2.1:Int)==(0:Int)) (iJ 3 [sv a.2.1,sv a.2.2.1]) (L6 r1 λU V W X Y Z=>gX 32 [aH U V W X Y Z,fN t8,sv i.2.1] fP λj=>gZ 6 fT (iD fT [fL 0,.bool false] λe=>fJ e.1 a.2.2.1.2.1 (iE fS (cond e.2.1 (gS [.bool true]) (fI a.2.2.1.1 a.2.2.1.2.1 e.1 λa0=>dY a0 e.1 1 λa1=>gX 34 [sv a1,sv j] fR λa2=>gS [.bool a2])) λa3=>gS [fL (wN e.1),.bool a3.1]) (iJ 6 [fL e.1,.bool e.2.1])) λa4=>iE fY (cond (!a4.2.1) (dZ #[sv j] 82 λa5=>iL (gR #[86,86] 86 #[sv a.2.2.1,.slice (fH a5) 1 1]) fP λa6=>fI a.2.1.1 a.2.1.2.1 b.1 λa7=>eH a7 b.1 1 λa8=>gX 35 [fN a_1,fL a8,fL a.1] fQ λa9=>dZ #[fL a9] 3 λb0=>iL (gR #[30,30] 30 #[sv a.2.1,.slice (fH b0) 1 1]) fP λb1=>gS [sv b1,sv a6]) (gS [sv a.2.1,sv a.2.2.1])) λk=>gS [sv k.1,sv k.2.1])) λl=>gS [fL (wN a.1),sv l.1,sv l.2.1]) (iJ 2 [fL a.1,sv a.2.1,sv a.2.2.1])) λm=>gS [fL (wN b.1),sv m.2.1,sv m.2.2.1,fN b.2.2.2.1])) (iJ 0 [fL b.1,sv b.2.1,sv b.2.2.1,fN b.2.2.2.1])) λn=>UQ r1 a_1 n.2.1 n.2.2.1
theorem Lh (p_0:Pl6) (a_1:gL) (a:Int):Ab gP Tryz.f9 [(aG p_0),(.pointer a_1),(.int .i64 a)] =ND p_0 a_1 a:=by kernel_rfl
noncomputable def G9 (c:gL) (a:Int):T:=iE fS (fK (a< 0) (gS [.bool true]) (deref c λB=>fE B 6 λt3=>deref t3 λC=>eF C 7 λt5=>gS [.bool (decide (a≥ (t5.2.1:Int)))])) λD=>cond D.1 (iF fM) (gZ 0 fV (iD fV [fL 0,fM] λd=>deref c λE=>fE E 6 λF=>deref F λk=>eF k 7 λe=>fI e.1 e.2.1 a λl=>dY l a 1 λm=>fJ d.1 m.2.1 (deref c λn=>fE n 6 λo=>deref o λp=>eF p 7 λf=>fI f.1 f.2.1 a λq=>dY q a 1 λg=>fI g.1 g.2.1 d.1 λh=>eH h d.1 2 λr=>eK h d.1 2 1 λs=>dZ #[fL 0,fL 0] 73 λb=>eM b 0 r<|eM b 1 s<|eL b 1 λt=>deref c λu=>eF u 2 λi=>eL b 0 λj=>fI i.1 i.2.1 j λv=>eG v j 3 1 λw=>iE [aS] (cond (t==(w.2.1:Int)) (eL b 0 λx=>dZ #[fL x] 3 λy=>iL (gR #[30,30] 30 #[sv d.2.1,.slice (fH y) 1 1]) fP λz=>gS [sv z]) (gS [sv d.2.1])) λA=>gS [fL (wN d.1),sv A.1]) (iJ 0 [fL d.1,sv d.2.1])) λG=>iF (sv G.2.1))
theorem GV (b:gL) (a:Int):Ab gP Tryz.f14 [(.pointer b),(.int .i64 a)] =G9 b a:=by kernel_rfl
noncomputable def IG (c:gL) (a:Int) (b:Int):T:=iE fS (fK (a< 0) (gS [.bool true]) (deref c λi=>eF i 7 λt3=>fK (a≥ (t3.2.1:Int)) (gS [.bool true]) (fK (b< 0) (gS [.bool true]) (deref c λj=>eF j 2 λt5=>gS [.bool (decide (b≥ (t5.2.1:Int)))])))) λk=>cond k.1 (iF fM) (deref c λl=>eF l 7 λg=>fI g.1 g.2.1 a λm=>dY m a 1 λh=>fI h.1 h.2.1 b λd=>dY d b 1 λe=>gX 40 [sv e] fP λf=>iF (sv f))
theorem HA (c:gL) (a:Int) (b:Int):Ab gP Tryz.f16 [(.pointer c),(.int .i64 a),(.int .i64 b)] =IG c a b:=by kernel_rfl
noncomputable def HB (e:gL) (b:Int) (a:Int):T:=gX 14 [fN e,fL b] fP λt1=>gZ 0 fT (iD fT [fL 0,.bool false] λf=>fJ f.1 t1.2.1 (iE fS (cond f.2.1 (gS [.bool true]) (fI t1.1 t1.2.1 f.1 λD=>eH D f.1 1 λE=>gS [.bool (E==a)])) λF=>gS [fL (wN f.1),.bool F.1]) (iJ 0 [fL f.1,.bool f.2.1])) λG=>cond (!G.2.1) (iF fM) (deref e λH=>eF H 2 λC=>fI C.1 C.2.1 a λh=>eH h a 3 λi=>eG h a 3 1 λj=>eK h a 3 2 λk=>dZ #[fL 0,fM,fL 0] 95 λd=>eM d 0 i<|eC d 1 j<|eM d 2 k<|gZ 2 fV (iD fV [fL 0,fM] λc=>deref e λl=>fE l 6 λm=>deref m λn=>eF n 6 λo=>fJ c.1 o.2.1 (deref e λp=>fE p 6 λq=>eL d 0 λr=>gX 35 [fN q,fL c.1,fL r] fQ λg=>iE fS (fK (g≥ 0) (deref e λs=>fE s 6 λt=>dX d 1 λu=>gX 43 [fN t,fL c.1,sv u] fQ λv=>gS [.bool (v==b)]) (gS [.bool false])) λw=>iE [aS] (cond w.1 (eL d 0 λx=>dZ #[fL x,fL g] 79 λy=>iL (gR #[54,54] 54 #[sv c.2.1,.slice (fH y) 1 1]) fP λz=>gS [sv z]) (gS [sv c.2.1])) λA=>gS [fL (wN c.1),sv A.1]) (iJ 2 [fL c.1,sv c.2.1])) λB=>iF (sv B.2.1))
theorem GW (c:gL) (a:Int) (b:Int):Ab gP Tryz.f19 [(.pointer c),(.int .i64 a),(.int .i64 b)] =HB c a b:=by kernel_rfl
noncomputable def Hm (small_0:Int×Int×Slc×Slc×Slc×Slc×Slc×Unit):T:=dZ #[.int .u8 small_0.1,.int .u8 small_0.2.1,sv small_0.2.2.1,sv small_0.2.2.2.1,sv small_0.2.2.2.2.1,sv small_0.2.2.2.2.2.1,sv small_0.2.2.2.2.2.2.1] 25 λr1=>gX 4 [] fR λt2=>eB r1 0 λt3=>eB r1 1 λt4=>dX r1 2 λt5=>dX r1 3 λt6=>dX r1 4 λt7=>dX r1 5 λt8=>dX r1 6 λt9=>gX 5 [.agg #[.int .u8 t3,.int .u8 t4,sv t5,sv t6,sv t7,sv t8,sv t9],fL 9,fL 4] fR λk=>cond (!k) (iF (.bool t2)) (eB r1 0 λl=>eB r1 1 λm=>dX r1 2 λn=>dX r1 3 λo=>dX r1 4 λp=>dX r1 5 λq=>dX r1 6 λr=>gX 6 [.agg #[.int .u8 l,.int .u8 m,sv n,sv o,sv p,sv q,sv r]] (.one (.agg [.slice,.slice,.slice,.slice,.slice,.slice])) λe=>dZ #[fM,fM,fM,fM,fM,fM] 32 λc=>eC c 0 e.1<|eC c 1 e.2.1<|eC c 2 e.2.2.1<|eC c 3 e.2.2.2.1<|eC c 4 e.2.2.2.2.1<|eC c 5 e.2.2.2.2.2.1<|L6 c λs t u v w x=>gX 7 [aH s t u v w x] (.tuple fU) λy=>L6 c λz A B C D E=>gX 8 [aH z A B C D E,fL 300,fL 9000] fO λg=>iE fS (cond (y.2.1 !=(0:Int)) (gS [.bool true]) (gS [.bool (iU g)])) λF=>cond F.1 (iF (.bool t2)) (L6 c λG H I J K L=>gX 9 [aH G H I J K L,fN g,fL 60] fO λh=>eB r1 0 λM=>eB r1 1 λN=>dX r1 2 λO=>dX r1 3 λP=>dX r1 4 λQ=>dX r1 5 λR=>dX r1 6 λS=>gX 10 [.agg #[.int .u8 M,.int .u8 N,sv O,sv P,sv Q,sv R,sv S]] (.tuple [.agg [.slice,.slice,.slice,.slice,.slice,.slice],aP,aP,aB]) λa=>dZ #[fM,fM,fM,fM,fM,fM] 32 λf=>eC f 0 a.1.1<|eC f 1 a.1.2.1<|eC f 2 a.1.2.2.1<|eC f 3 a.1.2.2.2.1<|eC f 4 a.1.2.2.2.2.1<|eC f 5 a.1.2.2.2.2.2.1<|iE fS (cond (!a.2.2.2.1) (gS [.bool true]) (cond (iU h) (gS [.bool true]) (deref g λi=>eF i 6 λj=>gX 11 [fN a.2.1] fQ λU=>kO (i.add 6) (sv j)<|gS [.bool (U !=(j.2.1:Int))]))) λV=>cond V.1 (iE fS (cond t2 (gS [.bool a.2.2.2.1]) (gS [.bool false])) λW=>iF (.bool W.1)) (gZ 0 fT (iD fT [fL (-1:Int),.bool false] λb=>deref g λX=>eF X 6 λY=>fK (b.1≤(Y.2.1:Int)) (gX 13 [fN a.2.2.1,fL b.1] fP λZ=>gX 14 [fN h,fL b.1] fP λa0=>gX 12 [sv Z,sv a0] fR λa1=>cond (!a1) (iF (.bool false)) (gZ 2 fT (iD fT [fL (-1:Int),.bool b.2.1] λd=>dX c 2 λa2=>fK (d.1≤(a2.2.1:Int)) (iE fS (gX 15 [fN a.2.2.1,fL b.1,fL d.1] fP λa3=>gX 16 [fN h,fL b.1,fL d.1] fP λa4=>gX 12 [sv a3,sv a4] fR λa5=>cond (!a5) (gS [.bool true]) (gX 18 [fN a.2.2.1,fL b.1,fL d.1] fP λa6=>gX 19 [fN h,fL b.1,fL d.1] fP λa7=>gX 17 [sv a6,sv a7] fR λa8=>gS [.bool (!a8)])) λa9=>cond a9.1 (iF (.bool false)) (gS [fL (wN d.1),.bool d.2.1])) (iJ 2 [fL d.1,.bool d.2.1])) λb0=>gS [fL (wN b.1),.bool b0.2.1])) (iJ 0 [fL b.1,.bool b.2.1])) λb1=>iF (.bool t2))))
theorem G0 (small_0:Int×Int×Slc×Slc×Slc×Slc×Slc×Unit):Ab gP Tryz.f3 [(.agg #[(.int .u8 small_0.1),(.int .u8 small_0.2.1),(sv small_0.2.2.1),(sv small_0.2.2.2.1),(sv small_0.2.2.2.2.1),(sv small_0.2.2.2.2.2.1),(sv small_0.2.2.2.2.2.2.1)])] =Hm small_0:=by kernel_rfl
noncomputable def Li (a:Int):T:=fK (a< 0) (iF (fL 0)) (fK (a>(1099511627776:Int)) (iF (fL 1099511627776)) (iF (fL a)))
theorem Jo (a:Int):Ab gP Tryz.f28 [(.int .i64 a)] =Li a:=by kernel_rfl
section
variable {φ:AD}{h:AE}{F:List Chk}
noncomputable def Cr (a:Int):Option Int:=cond (decide (a< 0)) (some 0) (cond (decide (a>1099511627776)) (some 1099511627776) (some a))
theorem C4 {a:Int}(b:St φ (F) h) {r:Int}(hd:Cr a=some r):
 CallsH gP 28 [(.int .i64 a)] h (Ap λv h'=>∃ψ:AD,∃y:Int,Sub φ ψ∧v=fQ.val y∧y=r∧St ψ (F) h'):=by
 refine AY mixed Tryz.func28 (Jo ..)<|AH hd rfl (λ_ hd=> ?_) (λ_ hd=> ?_)
 ·obtain rfl:=iS hd;exact AC ⟨φ,(0:Int),sb,rfl,rfl,b⟩
 refine AH hd rfl (λ_ hd=> ?_) (λ_ hd=> ?_)
 ·obtain rfl:=iS hd;exact AC ⟨φ,(1099511627776:Int),sb,rfl,rfl,b⟩
 obtain rfl:=iS hd;exact AC ⟨φ,a,sb,rfl,rfl,b⟩
noncomputable def BD (b:List A9) (c:List A9):Option Bool:=
 cond ((b.length:Int) !=(c.length:Int))
 (some false)
 ((DE (σ:=Unit) (β:=Bool) 0 (b.length:Int) () λa h=>
  (idx b a).bind λd=>
  (idx c a).bind λe=>
  cond (!((d.1==e.1) && ((d.2==e.2) && true)))
  (some (iG false))
  (some (iH ()))).bind λf=>match f with
  |.next i=>
   some true
  |.done g=>some g)
theorem JC {A:Slc}{c:List A9}{B:Slc}{d:List A9}(f:Ro.SliceIs BG φ A c) (i:Ro.SliceIs BG φ B d) (D:St φ (F) h) {r:Bool}(hd:BD c d=some r):
 CallsH gP 49 [(sv A),(sv B)] h (Ap λv h'=>∃ψ:AD,∃y:Bool,Sub φ ψ∧v=fR.val y∧y=r∧St ψ (F) h'):=by
 refine AY mixed Tryz.func49 (I6 ..) ?_;have e:A.2.1=iA c:=f.length;have k:B.2.1=iA d:=i.length;refine AH hd (by rw[e,k] <;>rfl) (λ_ hd=> ?_) (λ_ hd=> ?_)
 ·obtain rfl:=iS hd;exact AC ⟨φ,false,sb,rfl,rfl,D⟩
 have⟨z,l,hd⟩:=bS hd;refine BZ l (λm y w_ g=>∃ψ:AD,Sub φ ψ∧y.1=m∧()=g∧St ψ (F) w_) ((0:Int),false,()) rfl ⟨φ,sb,rfl,rfl,D⟩ ?_ ?_ ?_
 ·rintro _ C a0 _ _ ⟨j,E,rfl,rfl,b⟩ a G n o p;refine Ac (dT e n)<|OM f a b λH a=>OM i a b λI a=>AH a rfl (λ_ a=> ?_) (λ_ a=> ?_)
  ·obtain rfl:=iS a;obtain rfl:=p _ rfl;obtain rfl:=iS hd;exact Aj (Al (AC ⟨j,false,sb,rfl,rfl,b⟩))
  obtain rfl:=iS a;exact AZ ((wN C.1),C.2.1,()) _ rfl rfl ⟨j,sb,o,rfl,b⟩
 ·rintro _ C J _ ⟨q,K,rfl,rfl,s⟩ t u;subst u;refine AU (dF e t)<|AI (AL (C.1,C.2.1,()) rfl ⟨_,rfl,_,q,sb,rfl,rfl,s⟩)
 rintro L M ⟨_,rfl,_,w,N,_,rfl,x⟩;obtain rfl:=iS hd;exact AC ⟨w,true,sb,rfl,rfl,x⟩
noncomputable def DO (b:List C5) (c:List C5):Option Bool:=
 cond ((b.length:Int) !=(c.length:Int))
 (some false)
 ((DE (σ:=Unit) (β:=Bool) 0 (b.length:Int) () λa h=>
  (idx b a).bind λd=>
  (idx c a).bind λe=>
  cond (!((d.1==e.1) && ((d.2==e.2) && true)))
  (some (iG false))
  (some (iH ()))).bind λf=>match f with
  |.next i=>
   some true
  |.done g=>some g)
theorem JD {A:Slc}{c:List C5}{B:Slc}{d:List C5}(f:Ro.SliceIs DR φ A c) (i:Ro.SliceIs DR φ B d) (D:St φ (F) h) {r:Bool}(hd:DO c d=some r):
 CallsH gP 17 [(sv A),(sv B)] h (Ap λv h'=>∃ψ:AD,∃y:Bool,Sub φ ψ∧v=fR.val y∧y=r∧St ψ (F) h'):=by
 refine AY mixed Tryz.func17 (I7 ..) ?_;have e:A.2.1=iA c:=f.length;have k:B.2.1=iA d:=i.length;refine AH hd (by rw[e,k] <;>rfl) (λ_ hd=> ?_) (λ_ hd=> ?_)
 ·obtain rfl:=iS hd;exact AC ⟨φ,false,sb,rfl,rfl,D⟩
 have⟨z,l,hd⟩:=bS hd;refine BZ l (λm y w_ g=>∃ψ:AD,Sub φ ψ∧y.1=m∧()=g∧St ψ (F) w_) ((0:Int),false,()) rfl ⟨φ,sb,rfl,rfl,D⟩ ?_ ?_ ?_
 ·rintro _ C a0 _ _ ⟨j,E,rfl,rfl,b⟩ a G n o p;refine Ac (dT e n)<|OM f a b λH a=>OM i a b λI a=>AH a rfl (λ_ a=> ?_) (λ_ a=> ?_)
  ·obtain rfl:=iS a;obtain rfl:=p _ rfl;obtain rfl:=iS hd;exact Aj (Al (AC ⟨j,false,sb,rfl,rfl,b⟩))
  obtain rfl:=iS a;exact AZ ((wN C.1),C.2.1,()) _ rfl rfl ⟨j,sb,o,rfl,b⟩
 ·rintro _ C J _ ⟨q,K,rfl,rfl,s⟩ t u;subst u;refine AU (dF e t)<|AI (AL (C.1,C.2.1,()) rfl ⟨_,rfl,_,q,sb,rfl,rfl,s⟩)
 rintro L M ⟨_,rfl,_,w,N,_,rfl,x⟩;obtain rfl:=iS hd;exact AC ⟨w,true,sb,rfl,rfl,x⟩
noncomputable def Cy (a:List A9) (x_1:A9):Option (List A9):=(loop (σ:=Int) (β:=Int) 0 λb=>(cond (decide (b< (a.length:Int))) ((idx a b).bind λe=>cond (decide (e.1<x_1.1)) (some true) ((idx a b).bind λf=>cond (f.1==x_1.1) ((idx a b).bind λg=>some (decide (g.2<x_1.2))) (some false))) (some false)).bind λn=>cond n (some (iH (gO .i64 (b+1)))) (some (iG b))).bind λd=>(cond (decide (d< (a.length:Int))) ((idx a d).bind λc=>some ((c.1==x_1.1) && ((c.2==x_1.2) && true))) (some false)).bind λh=>cond h (some a) ((cut a 0 d).bind λi=>(cut a d (a.length:Int)).bind λj=>(app ([]:List A9) i).bind λk=>(app k ([(x_1.1,x_1.2)]:List A9)).bind λl=>(app l j).bind λm=>some m)
theorem GG {A:Slc}{s:List A9}{x_1:Int×Int×Unit}(e:Ro.SliceIs BG φ A s) (T:St φ (F) h) {r:(List A9)}(hd:Cy s (x_1.1,x_1.2.1)=some r):
 CallsH gP 30 [(sv A),(.agg #[(.int .i64 x_1.1),(.int .i64 x_1.2.1)])] h (Ap λv h'=>∃ψ:AD,∃y:Slc,∃J:List A9,Sub φ ψ∧v=fP.val y∧J=r∧Ro.SliceIs BG ψ y J∧St ψ (F) h'):=by
 refine AY mixed Tryz.func30 (Kh ..) ?_;have w:A.2.1=iA s:=e.length;refine AV (vs:=[.int .i64 x_1.1,.int .i64 x_1.2.1]) T λr1 dc U=> ?_;have⟨V,W,hd⟩:=bS hd;refine Ag (λy w_ g=>∃ψ:AD,Sub φ ψ∧y.1=g∧St ψ (cW 73 r1 [.int .i64 x_1.1,.int .i64 x_1.2.1]::F) w_) (g:=V) ?_ ?_
 ·refine CA W (λy w_ g=>∃ψ:AD,Sub φ ψ∧y.1=g∧St ψ (cW 73 r1 [.int .i64 x_1.1,.int .i64 x_1.2.1]::F) w_) ((0:Int),()) rfl ⟨φ,sb,rfl,U⟩ ?_
  ·rintro K dd _ _ ⟨k,de,rfl,d⟩ f X;have⟨Y,c,f⟩:=bS f;refine Aa (λy w_ g=>∃ψ:AD,Sub k ψ∧y.1=g∧St ψ (cW 73 r1 [.int .i64 x_1.1,.int .i64 x_1.2.1]::F) w_) (g:=Y) ?_ ?_
   ·refine AH c (by rw[w] <;>rfl) (λ_ c=> ?_) (λ_ c=> ?_)
    ·refine IS Wo e c d λdf c=>AA d rfl<|AH c rfl (λ_ c=> ?_) (λ_ c=> ?_)
     ·obtain rfl:=iS c;exact AO (true,()) rfl ⟨k,sb,rfl,d⟩
     refine IS Wo e c d λdg c=>AA d rfl<|AH c rfl (λ_ c=> ?_) (λ_ c=> ?_)
     ·refine ixS ai e c d λZ c=>AA d rfl ?_;obtain rfl:=iS c;exact AO ((decide (Z.2<x_1.2.1)),()) rfl ⟨k,sb,rfl,d⟩
     obtain rfl:=iS c;exact AO (false,()) rfl ⟨k,sb,rfl,d⟩
    obtain rfl:=iS c;exact AO (false,()) rfl ⟨k,sb,rfl,d⟩
   rintro z4 dh ⟨L,di,rfl,M⟩;refine AH f rfl (λ_ f=> ?_) (λ_ f=> ?_)
   ·obtain rfl:=iS f;exact AZ ((wN K.1),()) _ rfl rfl ⟨L,sb,rfl,M⟩
   obtain rfl:=iS f;obtain rfl:=X _ rfl;exact AI (AL (K.1,()) rfl ⟨L,sb,rfl,M⟩)
 rintro z2 dj ⟨x,dk,rfl,m⟩;have⟨ba,i,hd⟩:=bS hd;refine Aa (λy w_ g=>∃ψ:AD,Sub x ψ∧y.1=g∧St ψ (cW 73 r1 [.int .i64 x_1.1,.int .i64 x_1.2.1]::F) w_) (g:=ba) ?_ ?_
 ·refine AH i (by rw[w] <;>rfl) (λ_ i=> ?_) (λ_ i=> ?_)
  ·refine OM e i m λN i=>AA m rfl<|AA m rfl ?_;obtain rfl:=iS i;exact AO (((N.1==x_1.1) && ((N.2==x_1.2.1) && true)),()) rfl ⟨x,sb,rfl,m⟩
  obtain rfl:=iS i;exact AO (false,()) rfl ⟨x,sb,rfl,m⟩
 rintro f0 dl ⟨z,dm,rfl,o⟩;refine AH hd rfl (λ_ hd=> ?_) (λ_ hd=> ?_)
 ·obtain rfl:=iS hd;exact AC ⟨z,A,s,sb,rfl,rfl,e.up,o.tail⟩
 have⟨a0,bb,hd⟩:=bS hd;obtain⟨bd,u⟩:=(e.up (ψ:=z)).cut (sz:=2) bb rfl;refine Ah bd ?_;have E:=u.length;refine AA o rfl<|AA o rfl ?_;have⟨G,bf,hd⟩:=bS hd;obtain⟨O,p⟩:=(e.up (ψ:=z)).cut (sz:=2) bf rfl;rw[←w]at O p;refine Ah O ?_;have H:=p.length;refine DY ?_ ?_
 ·refine AV (vs:=[]) o λf1 dn q=>AN (kF (b:=r1) (j:=0) q.at1 rfl)<|AN (kF (b:=r1) (j:=1) q.at1 rfl)<|DY ?_ ?_
  ·have⟨dp,bg,bi⟩:=u.heap q.sub;have bj:=jV (r:=BG) (l:=([]:List A9)) (n:=0) q .nil rfl (by decide);have⟨dq,bl,hd⟩:=bS hd;refine AX (r:=BG) (ms:=a0) Cm bj rfl bi bg E.symm bl ?_;intro f2 dr I;refine AN (kF (b:=r1) (j:=0) I.at1 rfl)<|AN (kF (b:=r1) (j:=1) I.at1 rfl)<|AV (vs:=[.int .i64 x_1.1,.int .i64 x_1.2.1]) I λf3 ds ad=> ?_;have⟨dt,bn,hd⟩:=bS hd;refine AX (r:=BG) (ms:=([(x_1.1,x_1.2.1)]:List A9)) Cm ad.tail rfl (iO ad) (.cons (a:=[_,_]) ⟨[_],_,rfl,rfl,rfl⟩ .nil) rfl bn ?_;intro f4 du al;have⟨dv,bp,bq⟩:=p.heap al.sub;have⟨bs,bt,hd⟩:=bS hd;refine AX (r:=BG) (ms:=G) Cm al rfl bq bp H.symm bt ?_;intro B dw bx;have⟨bz,dx,c0,c1⟩:=hZ (t:=B) bx;obtain rfl:=iS hd;exact AC ⟨bz,B,bs,sb,rfl,rfl,c0,c1.tail⟩
  ·refine AV (vs:=[.int .i64 x_1.1,.int .i64 x_1.2.1]) q λf5 dy ap=> ?_;have⟨dz,c2,c3⟩:=u.heap ap.sub;have c4:=jV (r:=BG) (l:=([]:List A9)) (n:=0) ap.at1 .nil rfl (by decide);have⟨e0,c5,hd⟩:=bS hd;refine AX (r:=BG) (ms:=a0) Cm c4 rfl c3 c2 E.symm c5 ?_;intro f6 e1 ax;have⟨e2,c6,hd⟩:=bS hd;refine AX (r:=BG) (ms:=([(x_1.1,x_1.2.1)]:List A9)) Cm ax.at1.tail rfl (iO ax.at1) (.cons (a:=[_,_]) ⟨[_],_,rfl,rfl,rfl⟩ .nil) rfl c6 ?_;intro f7 e3 P;have⟨e4,c7,c8⟩:=p.heap P.sub;have⟨c9,ch,hd⟩:=bS hd;refine AX (r:=BG) (ms:=G) Cm P rfl c8 c7 H.symm ch ?_;intro C e5 cl;have⟨cm,e6,cp,cs⟩:=hZ (t:=C) cl;obtain rfl:=iS hd;exact AC ⟨cm,C,c9,sb,rfl,rfl,cp,cs.tail⟩
 ·refine AV (vs:=[.int .i64 x_1.1,.int .i64 x_1.2.1]) o λf8 e7 cw=>AV (vs:=[]) cw λf9 e8 Q=> ?_;have⟨e9,cx,d0⟩:=u.heap Q.sub;have d1:=jV (r:=BG) (l:=([]:List A9)) (n:=0) Q .nil rfl (by decide);have⟨ea,d2,hd⟩:=bS hd;refine AX (r:=BG) (ms:=a0) Cm d1 rfl d0 cx E.symm d2 ?_;intro g0 eb R;have⟨ec,d3,hd⟩:=bS hd;refine AX (r:=BG) (ms:=([(x_1.1,x_1.2.1)]:List A9)) Cm R.at1.tail rfl (iO R.at1) (.cons (a:=[_,_]) ⟨[_],_,rfl,rfl,rfl⟩ .nil) rfl d3 ?_;intro g1 ed S;have⟨ee,d4,d5⟩:=p.heap S.sub;have⟨d6,d7,hd⟩:=bS hd;refine AX (r:=BG) (ms:=G) Cm S rfl d5 d4 H.symm d7 ?_;intro D ef d8;have⟨d9,eg,da,db⟩:=hZ (t:=D) d8;obtain rfl:=iS hd;exact AC ⟨d9,D,d6,sb,rfl,rfl,da,db.tail⟩
noncomputable def BS (p_0:Au) (x_1:A9):Option Int:=(idx p_0.2.2.1 x_1.1).bind λa=>cond (decide (x_1.2< (a.2.1.length:Int))) ((idx p_0.2.2.1 x_1.1).bind λb=>(idx b.2.1 x_1.2).bind λc=>some c) (some (-1:Int))
theorem Ch {p_0:Pl6}{d_p_0:Au}{x_1:Int×Int×Unit}(b:JR φ p_0 d_p_0) (o:St φ (F) h) {r:Int}(hd:BS d_p_0 (x_1.1,x_1.2.1)=some r):
 CallsH gP 29 [(aG p_0),(.agg #[(.int .i64 x_1.1),(.int .i64 x_1.2.1)])] h (Ap λv h'=>∃ψ:AD,∃y:Int,Sub φ ψ∧v=fQ.val y∧y=r∧St ψ (F) h'):=by
 refine AY mixed Tryz.func29 (IF ..)<|GK (t:=p_0) o λr1 i c=>AV (vs:=[.int .i64 x_1.1,.int .i64 x_1.2.1]) c λp j a=>AA a rfl<|AA a.at1 rfl<|AA a rfl<|ixR HX b.k2 hd a λk l d hd=> ?_;have e:=d.length;refine AH hd (by rw[e] <;>rfl) (λ_ hd=> ?_) (λ_ hd=> ?_)
 ·refine AA a.at1 rfl<|AA a rfl<|ixR HX b.k2 hd a λm n f hd=>AA a rfl<|gx f hd a λg hd=> ?_;obtain rfl:=iS hd;exact AC ⟨φ,g,sb,rfl,rfl,a.tail.tail⟩
 obtain rfl:=iS hd;exact AC ⟨φ,(-1:Int),sb,rfl,rfl,a.tail.tail⟩
noncomputable def BO (p_0:Au) (a:List A9):Option (List A9):=(app ([]:List A9) a).bind λt3=>(loop (σ:=(Bool×List A9)) (β:=List A9) (true,t3) λi=>cond i.1 ((loop (σ:=(Int×Bool×List A9)) (β:=(Bool×List A9)) (0,false,i.2) λd=>(cond (decide (d.1< (d.2.2.length:Int))) (some (!d.2.1)) (some false)).bind λn=>cond n ((idx d.2.2 d.1).bind λe=>(BS p_0 (e.1,e.2)).bind λj=>(forS (σ:=(Bool×List A9)) 0 (p_0.2.2.1.length:Int) (d.2.1,d.2.2) λb c=>(idx p_0.2.2.1 b).bind λk=>(cond (k.1==j) ((Cy c.2 (b,0)).bind λf=>(cond c.1 (some true) (some (decide ((f.length:Int) >(c.2.length:Int))))).bind λl=>some (l,f)) (some (c.1,c.2))).bind λg=>some (g.1,g.2)).bind λh=>some (iH ((gO .i64 (d.1+1)),h.1,h.2))) (some (iG (d.2.1,d.2.2)))).bind λm=>some (iH (m.1,m.2))) (some (iG i.2))).bind λo=>some o
theorem Hn {p_0:Pl6}{d_p_0:Au}{A:Slc}{j:List A9}(p:JR φ p_0 d_p_0) (x:Ro.SliceIs BG φ A j) (Z:St φ (F) h) {r:(List A9)}(hd:BO d_p_0 j=some r):
 CallsH gP 50 [(aG p_0),(sv A)] h (Ap λv h'=>∃ψ:AD,∃y:Slc,∃z:List A9,Sub φ ψ∧v=fP.val y∧z=r∧Ro.SliceIs BG ψ y z∧St ψ (F) h'):=by
 refine AY mixed Tryz.func50 (Hh ..) ?_;have a0:p_0.2.2.1.2.1=iA d_p_0.2.2.1:=p.k2.length;have b5:A.2.1=iA j:=x.length;refine GK (t:=p_0) Z λr1 dh b6=>AV (vs:=[]) b6 λr2 di K=> ?_;have⟨dj,b7,b8⟩:=x.heap K.sub;have b9:=jV (r:=BG) (l:=([]:List A9)) (n:=0) K .nil rfl (by decide);have⟨ba,bb,hd⟩:=bS hd;refine AX (r:=BG) (ms:=j) Cm b9 rfl b8 b7 b5.symm bb ?_;intro t3 dk bd;have⟨q,dl,bf,bg⟩:=hZ (t:=t3) bd;have⟨bi,bj,hd⟩:=bS hd;refine Ag (λy w_ g=>∃ψ:AD,∃L:List A9,Sub q ψ∧L=g∧Ro.SliceIs BG ψ y.2.1 L∧St ψ (Wq2 r1 p_0::F) w_) (g:=bi) ?_ ?_
 ·refine CA bj (λy w_ g=>∃ψ:AD,∃M:List A9,Sub q ψ∧(y.1,M)=g∧Ro.SliceIs BG ψ y.2.1 M∧St ψ (Wq2 r1 p_0::F) w_) (true,t3,()) rfl ⟨q,ba,sb,rfl,bf,bg⟩ ?_
  ·rintro H dm _ _ ⟨k,N,dn,rfl,O,P⟩ c bl;refine AH c rfl (λ_ c=> ?_) (λ_ c=> ?_)
   ·have⟨bn,bp,c⟩:=bS c;refine Ag (λy w_ g=>∃ψ:AD,∃Q:List A9,Sub k ψ∧(y.2.1,Q)=g∧Ro.SliceIs BG ψ y.2.2.1 Q∧St ψ (Wq2 r1 p_0::F) w_) (g:=bn) ?_ ?_
    ·refine CA bp (λy w_ g=>∃ψ:AD,∃R:List A9,Sub k ψ∧(y.1,y.2.1,R)=g∧Ro.SliceIs BG ψ y.2.2.1 R∧St ψ (Wq2 r1 p_0::F) w_) ((0:Int),false,H.2.1,()) rfl ⟨k,N,sb,rfl,O,P⟩ ?_
     ·rintro C dp _ _ ⟨s,S,dq,rfl,m,ad⟩ a bq;have bs:=m.length;have⟨bt,d,a⟩:=bS a;refine Aa (λy w_ g=>∃ψ:AD,Sub s ψ∧y.1=g∧St ψ (Wq2 r1 p_0::F) w_) (g:=bt) ?_ ?_
      ·refine AH d (by rw[bs] <;>rfl) (λ_ d=> ?_) (λ_ d=> ?_)
       ·obtain rfl:=iS d;exact AO ((!C.2.1),()) rfl ⟨s,sb,rfl,ad⟩
       obtain rfl:=iS d;exact AO (false,()) rfl ⟨s,sb,rfl,ad⟩
      rintro z8 dr ⟨bx,ds,rfl,o⟩;refine AH a rfl (λ_ a=> ?_) (λ_ a=> ?_)
      ·refine Bk (t:=p_0) o<|OM m a o λal a=> ?_;have⟨dt,bz,a⟩:=bS a;refine AK (Ch (x_1:=(al.1,al.2,())) p.up o bz) ?_;rintro _ du ⟨ap,I,dv,rfl,rfl,c0⟩;refine⟨I,rfl,?_⟩;have⟨dw,c1,a⟩:=bS a;refine BM c1 (λc2 y w_ g=>∃ψ:AD,∃ax:List A9,Sub ap ψ∧y.1=c2∧(y.2.1,ax)=g∧Ro.SliceIs BG ψ y.2.2.1 ax∧St ψ (Wq2 r1 p_0::F) w_) ((0:Int),C.2.1,C.2.2.1,()) rfl ⟨ap,S,sb,rfl,rfl,m.up,c0⟩ ?_ ?_ ?_
       ·rintro _ B dx _ _ ⟨T,c3,dy,rfl,rfl,u,e⟩ f dz c4 c5;have c6:=u.length;refine AA e rfl<|Ac (dT a0 c4)<|AA e rfl<|IS L8 p.k2 f e λe0 f=> ?_;have⟨c7,b,f⟩:=bS f;refine Aa (λy w_ g=>∃ψ:AD,∃U:List A9,Sub T ψ∧(y.1,U)=g∧Ro.SliceIs BG ψ y.2.1 U∧St ψ (Wq2 r1 p_0::F) w_) (g:=c7) ?_ ?_
        ·refine AH b rfl (λ_ b=> ?_) (λ_ b=> ?_)
         ·have⟨e1,c8,b⟩:=bS b;refine AK (GG (x_1:=(B.1,(0:Int),())) u e c8) ?_;rintro _ e2 ⟨w,D,c9,e3,rfl,rfl,V,W⟩;refine⟨D,rfl,?_⟩;have ch:=V.length;have⟨cl,i,b⟩:=bS b;refine Aa (λy w_ g=>∃ψ:AD,Sub w ψ∧y.1=g∧St ψ (Wq2 r1 p_0::F) w_) (g:=cl) ?_ ?_
          ·refine AH i rfl (λ_ i=> ?_) (λ_ i=> ?_)
           ·obtain rfl:=iS i;exact AO (true,()) rfl ⟨w,sb,rfl,W⟩
           obtain rfl:=iS i;exact AO ((decide ((D.2.1:Int) >(B.2.2.1.2.1:Int))),()) rfl ⟨w,sb,(by rw[ch,c6]),W⟩
          rintro J e4 ⟨cm,e5,rfl,cp⟩;obtain rfl:=iS b;exact AO (J.1,D,()) rfl ⟨cm,c9,sb,rfl,V.up,cp⟩
         obtain rfl:=iS b;exact AO (B.2.1,B.2.2.1,()) rfl ⟨T,c3,sb,rfl,u,e⟩
        rintro E e6 ⟨cs,cw,e7,rfl,cx,d0⟩;obtain rfl:=iS f;exact AZ ((wN B.1),E.1,E.2.1,()) _ rfl rfl ⟨cs,cw,sb,c5,rfl,cx,d0⟩
       ·rintro _ B e8 ⟨d1,d2,e9,rfl,rfl,d3,X⟩ d4;refine AA X rfl<|AU (dF a0 d4)<|AI (AL (B.1,B.2.1,B.2.2.1,()) rfl ⟨_,d1,d2,sb,rfl,rfl,d3,X⟩)
       rintro G ea ⟨_,d5,d6,eb,_,rfl,d7,d8⟩;obtain rfl:=iS a;exact AZ ((wN C.1),G.2.1,G.2.2.1,()) _ rfl rfl ⟨d5,d6,sb,rfl,d7,d8⟩
      obtain rfl:=iS a;obtain rfl:=bq _ rfl;exact AI (AL (C.1,C.2.1,C.2.2.1,()) rfl ⟨bx,S,sb,rfl,m.up,o⟩)
    rintro Y ec ⟨d9,da,ed,rfl,db,dc⟩;obtain rfl:=iS c;exact AZ (Y.2.1,Y.2.2.1,()) _ rfl rfl ⟨d9,da,sb,rfl,db,dc⟩
   obtain rfl:=iS c;obtain rfl:=bl _ rfl;exact AI (AL (H.1,H.2.1,()) rfl ⟨k,N,sb,rfl,O,P⟩)
 rintro z4 ee ⟨dd,de,ef,rfl,df,dg⟩;obtain rfl:=iS hd;exact AC ⟨dd,z4.2.1,de,sb,rfl,rfl,df,dg.tail⟩
noncomputable def BP (b:NU) (a:Int) (c:Int):Option Int:=
 (cond (decide (a< 0))
 (some true)
 (some (decide (a≥ (b.2.2.2.2.2.2.2.2.1.length:Int))))).bind λl=>
 cond l
 (some (-1:Int))
 ((loop (σ:=Int) (β:=AW Unit Int) 0 λe=>
  (idx b.2.2.2.2.2.2.2.2.1 a).bind λf=>
  cond (decide (e< (f.length:Int)))
  ((idx b.2.2.2.2.2.2.2.2.1 a).bind λg=>
   (idx g e).bind λh=>
   cond (h.1==c)
   ((idx b.2.2.2.2.2.2.2.2.1 a).bind λi=>
    (idx i e).bind λj=>
    some (iG (iG j.2)))
   (some (iH (gO .i64 (e+1)))))
  (some (iG (iH ())))).bind λd=>match d with
  |.next m=>
   some (-1:Int)
  |.done k=>some k)
theorem DU {C:gL}{i:NU}{A:Int}{B:Int}(d:Pt Oq φ C i) (E:St φ (F) h) {r:Int}(hd:BP i A B=some r):
 CallsH gP 35 [(.pointer C),(.int .i64 A),(.int .i64 B)] h (Ap λv h'=>∃ψ:AD,∃y:Int,Sub φ ψ∧v=fQ.val y∧y=r∧St ψ (F) h'):=by
 refine AY mixed Tryz.func35 (Hi ..) ?_;have⟨l,c,hd⟩:=bS hd;refine Aa (λy w_ g=>∃ψ:AD,Sub φ ψ∧y.1=g∧St ψ (F) w_) (g:=l) ?_ ?_
 ·refine AH c rfl (λ_ c=> ?_) (λ_ c=> ?_)
  ·obtain rfl:=iS c;exact AO (true,()) rfl ⟨φ,sb,rfl,E⟩
  refine pfR RD d E λm n=> ?_;have o:=n.length;obtain rfl:=iS c;exact AO ((decide (A≥ (m.2.1:Int))),()) rfl ⟨φ,sb,(by rw[o]),E⟩
 rintro J K ⟨e,L,rfl,j⟩;refine AH hd rfl (λ_ hd=> ?_) (λ_ hd=> ?_)
 ·obtain rfl:=iS hd;exact AC ⟨e,(-1:Int),sb,rfl,rfl,j⟩
 have⟨p,q,hd⟩:=bS hd;refine Ag (λy w_ g=>∃ψ:AD,Sub e ψ∧iH ()=g∧St ψ (F) w_) (g:=p) ?_ ?_
 ·refine CA q (λy w_ g=>∃ψ:AD,Sub e ψ∧y.1=g∧St ψ (F) w_) ((0:Int),(0:Int),()) rfl ⟨e,sb,rfl,j⟩ ?_
  ·rintro D M _ _ ⟨f,N,rfl,b⟩ a k;refine pfR RD d b λO s=>gxS s a b λP ad t a=> ?_;have u:=t.length;refine AH a (by rw[u] <;>rfl) (λ_ a=> ?_) (λ_ a=> ?_)
   ·refine pfR RD d b λal w=>gxS w a b λap ax x a=>IS aj x a b λQ a=>AH a rfl (λ_ a=> ?_) (λ_ a=> ?_)
    ·refine pfR RD d b λR z=>gxS z a b λS T a0 a=>ixS ak a0 a b λG a=> ?_;obtain rfl:=iS a;obtain rfl:=k _ rfl;obtain rfl:=iS hd;exact Aj (Al (AC ⟨f,G.2,sb,rfl,rfl,b⟩))
    obtain rfl:=iS a;exact AZ ((wN D.1),D.2.1,()) _ rfl rfl ⟨f,sb,rfl,b⟩
   obtain rfl:=iS a;obtain rfl:=k _ rfl;exact AI (AL (D.1,D.2.1,()) rfl ⟨f,sb,rfl,b⟩)
 rintro U V ⟨H,W,rfl,I⟩;obtain rfl:=iS hd;exact AC ⟨H,(-1:Int),sb,rfl,rfl,I⟩
noncomputable def Ca (d:NU) (a:Int) (b:gM):Option Int:=(cond (decide (a< 0)) (some true) (some (decide (a≥ (d.2.2.2.2.2.2.1.length:Int))))).bind λf=>cond f (some (-1:Int)) ((loop (σ:=(Int×Int)) (β:=Int) (0,a) λc=>(cond (decide (c.1< (b.length:Int))) (some (decide (c.2≥ 0))) (some false)).bind λg=>cond g ((idx b c.1).bind λe=>(BP d c.2 e).bind λh=>some (iH ((gO .i64 (c.1+1)),h))) (some (iG c.2))).bind λi=>some i)
theorem G1 {C:gL}{j:NU}{A:Int}{B:Slc}{e:gM}(k:Pt Oq φ C j) (l:Ro.SliceIs (gT .i64) φ B e) (E:St φ (F) h) {r:Int}(hd:Ca j A e=some r):
 CallsH gP 43 [(.pointer C),(.int .i64 A),(sv B)] h (Ap λv h'=>∃ψ:AD,∃y:Int,Sub φ ψ∧v=fQ.val y∧y=r∧St ψ (F) h'):=by
 refine AY mixed Tryz.func43 (Gz ..) ?_;have o:B.2.1=iA e:=l.length;have⟨p,b,hd⟩:=bS hd;refine Aa (λy w_ g=>∃ψ:AD,Sub φ ψ∧y.1=g∧St ψ (F) w_) (g:=p) ?_ ?_
 ·refine AH b rfl (λ_ b=> ?_) (λ_ b=> ?_)
  ·obtain rfl:=iS b;exact AO (true,()) rfl ⟨φ,sb,rfl,E⟩
  refine pfR To k E λq s=> ?_;have t:=s.length;obtain rfl:=iS b;exact AO ((decide (A≥ (q.2.1:Int))),()) rfl ⟨φ,sb,(by rw[t]),E⟩
 rintro N O ⟨d,P,rfl,m⟩;refine AH hd rfl (λ_ hd=> ?_) (λ_ hd=> ?_)
 ·obtain rfl:=iS hd;exact AC ⟨d,(-1:Int),sb,rfl,rfl,m⟩
 have⟨u,w,hd⟩:=bS hd;refine Ag (λy w_ g=>∃ψ:AD,Sub d ψ∧y.2.1=g∧St ψ (F) w_) (g:=u) ?_ ?_
 ·refine CA w (λy w_ g=>∃ψ:AD,Sub d ψ∧(y.1,y.2.1)=g∧St ψ (F) w_) ((0:Int),A,()) rfl ⟨d,sb,rfl,m⟩ ?_
  ·rintro D Q _ _ ⟨f,R,rfl,n⟩ a x;have⟨z,c,a⟩:=bS a;refine Aa (λy w_ g=>∃ψ:AD,Sub f ψ∧y.1=g∧St ψ (F) w_) (g:=z) ?_ ?_
   ·refine AH c (by rw[o] <;>rfl) (λ_ c=> ?_) (λ_ c=> ?_)
    ·obtain rfl:=iS c;exact AO ((decide (D.2.1≥ (0:Int))),()) rfl ⟨f,sb,rfl,n⟩
    obtain rfl:=iS c;exact AO (false,()) rfl ⟨f,sb,rfl,n⟩
   rintro S ad ⟨a0,al,rfl,i⟩;refine AH a rfl (λ_ a=> ?_) (λ_ a=> ?_)
   ·refine gx l a i λap a=> ?_;have⟨ax,H,a⟩:=bS a;refine AK (DU k.up i H) ?_;rintro _ T ⟨I,G,U,rfl,rfl,J⟩;refine⟨G,rfl,?_⟩;obtain rfl:=iS a;exact AZ ((wN D.1),G,()) _ rfl rfl ⟨I,sb,rfl,J⟩
   obtain rfl:=iS a;obtain rfl:=x _ rfl;exact AI (AL (D.1,D.2.1,()) rfl ⟨a0,sb,rfl,i⟩)
 rintro K V ⟨L,W,rfl,M⟩;obtain rfl:=iS hd;exact AC ⟨L,K.2.1,sb,rfl,rfl,M⟩
end
abbrev RW:Type:=(List gN×List gN×List Ax×gM×gM×List gN×List (List A9)×List (List A9)×List Slc×gM×gM×Int)
abbrev rW:Rep RW:=(jJ (lF (hQ iX)) (jJ (lF (hQ iX)) (jJ (lF (hQ CI)) (jJ (lF (hQ (gT .i64))) (jJ (lF (hQ (gT .i64))) (jJ (lF (hQ iX)) (jJ (lI 74 (hQ BG)) (jJ (lI 74 (hQ BG)) (jJ (lI 54 kN) (jJ (lI 3 (gT .i64)) (jJ (lI 3 (gT .i64)) (lF (gT .i64)))))))))))))
theorem PX:Fv gP 46 46 74 1:=⟨lA,.inl lA,⟨Tryz.t74,by kernel_rfl,rfl,⟨_,rfl,rfl⟩,by decide,by decide⟩,by decide⟩
theorem UR:Fv gP 47 47 54 1:=⟨lB,.inl lB,⟨Tryz.t54,by kernel_rfl,rfl,⟨_,rfl,rfl⟩,by decide,by decide⟩,by decide⟩
noncomputable def CT (a:RW) (d:List A9) (b:Int) (c:Int):Option (Int×RW):=
 (loop (σ:=Int) (β:=AW Unit (Int×RW)) 0 λj=>
  cond (decide (j< (a.2.2.2.2.2.2.1.length:Int)))
  ((idx a.2.2.2.2.2.2.1 j).bind λe=>
   (BD e d).bind λo=>
   cond o
   (some (iG (iG (j,(a.1,a.2.1,a.2.2.1,a.2.2.2.1,a.2.2.2.2.1,a.2.2.2.2.2.1,a.2.2.2.2.2.2.1,a.2.2.2.2.2.2.2.1,a.2.2.2.2.2.2.2.2.1,a.2.2.2.2.2.2.2.2.2.1,a.2.2.2.2.2.2.2.2.2.2.1,(a.2.2.2.2.2.2.2.2.2.2.2))))))
   (some (iH (gO .i64 (j+1)))))
  (some (iG (iH ())))).bind λf=>match f with
 |.next p=>
  (BO (a.1,a.2.1,a.2.2.1,a.2.2.2.1,a.2.2.2.2.1,a.2.2.2.2.2.1) d).bind λg=>
  (app a.2.2.2.2.2.2.1 ([d]:List (List A9))).bind λh=>
  (app a.2.2.2.2.2.2.2.1 ([g]:List (List A9))).bind λk=>
  (app a.2.2.2.2.2.2.2.2.1 ([((none,0,0):Slc)]:List Slc)).bind λl=>
  (app a.2.2.2.2.2.2.2.2.2.1 ([b]:gM)).bind λm=>
  (app a.2.2.2.2.2.2.2.2.2.2.1 ([c]:gM)).bind λn=>
  some ((gO .i64 ((h.length:Int) - 1)),(a.1,a.2.1,a.2.2.1,a.2.2.2.1,a.2.2.2.2.1,a.2.2.2.2.2.1,h,k,l,m,n,(gO .i64 ((a.2.2.2.2.2.2.2.2.2.2.2)+(g.length:Int)))))
 |.done i=>some i
theorem D6 {φ:AD}{h:AE}{F:List Chk}{C:gL}{b:RW}{D:Slc}{w:List A9}{A:Int}{B:Int}(z:Ro.SliceIs BG φ D w) (s0:St φ (cO 49 rW C b::F) h) {r:(Int×RW)}(hd:CT b w A B=some r):
 CallsH gP 27 [(.pointer C),(.slice D.1 D.2.1 D.2.2),(.int .i64 A),(.int .i64 B)] h (Ap λv h'=>∃ψ:AD,∃y:Int,∃bd:RW,Sub φ ψ∧v=fQ.val y∧(y,bd)=r∧St ψ (cO 49 rW C bd::F) h'):=by
 refine AY mixed Tryz.func27 (GU ..) ?_;have jw:D.2.1=iA w:=z.length;have⟨db,dc,hd⟩:=bS hd;refine Ag (λy w_ g=>∃ψ:AD,Sub φ ψ∧iH ()=g∧St ψ (cO 49 rW C b::F) w_) (g:=db) ?_ ?_
 ·refine CA dc (λy w_ g=>∃ψ:AD,Sub φ ψ∧y.1=g∧St ψ (cO 49 rW C b::F) w_) ((0:Int),(0:Int),()) rfl ⟨φ,sb,rfl,s0⟩ ?_
  ·rintro G jx _ _ ⟨O,jy,rfl,dd⟩ c bf;obtain⟨t,jz,bg,k0,de⟩:=dd.open;obtain rfl:C=some ⟨t,0,none⟩:=by simpa using bg
   clear bg;have df:=de.at1;obtain⟨k1,k2,rfl,k3,dg⟩:=df.pair;obtain⟨⟨d,dj,a0⟩,di⟩:=dg.ro;subst dj;have k4:=a0.length;obtain⟨k5,k6,rfl,k7,dk⟩:=di.pair;obtain⟨⟨e,dn,H⟩,dm⟩:=dk.ro;subst dn;have k8:=H.length;obtain⟨k9,ka,rfl,kb,dp⟩:=dm.pair;obtain⟨⟨f,ds,I⟩,dr⟩:=dp.ro;subst ds;have kc:=I.length;obtain⟨kd,ke,rfl,kf,dt⟩:=dr.pair;obtain⟨⟨i,dw,J⟩,dv⟩:=dt.ro;subst dw;have kg:=J.length;obtain⟨kh,ki,rfl,kj,dx⟩:=dv.pair;obtain⟨⟨j,e0,K⟩,dz⟩:=dx.ro;subst e0;have kk:=K.length;obtain⟨kl,km,rfl,kn,e1⟩:=dz.pair;obtain⟨⟨k,e4,L⟩,e3⟩:=e1.ro;subst e4;have ko:=L.length;obtain⟨kp,kq,rfl,kr,P⟩:=e3.pair;obtain⟨bi,e5⟩:=P.rowCs;subst e5;have e6:=P.rowLen;have e7:=P.at1;obtain⟨ks,kt,rfl,ku,ad⟩:=e7.pair;obtain⟨bj,e8⟩:=ad.rowCs;subst e8;have kv:=ad.rowLen;have e9:=ad.at1;obtain⟨kw,kx,rfl,ky,al⟩:=e9.pair;obtain⟨bl,ea⟩:=al.rowCs;subst ea;have kz:=al.rowLen;have eb:=al.at1;obtain⟨l0,l1,rfl,l2,ap⟩:=eb.pair;obtain⟨bn,ec⟩:=ap.rowCs;subst ec;have l3:=ap.rowLen;have ed:=ap.at1;obtain⟨l4,l5,rfl,l6,ax⟩:=ed.pair;obtain⟨bp,ee⟩:=ax.rowCs;subst ee;have l7:=ax.rowLen;have ef:=ax.at1;obtain⟨eg,eh⟩:=ef.ro;subst eg;have u:St O (cR 3 (gT .i64) bp b.2.2.2.2.2.2.2.2.2.2.1::cR 3 (gT .i64) bn b.2.2.2.2.2.2.2.2.2.1::cR 54 kN bl b.2.2.2.2.2.2.2.2.1::cR 74 (hQ BG) bj b.2.2.2.2.2.2.2.1::cR 74 (hQ BG) bi b.2.2.2.2.2.2.1::cW 49 t [sv d,sv e,sv f,sv i,sv j,sv k,sv bi,sv bj,sv bl,sv bn,sv bp,.int .i64 (b.2.2.2.2.2.2.2.2.2.2.2)]::F) _:=eh;refine AF _ rfl<|AA u.at5 rfl<|AH c (by rw[e6] <;>rfl) (λ_ c=> ?_) (λ_ c=> ?_)
   ·refine AF _ rfl<|AA u.at5 rfl ?_;have⟨l8,ei,c⟩:=bS c;obtain⟨l9,la,ej,ek,el,em⟩:=(u.at4).get ei;refine AF _ ej (Ah ek ?_);obtain⟨en,rfl,bq⟩:=el;have lb:=bq.length;refine AG (x:=en) (em 0 _ rfl) rfl ?_;have⟨lc,eo,c⟩:=bS c;refine AK (JC bq z.up u eo) ?_;rintro _ ld ⟨M,t9,le,rfl,rfl,bs⟩;refine⟨t9,rfl,?_⟩;refine AH c rfl (λ_ c=> ?_) (λ_ c=> ?_)
    ·have ep:=bs.at4;have er:=ep.at4;have es:=er.at4;have eu:=es.at4;have ev:=eu.at4;have ew:=iN (r:=(gT .i64)) (cs:=[.int .i64 (b.2.2.2.2.2.2.2.2.2.2.2)]) (x:=(b.2.2.2.2.2.2.2.2.2.2.2)) ev rfl;have ex:=ew.at1;have ey:=hO ex;have ez:=ey.at1;have f0:=hO ez;have f1:=f0.at1;have f2:=hO f1;have f3:=f2.at1;have f4:=hO f3;have f5:=f4.at1;have f6:=hO f5;have f7:=iN (r:=(hQ iX)) (cs:=[.slice k.1 k.2.1 k.2.2]) (x:=b.2.2.2.2.2.1) f6 ⟨k,rfl,L.up⟩;have f8:=hO f7;have f9:=iN (r:=(hQ (gT .i64))) (cs:=[.slice j.1 j.2.1 j.2.2]) (x:=b.2.2.2.2.1) f8 ⟨j,rfl,K.up⟩;have fa:=hO f9;have fb:=iN (r:=(hQ (gT .i64))) (cs:=[.slice i.1 i.2.1 i.2.2]) (x:=b.2.2.2.1) fa ⟨i,rfl,J.up⟩;have fc:=hO fb;have fd:=iN (r:=(hQ CI)) (cs:=[.slice f.1 f.2.1 f.2.2]) (x:=b.2.2.1) fc ⟨f,rfl,I.up⟩;have fe:=hO fd;have ff:=iN (r:=(hQ iX)) (cs:=[.slice e.1 e.2.1 e.2.2]) (x:=b.2.1) fe ⟨e,rfl,H.up⟩;have fg:=hO ff;have fh:=iN (r:=(hQ iX)) (cs:=[.slice d.1 d.2.1 d.2.2]) (x:=b.1) fg ⟨d,rfl,a0.up⟩;have fi:=hO fh;have fj:St M (cO 49 rW (fH t) (b.1,b.2.1,b.2.2.1,b.2.2.2.1,b.2.2.2.2.1,b.2.2.2.2.2.1,b.2.2.2.2.2.2.1,b.2.2.2.2.2.2.2.1,b.2.2.2.2.2.2.2.2.1,b.2.2.2.2.2.2.2.2.2.1,b.2.2.2.2.2.2.2.2.2.2.1,(b.2.2.2.2.2.2.2.2.2.2.2))::F) _:=lL fi.at1;obtain rfl:=iS c;obtain rfl:=bf _ rfl;obtain rfl:=iS hd;exact Aj (Al (AC ⟨M,G.1,(b.1,b.2.1,b.2.2.1,b.2.2.2.1,b.2.2.2.2.1,b.2.2.2.2.2.1,b.2.2.2.2.2.2.1,b.2.2.2.2.2.2.2.1,b.2.2.2.2.2.2.2.2.1,b.2.2.2.2.2.2.2.2.2.1,b.2.2.2.2.2.2.2.2.2.2.1,(b.2.2.2.2.2.2.2.2.2.2.2)),sb,rfl,rfl,fj⟩))
    have fk:=bs.at4;have fl:=fk.at4;have fm:=fl.at4;have fn:=fm.at4;have fo:=fn.at4;have fp:=iN (r:=(gT .i64)) (cs:=[.int .i64 (b.2.2.2.2.2.2.2.2.2.2.2)]) (x:=(b.2.2.2.2.2.2.2.2.2.2.2)) fo rfl;have fq:=fp.at1;have fr:=hO fq;have fs:=fr.at1;have ft:=hO fs;have fu:=ft.at1;have fv:=hO fu;have fw:=fv.at1;have fx:=hO fw;have fy:=fx.at1;have fz:=hO fy;have g0:=iN (r:=(hQ iX)) (cs:=[.slice k.1 k.2.1 k.2.2]) (x:=b.2.2.2.2.2.1) fz ⟨k,rfl,L.up⟩;have g1:=hO g0;have g2:=iN (r:=(hQ (gT .i64))) (cs:=[.slice j.1 j.2.1 j.2.2]) (x:=b.2.2.2.2.1) g1 ⟨j,rfl,K.up⟩;have g3:=hO g2;have g4:=iN (r:=(hQ (gT .i64))) (cs:=[.slice i.1 i.2.1 i.2.2]) (x:=b.2.2.2.1) g3 ⟨i,rfl,J.up⟩;have g5:=hO g4;have g6:=iN (r:=(hQ CI)) (cs:=[.slice f.1 f.2.1 f.2.2]) (x:=b.2.2.1) g5 ⟨f,rfl,I.up⟩;have g7:=hO g6;have g8:=iN (r:=(hQ iX)) (cs:=[.slice e.1 e.2.1 e.2.2]) (x:=b.2.1) g7 ⟨e,rfl,H.up⟩;have g9:=hO g8;have ga:=iN (r:=(hQ iX)) (cs:=[.slice d.1 d.2.1 d.2.2]) (x:=b.1) g9 ⟨d,rfl,a0.up⟩;have gb:=hO ga;have gc:St M (cO 49 rW (fH t) (b.1,b.2.1,b.2.2.1,b.2.2.2.1,b.2.2.2.2.1,b.2.2.2.2.2.1,b.2.2.2.2.2.2.1,b.2.2.2.2.2.2.2.1,b.2.2.2.2.2.2.2.2.1,b.2.2.2.2.2.2.2.2.2.1,b.2.2.2.2.2.2.2.2.2.2.1,(b.2.2.2.2.2.2.2.2.2.2.2))::F) _:=lL gb.at1;obtain rfl:=iS c;exact AZ ((gO .i64 (G.1+(1:Int))),G.2.1,()) _ rfl rfl ⟨M,sb,rfl,gc⟩
   have gd:=u.at4;have ge:=gd.at4;have gf:=ge.at4;have gg:=gf.at4;have gh:=gg.at4;have gi:=iN (r:=(gT .i64)) (cs:=[.int .i64 (b.2.2.2.2.2.2.2.2.2.2.2)]) (x:=(b.2.2.2.2.2.2.2.2.2.2.2)) gh rfl;have gj:=gi.at1;have gk:=hO gj;have gl:=gk.at1;have gm:=hO gl;have gn:=gm.at1;have go:=hO gn;have gp:=go.at1;have gq:=hO gp;have gr:=gq.at1;have gs:=hO gr;have gt:=iN (r:=(hQ iX)) (cs:=[.slice k.1 k.2.1 k.2.2]) (x:=b.2.2.2.2.2.1) gs ⟨k,rfl,L⟩;have gu:=hO gt;have gv:=iN (r:=(hQ (gT .i64))) (cs:=[.slice j.1 j.2.1 j.2.2]) (x:=b.2.2.2.2.1) gu ⟨j,rfl,K⟩;have gw:=hO gv;have gx:=iN (r:=(hQ (gT .i64))) (cs:=[.slice i.1 i.2.1 i.2.2]) (x:=b.2.2.2.1) gw ⟨i,rfl,J⟩;have gy:=hO gx;have gz:=iN (r:=(hQ CI)) (cs:=[.slice f.1 f.2.1 f.2.2]) (x:=b.2.2.1) gy ⟨f,rfl,I⟩;have h0:=hO gz;have h1:=iN (r:=(hQ iX)) (cs:=[.slice e.1 e.2.1 e.2.2]) (x:=b.2.1) h0 ⟨e,rfl,H⟩;have h2:=hO h1;have h3:=iN (r:=(hQ iX)) (cs:=[.slice d.1 d.2.1 d.2.2]) (x:=b.1) h2 ⟨d,rfl,a0⟩;have h4:=hO h3;have h5:St O (cO 49 rW (fH t) (b.1,b.2.1,b.2.2.1,b.2.2.2.1,b.2.2.2.2.1,b.2.2.2.2.2.1,b.2.2.2.2.2.2.1,b.2.2.2.2.2.2.2.1,b.2.2.2.2.2.2.2.2.1,b.2.2.2.2.2.2.2.2.2.1,b.2.2.2.2.2.2.2.2.2.2.1,(b.2.2.2.2.2.2.2.2.2.2.2))::F) _:=lL h4.at1;obtain rfl:=iS c;obtain rfl:=bf _ rfl;exact AI (AL (G.1,G.2.1,()) rfl ⟨O,sb,rfl,h5⟩)
 rintro z1 lf ⟨h6,lg,rfl,h7⟩;obtain⟨Q,lh,bt,li,h8⟩:=h7.open;obtain rfl:C=some ⟨Q,0,none⟩:=by simpa using bt
 clear bt;have h9:=h8.at1;obtain⟨lj,lk,rfl,ll,hb⟩:=h9.pair;obtain⟨⟨m,hf,R⟩,he⟩:=hb.ro;subst hf;have lm:=R.length;obtain⟨ln,lo,rfl,lp,hg⟩:=he.pair;obtain⟨⟨n,hj,S⟩,hi⟩:=hg.ro;subst hj;have lq:=S.length;obtain⟨lr,ls,rfl,lt,hk⟩:=hi.pair;obtain⟨⟨o,hn,T⟩,hm⟩:=hk.ro;subst hn;have lu:=T.length;obtain⟨lv,lw,rfl,lx,ho⟩:=hm.pair;obtain⟨⟨p,hr,U⟩,hq⟩:=ho.ro;subst hr;have ly:=U.length;obtain⟨lz,m0,rfl,m1,hs⟩:=hq.pair;obtain⟨⟨q,hv,V⟩,hu⟩:=hs.ro;subst hv;have m2:=V.length;obtain⟨m3,m4,rfl,m5,hw⟩:=hu.pair;obtain⟨⟨s,hz,W⟩,hy⟩:=hw.ro;subst hz;have m6:=W.length;obtain⟨m7,m8,rfl,m9,X⟩:=hy.pair;obtain⟨bx,i0⟩:=X.rowCs;subst i0;have ma:=X.rowLen;have i1:=X.at1;obtain⟨mb,mc,rfl,md,Y⟩:=i1.pair;obtain⟨bz,i2⟩:=Y.rowCs;subst i2;have me:=Y.rowLen;have i3:=Y.at1;obtain⟨mf,mg,rfl,mh,Z⟩:=i3.pair;obtain⟨c0,i4⟩:=Z.rowCs;subst i4;have mi:=Z.rowLen;have i5:=Z.at1;obtain⟨mj,mk,rfl,ml,ba⟩:=i5.pair;obtain⟨c1,i6⟩:=ba.rowCs;subst i6;have mm:=ba.rowLen;have i7:=ba.at1;obtain⟨mn,mo,rfl,mp,bb⟩:=i7.pair;obtain⟨c2,i8⟩:=bb.rowCs;subst i8;have mq:=bb.rowLen;have i9:=bb.at1;obtain⟨ia,ib⟩:=i9.ro;subst ia;have l:St h6 (cR 3 (gT .i64) c2 b.2.2.2.2.2.2.2.2.2.2.1::cR 3 (gT .i64) c1 b.2.2.2.2.2.2.2.2.2.1::cR 54 kN c0 b.2.2.2.2.2.2.2.2.1::cR 74 (hQ BG) bz b.2.2.2.2.2.2.2.1::cR 74 (hQ BG) bx b.2.2.2.2.2.2.1::cW 49 Q [sv m,sv n,sv o,sv p,sv q,sv s,sv bx,sv bz,sv c0,sv c1,sv c2,.int .i64 (b.2.2.2.2.2.2.2.2.2.2.2)]::F) _:=ib;refine AF _ rfl<|AA l.at5 rfl<|AA l.at5 rfl<|AA l.at5 rfl<|AA l.at5 rfl<|AA l.at5 rfl<|AA l.at5 rfl ?_;have⟨mr,ic,hd⟩:=bS hd;refine AK (Hn (p_0:=(m,n,o,p,q,s,())) (d_p_0:=(b.1,b.2.1,b.2.2.1,b.2.2.2.1,b.2.2.2.2.1,b.2.2.2.2.2.1)) ⟨R,S,T,U,V,W⟩ z.up l ic) ?_;rintro _ mu ⟨c3,E,N,mv,rfl,rfl,c4,c5⟩;refine⟨E,rfl,?_⟩;have ie:=c4.length;refine AF _ rfl<|AA c5.at5 rfl<|AV (vs:=[sv D]) c5 λo0 mw c6=> ?_;have ig:=iO c6;have ih:=c6.tail;have ii:=ih.at4;have⟨c7,ij,hd⟩:=bS hd;refine AX (r:=(hQ BG)) (ms:=([w]:List (List A9))) PX ii rfl ig (.cons (a:=[_]) ⟨D,rfl,z.up⟩ .nil) rfl ij ?_;intro e2 mx c8;have ik:=c8.rowLen;refine AF _ rfl<|AQ c8.at5 rfl rfl λmy c9=>AF _ rfl<|AA c9 rfl<|AV (vs:=[sv E]) c9 λo1 mz ch=> ?_;have il:=iO ch;have im:=ch.tail;have io:=im.at5;have⟨cl,ip,hd⟩:=bS hd;refine AX (r:=(hQ BG)) (ms:=([N]:List (List A9))) PX io rfl il (.cons (a:=[_]) ⟨E,rfl,c4⟩ .nil) rfl ip ?_;intro o2 n0 cm;have n1:=cm.rowLen;refine AF _ rfl<|AQ cm.at1 rfl rfl λn2 cp=>AF _ rfl<|AA cp rfl<|AV (vs:=[.slice none 0 0]) cp λo3 n3 cw=> ?_;have iq:=iO cw;have ir:=cw.tail;have it:=ir.at5;have⟨cx,iu,hd⟩:=bS hd;refine AX (r:=kN) (ms:=([((none,0,0):Slc)]:List Slc)) UR it rfl iq (.cons (a:=[_]) rfl .nil) rfl iu ?_;intro o4 n4 d0;have n5:=d0.rowLen;refine AF _ rfl<|AQ d0.at1 rfl rfl λn6 d1=>AF _ rfl<|AA d1 rfl<|AV (vs:=[.int .i64 A]) d1 λo5 n7 d2=> ?_;have iv:=iO d2;have iw:=d2.tail;have ix:=iw.at5;have⟨d3,iy,hd⟩:=bS hd;refine AX (r:=(gT .i64)) (ms:=([A]:gM)) B0 ix rfl iv (.cons (a:=[_]) rfl .nil) rfl iy ?_;intro o6 n8 d4;have n9:=d4.rowLen;refine AF _ rfl<|AQ d4.at1 rfl rfl λna d5=>AF _ rfl<|AA d5 rfl<|AV (vs:=[.int .i64 B]) d5 λo7 nb d6=> ?_;have iz:=iO d6;have j0:=d6.tail;have j1:=j0.at5;have⟨d7,j2,hd⟩:=bS hd;refine AX (r:=(gT .i64)) (ms:=([B]:gM)) B0 j1 rfl iz (.cons (a:=[_]) rfl .nil) rfl j2 ?_;intro o8 nc d8;have nd:=d8.rowLen;refine AF _ rfl<|AQ d8.at1 rfl rfl λnf d9=>AF _ rfl<|AA (x:=(b.2.2.2.2.2.2.2.2.2.2.2)) d9 rfl<|AF _ rfl<|AQ d9 rfl rfl λng da=>AF _ rfl<|AA da rfl ?_;have j3:=da.at5;have j4:=j3.at5;have j5:=j4.at5;have j6:=j5.at5;have j7:=j6.at5;have j8:=iN (r:=(gT .i64)) (cs:=[.int .i64 (gO .i64 ((b.2.2.2.2.2.2.2.2.2.2.2)+(E.2.1:Int)))]) (x:=(gO .i64 ((b.2.2.2.2.2.2.2.2.2.2.2)+(N.length:Int)))) j7 (show _=_ by rw[ie];rfl);have j9:=j8.at1;have ja:=hO j9;have jb:=ja.at1;have jc:=hO jb;have jd:=jc.at1;have je:=hO jd;have jf:=je.at1;have jg:=hO jf;have jh:=jg.at1;have ji:=hO jh;have jj:=iN (r:=(hQ iX)) (cs:=[.slice s.1 s.2.1 s.2.2]) (x:=b.2.2.2.2.2.1) ji ⟨s,rfl,W.up⟩;have jk:=hO jj;have jl:=iN (r:=(hQ (gT .i64))) (cs:=[.slice q.1 q.2.1 q.2.2]) (x:=b.2.2.2.2.1) jk ⟨q,rfl,V.up⟩;have jm:=hO jl;have jn:=iN (r:=(hQ (gT .i64))) (cs:=[.slice p.1 p.2.1 p.2.2]) (x:=b.2.2.2.1) jm ⟨p,rfl,U.up⟩;have jo:=hO jn;have jp:=iN (r:=(hQ CI)) (cs:=[.slice o.1 o.2.1 o.2.2]) (x:=b.2.2.1) jo ⟨o,rfl,T.up⟩;have jq:=hO jp;have jr:=iN (r:=(hQ iX)) (cs:=[.slice n.1 n.2.1 n.2.2]) (x:=b.2.1) jq ⟨n,rfl,S.up⟩;have js:=hO jr;have jt:=iN (r:=(hQ iX)) (cs:=[.slice m.1 m.2.1 m.2.2]) (x:=b.1) js ⟨m,rfl,R.up⟩;have ju:=hO jt;have jv:St c3 (cO 49 rW (fH Q) (b.1,b.2.1,b.2.2.1,b.2.2.2.1,b.2.2.2.2.1,b.2.2.2.2.2.1,c7,cl,cx,d3,d7,(gO .i64 ((b.2.2.2.2.2.2.2.2.2.2.2)+(N.length:Int))))::F) _:=lL ju.at1;obtain rfl:=iS hd;exact AC ⟨c3,(gO .i64 ((e2.2.1:Int) - (1:Int))),(b.1,b.2.1,b.2.2.1,b.2.2.2.1,b.2.2.2.2.1,b.2.2.2.2.2.1,c7,cl,cx,d3,d7,(gO .i64 ((b.2.2.2.2.2.2.2.2.2.2.2)+(N.length:Int)))),sb,rfl,(by rw[ik]),jv⟩
abbrev RS (ε:Type):Type:=List (List Item)×List (List Item)×List ε×gM×gM×Int
abbrev RP:Type:=Au
abbrev mkW {ε:Type}(p:RP) (y:RS ε):List gN×List gN×List Ax×gM×gM×List gN×RS ε:=(p.1,p.2.1,p.2.2.1,p.2.2.2.1,p.2.2.2.2.1,p.2.2.2.2.2,y)
theorem V7 {σ β γ:Type}{s:σ}{f:σ→Option (AW σ β)}{f':σ→Option (AW σ γ)}(g:β→γ) (h:∀s,f' s=(f s).map λe=>match e with
 |.next s=>.next s
 |.done b=>.done (g b)):loop s f'=(loop s f).map g:=by
 have it:∀n s,HW f' n s=(HW f n s).map g:=by
  intro n
  induction n with
  |zero=>intro s;rfl
  |succ n ih=>
   intro s;unfold HW;rw[h];cases f s with
   |none=>rfl
   |some e=>cases e with
    |next s=>exact ih s
    |done b=>rfl
 cases hl:loop s f with
 |some b=>
  have⟨n,hn⟩:=Ee.1 hl;exact Ee.2 ⟨n,by rw[it,hn];rfl⟩
 |none=>
  cases hl':loop s f' with
  |none=>rfl
  |some c=>
   have⟨n,hn⟩:=Ee.1 hl';rw[it]at hn;cases hi:HW f n s with
   |none=>rw[hi]at hn;cases hn
   |some b=>
    rw[Ee.2 ⟨n,hi⟩]at hl;cases hl
noncomputable def PY (K:List (List Item)) (k:List Item):Option (AW Unit Int):=loop (σ:=Int) (β:=AW Unit Int) 0 λz=>cond (decide (z< (K.length:Int))) ((idx K z).bind λe=>(BD e k).bind λt=>cond t (some (iG (iG z))) (some (iH (gO .i64 (z+1))))) (some (iG (iH ())))
noncomputable def placeG {ε:Type}(nl:ε) (p:RP) (y:RS ε) (k:List Item) (fr wi:Int):Option (Int×RS ε):=
 (PY y.1 k).bind λe=>match e with
 |.next _=>
  (BO p k).bind λc=>
  (app y.1 [k]).bind λK=>(app y.2.1 [c]).bind λI=>(app y.2.2.1 [nl]).bind λE=>(app y.2.2.2.1 [fr]).bind λF=>(app y.2.2.2.2.1 [wi]).bind λW=>
  some (gO .i64 ((K.length:Int) - 1),(K,I,E,F,W,gO .i64 (y.2.2.2.2.2+(c.length:Int))))
 |.done j=>some (j,y)
theorem X4 (p:RP) (y:RS Slc) (k:List Item) (fr wi:Int):CT (mkW p y) k fr wi=(placeG Cv p y k fr wi).map λr=>(r.1,mkW p r.2):=by
 unfold CT placeG PY;rw[V7 (λ(e:AW Unit Int)=>(match e with
  |.next u=>iH u
  |.done j=>iG (j,mkW p y):AW Unit (Int×RW))) (f:=λz=>cond (decide (z< (y.1.length:Int)))
  ((idx y.1 z).bind λe=>(BD e k).bind λt=>cond t (some (iG (iG z))) (some (iH (gO .i64 (z+(1:Int))))))
  (some (iG (iH ())))) (λz=> ?_)]
 ·cases loop (σ:=Int) (β:=AW Unit Int) (0:Int) λz=>cond (decide (z< (y.1.length:Int)))
   ((idx y.1 z).bind λe=>(BD e k).bind λt=>cond t (some (iG (iG z))) (some (iH (gO .i64 (z+(1:Int))))))
   (some (iG (iH ()))) with
  |none=>rfl
  |some e=>
   cases e with
   |done j=>rfl
   |next u=>
    show(BO p k).bind _=((BO p k).bind _).map _;cases BO p k with
    |none=>rfl
    |some c=>
     show(app y.1 [k]).bind _=((app y.1 [k]).bind _).map _;cases app y.1 [k]with
     |none=>rfl
     |some K=>
      show(app y.2.1 [c]).bind _=((app y.2.1 [c]).bind _).map _;cases app y.2.1 [c]with
      |none=>rfl
      |some I=>
       show(app y.2.2.1 [Cv]).bind _=((app y.2.2.1 [Cv]).bind _).map _;cases app y.2.2.1 [Cv]with
       |none=>rfl
       |some E=>
        show(app y.2.2.2.1 [fr]).bind _=((app y.2.2.2.1 [fr]).bind _).map _;cases app y.2.2.2.1 [fr]with
        |none=>rfl
        |some F=>
         show(app y.2.2.2.2.1 [wi]).bind _=((app y.2.2.2.2.1 [wi]).bind _).map _;cases app y.2.2.2.2.1 [wi]with
         |none=>rfl
         |some W=>rfl
 ·show cond _ _ _=iP _ (cond _ _ _);show cond (decide (z< (y.1.length:Int))) _ _=_;cases decide (z< (y.1.length:Int)) with
  |false=>rfl
  |true=>
   show(idx y.1 z).bind _=((idx y.1 z).bind _).map _;cases idx y.1 z with
   |none=>rfl
   |some e=>
    show(BD e k).bind _=((BD e k).bind _).map _;cases BD e k with
    |none=>rfl
    |some t=>cases t<;>rfl
theorem US {p:RP}{K I:List (List Item)}{E:List (List Edge)}{S:List Slc}{F W:gM}{tot:Int}{k:List Item}{fr wi:Int}{n:Int}{y:RS (List Edge)}(hl:S.length=E.length) (h:placeG [] p (K,I,E,F,W,tot) k fr wi=some (n,y)):
 ∃S',placeG Cv p (K,I,S,F,W,tot) k fr wi=some (n,(y.1,y.2.1,S',y.2.2.2))∧((y=(K,I,E,F,W,tot)∧S'=S)∨(S'=S++ [Cv] ∧y.2.2.1=E++ [[]] ∧ ∃c,y.1=K++ [k] ∧y.2.1=I++ [c])):=by
 unfold placeG at h ⊢;have⟨e,he,h⟩:=bS h;rw[he];dsimp only at h ⊢;rw[iT];cases e with
 |done j=>cases h;exact⟨S,rfl,.inl ⟨rfl,rfl⟩⟩
 |next u=>
  have⟨c,g,h⟩:=bS h;obtain⟨K',d,h⟩:=bS h;obtain⟨I',f,h⟩:=bS h;obtain⟨E',i,h⟩:=bS h;obtain⟨F',l,h⟩:=bS h;obtain⟨W',m,h⟩:=bS h;cases h;obtain⟨b,rfl⟩:=Hp i;have a:app S [Cv] =some (S++ [Cv]):=Fi (by rw[hl];exact b);obtain⟨_,rfl⟩:=Hp d;obtain⟨_,rfl⟩:=Hp f;refine⟨S++ [Cv],?_,.inr ⟨rfl,rfl,c,rfl,rfl⟩⟩;dsimp only;rw[g,iT,d,iT,f,iT,a,iT,l,iT,m,iT]
noncomputable def ZP (p:RP) (I:List Item) (sym:Int):Option (List Item):=forS 0 (I.length:Int) ([]:List Item) λj k=>(idx I j).bind λx=>(BS p x).bind λb=>cond (b==sym) (Cy k (x.1,gO .i64 (x.2+1))) (some k)
noncomputable def symR (p:RP) (i sym:Int) (y:RS (List Edge)):Option (RS (List Edge)):=(idx y.2.1 i).bind λI=>(ZP p I sym).bind λk=>cond (decide ((k.length:Int) >0)) ((placeG [] p y k i sym).bind λr=>(idx r.2.2.2.1 i).bind λel=>(app el [(sym,r.1)]).bind λel'=>(DB r.2.2.2.1 i el').bind λE=>some (r.2.1,r.2.2.1,E,r.2.2.2.2)) (some y)
noncomputable def Rf (p:RP) (i:Int) (y:RS (List Edge)):Option (RS (List Edge)):=forS 0 (gO .i64 ((p.1.length:Int)+(p.2.1.length:Int))+1) y λsym y=>symR p i sym y
noncomputable def Qk (st it:Int) (y:RS (List Edge)):Option Bool:=(Cr st).bind λh=>cond (decide ((y.1.length:Int) >h)) (some true) ((Cr it).bind λh=>some (decide (y.2.2.2.2.2>h)))
noncomputable def Rg (p:RP) (st it:Int) (y:RS (List Edge)):Option (Option (RS (List Edge))):=loop (σ:=Int×RS (List Edge)) (0,y) λz=>cond (decide (z.1< (z.2.1.length:Int))) ((Qk st it z.2).bind λm=>cond m (some (iG none)) ((Rf p z.1 z.2).bind λy=>some (iH (gO .i64 (z.1+1),y)))) (some (iG (some z.2)))
noncomputable def PZ (p:RP) (st it:Int):Option (Option NU):=
 (placeG [] p ([],[],[],[],[],0) [(0,0)] (-1:Int) (-1:Int)).bind λr=>
 (Rg p st it r.2).bind λe=>match e with
 |none=>some none
 |some y=>(Qk st it y).bind λm=>cond m (some none) (some (some (mkW p y)))
theorem Pa {α:Type}{R:α→α→Prop}(ir:∀x,¬R x x) (tr:∀ {x y z},R x y→R y z→R x z):∀ {l m:List α},l.Pairwise R→m.Pairwise R→(∀x,x∈l↔x∈m)→l=m:=by
 intro l
 induction l with
 |nil=>
  intro m _ _ h;cases m with
  |nil=>rfl
  |cons y m=>exact gI ((h y).2 (jM ..)) (by simp)
 |cons a l ih=>
  intro m hl hm h;cases m with
  |nil=>exact gI ((h a).1 (jM ..)) (by simp)
  |cons b m=>
   rw[List.pairwise_cons]at hl hm;have hab:a=b:=by
    rcases kH.1 ((h a).1 (jM ..)) with e | e
    ·exact e
    ·rcases kH.1 ((h b).2 (jM ..)) with e' | e'
     ·exact e'.symm
     ·exact gI (tr (hl.1 b e') (hm.1 a e)) (ir a)
   subst hab;rw[ih hl.2 hm.2 λx=>⟨λhx=> ?_,λhx=> ?_⟩]
   ·rcases kH.1 ((h x).1 (kT _ hx)) with rfl | e
    ·exact gI (hl.1 x hx) (ir x)
    ·exact e
   ·rcases kH.1 ((h x).2 (kT _ hx)) with rfl | e
    ·exact gI (hm.1 x hx) (ir x)
    ·exact e
theorem Lt.tri (x y:Item) (d:¬Lt x y) (c:x≠y):Lt y x:=by
 unfold Lt at *
 have:¬(x.1=y.1∧x.2=y.2):=λ⟨a,b⟩=>c (lN a b)
 omega
theorem Pb {α:Type}[DecidableEq α] {e:α→α→Bool}{k:AW Unit Bool→Option Bool}(he:∀x y,e x y=true↔x=y) (d:k (.next ())=some true) (f:∀b,k (.done b)=some b) (l m:List α) (h:l.length≤9223372036854775807):
 cond ((l.length:Int) !=(m.length:Int)) (some false) ((DE (σ:=Unit) (β:=Bool) (0:Int) (l.length:Int) () λi _=>(idx l i).bind λx=>(idx m i).bind λy=>cond (!(e x y)) (some (iG false)) (some (iH ()))).bind k)=some (decide (l=m)):=by
 refine lP (AR (λhc=>AB ?_) λhc=> ?_)
 ·have:l≠m:=λe=>by subst e;simp at hc
  exact(gB this).symm
 have hl:(l.length:Int)=(m.length:Int):=by simpa using hc
 refine F6 (λi _=>∀j:Nat,j<i→l[j]? =m[j]?) (λb=>b=decide (l=m)) h (λj hj=>by omega) (λi _ hi hI=> ?_) (λ_ hI=> ?_) λb hb=>by rw[f];exact AB hb
 ·have a:=gV hi;have c:=gV (show i<m.length by omega);refine AS a (AS c (AR (λhc=>As ?_) λhc=>BJ ?_))
  ·refine(gB λg=> ?_).symm;subst g;have g:=(he l[i] l[i]).2 rfl;rw[g]at hc;cases hc
  ·intro j hj;have hc:e l[i] m[i] =true:=by simpa using hc
   rcases kJ.1 hj with g | rfl
   ·exact hI j g
   ·rw[a,c,(he _ _).1 hc]
 ·rw[d];refine AB (gC (List.ext_getElem? λj=> ?_)).symm;rcases Nat.lt_or_ge j l.length with g | g
  ·exact hI j g
  ·rw[iZ g,iZ (by omega)]
theorem Ql (l m:List Item) (h:l.length≤9223372036854775807):BD l m=some (decide (l=m)):=by
 unfold BD;refine Pb (α:=Int×Int) (e:=λx y=>(x.1==y.1) && ((x.2==y.2) && true)) ?_ ?_ ?_ l m h
 ·exact λx y=>by rw[Prod.ext_iff];simp
 ·rfl
 ·exact λ_=>rfl
theorem V8 (l m:List Edge) (h:l.length≤9223372036854775807):DO l m=some (decide (l=m)):=Ql l m h
theorem JE {p:RP}{x:Item}(h:OkI p.2.2.1 x):BS p x=some (beh p.2.2.1 x):=by
 obtain⟨b,d,r,a,e⟩:=h;refine lP ?_;unfold BS;refine Ck b a (AR (λc=> ?_) λc=>AB ?_)
 ·have c:=gD c;have hg:=gV (show x.2.toNat<r.2.1.length by omega);refine Ck b a (Ck d hg (AB ?_));unfold beh;rw[a];dsimp only;rw[hg];rfl
 ·have c:=gE c;unfold beh;rw[a];dsimp only;rw[iZ (by omega)];rfl
theorem VC {α β:Type}{R:α→α→Prop}(ir:∀x,¬R x x) (tr:∀ {x y z},R x y→R y z→R x z) (tri:∀x y,¬R x y→x≠y→R y x) {l:List α}(hl:l.Pairwise R) (hn:l.length≤1000000000) {x:α}{C E:Int→Option Bool}(mk:List α→Bool→β)
 (hC:∀i:Nat,Ok (C (i:Int)) λc=>c=true↔∃y,l[i]? =some y∧R y x) (hE:∀i:Nat,Ok (E (i:Int)) λc=>c=true↔l[i]? =some x):
 Ok ((loop (σ:=Int) (β:=Int) (0:Int) λz=>(C z).bind λc=>cond c (some (iH (gO .i64 (z+(1:Int))))) (some (iG z))).bind λz=>(E z).bind λc=>cond c (some (mk l false))
  ((cut l (0:Int) z).bind λa=>(cut l z (l.length:Int)).bind λb=>(app ([]:List α) a).bind λt=>(app t [x]).bind λt=>(app t b).bind λt=>some (mk t true)))
  λr=>∃m b,r=mk m b∧m.Pairwise R∧(∀y,y∈m↔y∈l∨y=x)∧((x∈l∧m=l∧b=false)∨(x∉l∧m.length=l.length+1∧b=true)):=by
 refine Bq (λz=>∃i:Nat,z=(i:Int)∧i≤l.length∧ ∀(j:Nat) y,j<i→l[j]? =some y→R y x) (λz=>l.length - z.toNat) (λb=>∃i:Nat,b=(i:Int)∧i≤l.length∧(∀(j:Nat) y,j<i→l[j]? =some y→R y x)∧ ∀y,l[i]? =some y→ ¬R y x) ⟨0,rfl,Nat.zero_le _,λj y h=>by omega⟩ (λz hz=> ?_) λb hb=> ?_
 ·obtain⟨i,rfl,hi,hI⟩:=hz;refine AM (hC i) λc hc=>AR (λh=>BJ ?_) λh=>As ⟨i,rfl,hi,hI,λy f k=>by have:=hc.2 ⟨y,f,k⟩;rw[h]at this;cases this⟩;have⟨y,hy,hlt⟩:=hc.1 h;have hil:=(gY.1 hy).1;rw[w64 (n:=(i:Int)+1) (by omega) (by omega)];refine⟨⟨i+1,by omega,hil,λj y' hj e=> ?_⟩,by omega⟩;rcases kJ.1 hj with g | rfl
  ·exact hI j y' g e
  ·rw[hy]at e;cases e;exact hlt
 obtain⟨i,rfl,hi,hI,hx⟩:=hb;refine AM (hE i) λc hc=>AR (λh=>AB ?_) λh=> ?_
 ·have hm:=iM (hc.1 h);exact⟨l,false,rfl,hl,λy=>⟨.inl,λh=>h.elim id λe=>by rw[e];exact hm⟩,.inl ⟨hm,rfl,rfl⟩⟩
 have hne:l[i]?≠some x:=λe=>by rw[hc.2 e]at h;cases h
 have o:cut l (0:Int) (i:Int)=some (l.take i):=by unfold cut;rw[gF ⟨by omega,by omega,by omega⟩];simp
 have p:cut l (i:Int) (l.length:Int)=some (l.drop i):=by unfold cut;rw[gF ⟨by omega,by omega,by omega⟩];simp
 have hlen:(l.take i).length+(l.drop i).length=l.length:=by simp;omega
 refine AP o (AP p (BI (by simp;omega) (BI (by simp;omega) (BI (by simp;omega) (AB ?_)))));rw[jW];have lo:∀y∈l.take i,R y x:=λy hy=>by
  obtain⟨j,hj⟩:=jH hy;have hji:j<i:=by have:=(gY.1 hj).1;simp at this;omega
  rw[List.getElem?_take_of_lt hji]at hj;exact hI j y hji hj
 have hi':∀y∈l.drop i,R x y:=λy hy=>by
  obtain⟨j,hj⟩:=jH hy;rw[jY]at hj;have hjl:=(gY.1 hj).1;have hg:=gV (show i<l.length by omega);have d:R x l[i]:=tri _ _ (hx _ hg) (λe=>hne (by rw[hg,e]));rcases kX j with rfl | g
  ·rw[Nat.add_zero,hg]at hj;cases hj;exact d
  ·have:=List.pairwise_iff_getElem.1 hl i (i+j) (by omega) hjl (by omega)
   rw[(gY.1 hj).2]at this;exact tr d this
 have hnot:x∉l:=λhm=>by
  rw[←jG i l]at hm;rcases jK.1 hm with g | g
  ·exact ir x (lo x g)
  ·exact ir x (hi' x g)
 refine⟨_,true,rfl,?_,λy=> ?_,.inr ⟨hnot,by simp;omega,rfl⟩⟩
 ·refine kU.2 ⟨kU.2 ⟨hl.sublist (List.take_sublist i l),List.pairwise_singleton _ _,λa ha b hb=> ?_⟩,hl.sublist (List.drop_sublist i l),λa ha b hb=> ?_⟩
  ·obtain rfl:=kD.1 hb;exact lo a ha
  ·rcases jK.1 ha with g | g
   ·exact tr (lo a g) (hi' b hb)
   ·obtain rfl:=kD.1 g;exact hi' b hb
 ·have:y∈l↔y∈l.take i∨y∈l.drop i:=by rw[←jK,jG]
  rw[jK,jK,kD,this];exact⟨λh=>by rcases h with(h | h)|h<;>simp[h],λh=>by rcases h with(h | h)|h<;>simp[h]⟩
theorem VD {l:List Item}(hl:l.Pairwise Lt) (hn:l.length≤1000000) (x:Item):Ok (Cy l x) λm=>m.Pairwise Lt∧(∀y,y∈m↔y∈l∨y=x)∧((x∈l∧m=l)∨(x∉l∧m.length=l.length+1)):=by
 unfold Cy;refine(VC Lt.irrefl (λd a=>Lt.trans d a) Lt.tri hl (by omega) (x:=x) (λm _=>m) (λi=> ?_) λi=> ?_).mono λr hr=> ?_
 ·refine AR (λhc=> ?_) λhc=>AB ⟨by simp,λ⟨y,hy,_⟩=> ?_⟩
  ·have hg:=gV (show i<l.length by have:=gD hc;omega);rw[hg];unfold Lt;refine AS hg (AR (λh=>AB ?_) λh=>AS hg (AR (λa=>AS hg (AB ?_)) λa=>AB ?_))
   ·exact⟨λ_=>⟨_,rfl,.inl (gD h)⟩,λ_=>rfl⟩
   ·have h:=gE h;rw[decide_eq_true_iff];exact⟨λc=>⟨_,rfl,.inr ⟨by simpa using a,c⟩⟩,λ⟨y,e,c⟩=>by cases e;omega⟩
   ·have h:=gE h;exact⟨λe=>(by cases e),λ⟨y,e,c⟩=>by cases e;simp at a;omega⟩
  ·have:=gE hc
   rw[iZ (by omega)]at hy;cases hy
 ·refine AR (λhc=> ?_) λhc=>AB ⟨by simp,λe=> ?_⟩
  ·have hg:=gV (show i<l.length by have:=gD hc;omega);refine AS hg (AB ?_);rw[hg,Option.some.injEq,Prod.ext_iff];simp
  ·have:=gE hc
   rw[iZ (by omega)]at e;cases e
 ·obtain⟨m,b,rfl,d,a,c⟩:=hr;exact⟨d,a,c.imp (λh=>⟨h.1,h.2.1⟩) λh=>⟨h.1,h.2.1⟩⟩
theorem Pl.vp {nt nl:Nat}{p:Au}(H:Pl nt nl p):VPp p:=by
 have hT:=H.terms.len;obtain⟨st,b,c,a⟩:=H.first;have each:∀r∈p.2.2.1,((nt+1:Nat):Int) ≤r.1∧r.2.1.length≤8∧ ∀s∈r.2.1,0≤s:=λr hr=>by
  obtain⟨k,hk⟩:=jH hr;rcases kX k with rfl | h
  ·rw[a]at hk;cases hk;refine⟨by dsimp only;omega,by simp,λs hs=> ?_⟩
   have:s=st:=by simpa using hs
   omega
  ·have:=H.rules k r h hk
   exact⟨this.left.1,this.few,λs hs=>by have:=this.right s hs;omega⟩
 have:=H.room
 exact⟨by omega,λr hr=>by rw[hT];exact(each r hr).1,λr hr=>(each r hr).2.2,by omega,λr hr=>by have:=(each r hr).2.1;omega⟩
theorem Pl.pos {nt nl:Nat}{p:Au}(H:Pl nt nl p):1≤p.2.2.1.length:=H.room.1
structure Fin (p:Au) (B:List dtK) (E:List (List Edge)):Prop where
 wf:∀b∈B,Je p.2.2.1 b.1∧b.2.1=clo p b.1
 len:E.length=B.length
 zero:B[0]? =some (k0,clo p k0, -1, -1)
 from_:∀(j:Nat) b,1≤j→B[j]? =some b→ ∃(f:Nat) (bf:dtK) (e:List Edge),f<j∧b.2.2.1=(f:Int)∧B[f]? =some bf∧b.1=nx p.2.2.1 bf.2.1 b.2.2.2∧b.2.2.2∈sy p.2.2.1 bf.2.1∧E[f]? =some e∧(b.2.2.2,(j:Int))∈e
 apart:∀(i j:Nat) bi bj,B[i]? =some bi→B[j]? =some bj→bi.1=bj.1→i=j
 done:∀(j:Nat) b e,B[j]? =some b→E[j]? =some e→HQ p.2.2.1 B b (sy p.2.2.1 b.2.1) e
theorem X5 {p:Au}(V:VPp p) (hp:1≤p.2.2.1.length) {n:Nat}(h:(stM p n).1.length≤n):Fin p (stM p n).1 (stM p n).2:=by
 have H:=No V hp n;exact⟨H.wf,H.len,H.zero,H.from_,H.apart,λj b e hb he=>H.done j b e (by have:=Bo hb;omega) hb he⟩
abbrev DA (p:Au) (B:List dtK) (E:List (List Edge)) (t:Int):EC:=(p.1,p.2.1,p.2.2.1,p.2.2.2.1,p.2.2.2.2.1,p.2.2.2.2.2,Ey B E,t)
section
variable {p:Au}{B:List dtK}{E:List (List Edge)}{t:Int}
theorem Pc (H:Fin p B E):B5 (DA p B E t)=some (B.length:Int):=by
 unfold B5;rw[Do H.len]
theorem bW {j:Nat}{b:dtK}{e:List Edge}(hb:B[j]? =some b) (he:E[j]? =some e):(Ey B E)[j]? =some (Lr b e):=by
 unfold Ey;rw[List.getElem?_zipWith,hb,he]
theorem VE (H:Fin p B E) {j:Nat}{b:dtK}{e:List Edge}(hb:B[j]? =some b) (he:E[j]? =some e):Bv (DA p B E t) (j:Int)=some (Lr b e):=by
 refine lP ?_
 have:=Bo hb
 unfold Bv;refine AM (Q:=λc=>c=false) (Af (gB (by omega)) (AB (gB (by rw[Do H.len];omega)))) λc hc=> ?_;subst hc;exact Af rfl (AS (bW hb he) (AB rfl))
theorem Fin.edge (H:Fin p B E) {j:Nat}{b:dtK}(hb:B[j]? =some b):∃e,E[j]? =some e:=⟨_,gV (by have:=Bo hb;have:=H.len;omega)⟩
theorem Fin.good (V:VPp p) (H:Fin p B E) {j:Nat}{b:dtK}(hb:B[j]? =some b):Je p.2.2.1 b.1∧Je p.2.2.1 b.2.1∧RV p.2.2.1 b.1 b.2.1∧b.1.length≤10100∧b.2.1.length≤10100:=by
 have⟨a,f⟩:=H.wf b (iM hb);have⟨_,c,d,e⟩:=Fl V a;rw[←f]at c d e;exact⟨a,d,c,Fk V a.ok (Lt.nodup a.up),e⟩
theorem Sz (V:VPp p) (H:Fin p B E) {j:Nat}{b:dtK}(hb:B[j]? =some b):B4 (DA p B E t) (j:Int)=some b.2.1:=by
 have⟨e,he⟩:=H.edge hb
 have:=(H.good V hb).2.2.2.2
 refine lP ?_;unfold B4;exact AP (VE H hb he) (AP (x:=b.2.1) (by unfold cloneD;rw[gF (by dsimp only;omega)]) (AB rfl))
theorem Fin.edges_len (V:VPp p) (H:Fin p B E) {j:Nat}{b:dtK}{e:List Edge}(hb:B[j]? =some b) (he:E[j]? =some e):e.length≤10100:=by
 have a:=(H.done j b e hb he).1;have c:=UI p.2.2.1 b.2.1;have d:=(H.good V hb).2.2.2.2;rw[←a,List.length_map]at c;omega
theorem S1 (V:VPp p) (H:Fin p B E) {j:Nat}{b:dtK}{e:List Edge}(hb:B[j]? =some b) (he:E[j]? =some e):Cp (DA p B E t) (j:Int)=some e:=by
 have:=H.edges_len V hb he
 refine lP ?_;unfold Cp;exact AP (VE H hb he) (AP (x:=e) (by unfold cloneD;rw[gF (by dsimp only;omega)]) (AB rfl))
def JF (R:Rl) (B:List dtK) (b:dtK) (e:List Edge) (s t:Int):Prop:=
 (s∈sy R b.2.1∧ ∃(q:Nat) (bt:dtK),t=(q:Int)∧1≤q∧B[q]? =some bt∧bt.1=nx R b.2.1 s∧(s,t)∈e)∨(s∉sy R b.2.1∧t= -1)
theorem X6 (V:VPp p) (H:Fin p B E) {j:Nat}{b:dtK}{e:List Edge}(hb:B[j]? =some b) (he:E[j]? =some e) (s:Int):Ok (BA (DA p B E t) (j:Int) s) (JF p.2.2.1 B b e s):=by
 have hl:=H.edges_len V hb he;have hd:=H.done j b e hb he;unfold BA;refine AP (VE H hb he)<|Mo e (λ_ x=>x.1==s) (λ_ x=>x.2) (by omega) (λk x hx=> ?_) (λhn=>AB (.inr ⟨λhs=> ?_,rfl⟩)) λk x hx hq _=>AB (.inl ?_)
 ·rw[CK,hx,iT];cases x.1==s<;>rfl
 ·rw[←hd.1]at hs;have⟨x,hx,hxs⟩:=List.mem_map.1 hs;obtain⟨k,hk⟩:=jH hx
  have:=hn k x hk
  rw[hxs]at this;simp at this
 ·have hxs:x.1=s:=eq_of_beq hq;have hm:=iM hx;have⟨q,bt,c,d,f,a⟩:=hd.2 x hm;rw[hxs]at a;refine⟨by rw[←hd.1,←hxs];exact List.mem_map.2 ⟨x,hm,rfl⟩,q,bt,c,d,f,a,?_⟩;rw[←hxs];exact hm
theorem JF.unique (H:Fin p B E) {b:dtK}{e:List Edge}{s t1 t2:Int}(g:JF p.2.2.1 B b e s t1) (h:JF p.2.2.1 B b e s t2):t1=t2:=by
 rcases g with⟨a,i,j,c,d1,k,l,_⟩|⟨a,c⟩ <;>rcases h with⟨d,m,n,f,d2,o,q,_⟩|⟨d,f⟩
 ·rw[c,f,H.apart i m j n k o (by rw[l,q])]
 ·exact gI a d
 ·exact gI d a
 ·rw[c,f]
inductive Walk (R:Rl) (B:List dtK) (E:List (List Edge)):Int→gM→Int→Prop
 |nil (j:Int):Walk R B E j [] j
 |stop {j:Nat} {b:dtK} {e:List Edge} {s:Int} {l:gM} :B[j]? =some b→E[j]? =some e→JF R B b e s (-1)→Walk R B E j (s::l) (-1)
 |step {j q:Nat} {b:dtK} {e:List Edge} {s:Int} {l:gM} {t:Int} :B[j]? =some b→E[j]? =some e→JF R B b e s (q:Int)→q<B.length→Walk R B E (q:Int) l t→Walk R B E j (s::l) t
theorem Walk.unique (H:Fin p B E):∀ {l:gM}{j t1 t2:Int},Walk p.2.2.1 B E j l t1→Walk p.2.2.1 B E j l t2→t1=t2:=by
 intro l
 induction l with
 |nil=>intro j t1 t2 m d;cases m;cases d;rfl
 |cons s l ih=>
  intro j t1 t2 m d;cases m with
  | @stop j b e _ _ h i k=>
   generalize hj:(j:Int)=j' at d
   cases d with
   |stop=>rfl
   | @step f q n o _ _ _ a c g t r=>
    have:f=j:=by omega
    subst this;rw[h]at a;rw[i]at c;cases a;cases c
    have:=JF.unique H k g
    omega
  | @step j q b e _ _ _ h i k w u=>
   generalize hj:(j:Int)=j' at d
   cases d with
   | @stop f n o _ _ a c g=>
    have:f=j:=by omega
    subst this;rw[h]at a;rw[i]at c;cases a;cases c
    have:=JF.unique H k g
    omega
   | @step f v n o _ _ _ a c g t r=>
    have:f=j:=by omega
    subst this;rw[h]at a;rw[i]at c;cases a;cases c
    have:=JF.unique H k g
    have:v=q:=by omega
    subst this;exact ih u r
theorem Walk.snoc {l:gM}:∀ {j:Int}{q r:Nat}{b:dtK}{e:List Edge}{s:Int},Walk p.2.2.1 B E j l (q:Int)→B[q]? =some b→E[q]? =some e→JF p.2.2.1 B b e s (r:Int)→r<B.length→Walk p.2.2.1 B E j (l++ [s]) (r:Int):=by
 induction l with
 |nil=>
  intro j q r b e s h hb he hg hr
  generalize hq:(q:Int)=q' at h
  cases h;subst hq;exact .step hb he hg hr (.nil _)
 |cons x l ih=>
  intro j q r b e s h hb he hg hr
  generalize hq:(q:Int)=q' at h
  cases h with
  |stop=>omega
  |step a c d f g=>
   subst hq;exact .step a c d f (ih g hb he hg hr)
theorem Walk.stops {l:gM}:∀ {j:Int}{q:Nat}{b:dtK}{e:List Edge}{s:Int},Walk p.2.2.1 B E j l (q:Int)→B[q]? =some b→E[q]? =some e→JF p.2.2.1 B b e s (-1)→ ∀m,Walk p.2.2.1 B E j (l++s::m) (-1):=by
 induction l with
 |nil=>
  intro j q b e s h hb he hg m
  generalize hq:(q:Int)=q' at h
  cases h;subst hq;exact .stop hb he hg
 |cons x l ih=>
  intro j q b e s h hb he hg m
  generalize hq:(q:Int)=q' at h
  cases h with
  |stop=>omega
  |step a c d f g=>
   subst hq;exact .step a c d f (ih g hb he hg m)
theorem ZQ (V:VPp p) (H:Fin p B E) {j:Nat}(hj:j<B.length) {l:gM}(hl:l.length≤1000000):Ok (Bt (DA p B E t) (j:Int) l) λr=>Walk p.2.2.1 B E (j:Int) l r∧(r= -1∨ ∃q:Nat,r=(q:Int)∧q<B.length):=by
 unfold Bt;refine AM (Q:=λc=>c=false) (Af (gB (by omega)) (AB (gB (by rw[Do H.len];omega)))) λc hc=> ?_;subst hc;refine Af rfl ?_;have key:Ok ((DE (σ:=Int) (β:=Int) (0:Int) (l.length:Int) (j:Int) λb h=>
  (idx l b).bind λd=>
  (BA (DA p B E t) h d).bind λf=>
  cond (decide (f< (0:Int)))
  (some (iG f))
  (some (iH f))).bind some) (λr=>Walk p.2.2.1 B E (j:Int) l (lO r)∧(lO r= -1∨ ∃q:Nat,lO r=(q:Int)∧q<B.length)):=by
  refine F6 (λk (z:Int)=>∃q:Nat,z=(q:Int)∧q<B.length∧Walk p.2.2.1 B E (j:Int) (l.take k) (q:Int)) (λr=>r= -1∧Walk p.2.2.1 B E (j:Int) l (-1)) (by omega) ⟨j,rfl,hj,.nil _⟩ (λk z hk hz=> ?_) (λz hz=>AB ?_) λr hr=>AB ⟨by show Walk p.2.2.1 B E (j:Int) l r;rw[hr.1];exact hr.2,.inl hr.1⟩
  ·obtain⟨q,rfl,hq,hw⟩:=hz;have hx:=gV hk;have hb:=gV hq;have⟨e,he⟩:=H.edge hb;refine AS hx (AM (X6 V H hb he l[k]) λt ht=> ?_);have htt:=ht;rcases ht with⟨_,r,bt,a,g,i,_⟩|⟨_,a⟩
   ·subst a;have hr:=Bo i;refine Af (gB (by omega)) (BJ ⟨r,rfl,hr,?_⟩);rw[kG,hx];exact hw.snoc hb he htt hr
   ·subst a;refine BK rfl (As ⟨rfl,?_⟩)
    have:=hw.stops hb he htt (l.drop (k+1))
    rw[show l[k]::l.drop (k+1)=l.drop k from(jI hk).symm,jG]at this;exact this
  ·obtain⟨q,rfl,hq,hw⟩:=hz;rw[List.take_of_length_le (lG _)]at hw;exact⟨hw,.inr ⟨q,rfl,hq⟩⟩
 obtain⟨r,a,g⟩:=key;rw[show ∀o:Option (AW Int Int),o.bind some=o from λo=>by cases o<;>rfl]at a
 refine AM (Q:=λr=>Walk p.2.2.1 B E (j:Int) l r∧(r= -1∨ ∃q:Nat,r=(q:Int)∧q<B.length)) ⟨lO r,?_,g⟩ λx hx=>AB hx;rw[a];rfl
end
inductive Nul (R:Rl):Int→Prop
 |rule {r:Ax} :r∈R→(∀s∈r.2.1,Nul R s)→Nul R r.1
inductive Pro (nT:Int) (R:Rl):Int→Prop
 |term {s:Int} :0≤s→s<nT→Pro nT R s
 |rule {r:Ax} :r∈R→(∀s∈r.2.1,Pro nT R s)→Pro nT R r.1
structure Gr (nT:Int) (R:Rl):Prop where
 pos:0<nT
 zero:∃r st,R[0]? =some r∧r.2.1= [st] ∧nT≤st∧(∀r'∈R,r.1∉r'.2.1)∧ ∀k r',R[k]? =some r'→r'.1=r.1→k=0
 left:∀r∈R,nT≤r.1
 right:∀r∈R,∀s∈r.2.1,0<s
 pro:∀r∈R,∀s∈r.2.1,Pro nT R s
def Pth (Tr:Nat→Int→Nat→Prop):Nat→gM→Nat→Prop
 |n,[],m=>n=m
 |n,s::l,m=>∃q,Tr n s q∧Pth Tr q l m
theorem Pth.app {Tr:Nat→Int→Nat→Prop}:∀ {l l':gM}{n m:Nat},Pth Tr n (l++l') m↔∃q,Pth Tr n l q∧Pth Tr q l' m:=by
 intro l
 induction l with
 |nil=>intro l' n m;exact⟨λh=>⟨n,rfl,h⟩,λ⟨q,a,b⟩=>by cases a;exact b⟩
 |cons s l ih=>
  intro l' n m;constructor
  ·rintro⟨q,a,b⟩;have⟨p,c,d⟩:=ih.1 b;exact⟨p,⟨q,a,c⟩,d⟩
  ·rintro⟨p,⟨q,a,c⟩,d⟩;exact⟨q,a,ih.2 ⟨p,c,d⟩⟩
structure Aut (R:Rl) (S:Nat→Prop) (K:Nat→List Item) (Tr:Nat→Int→Nat→Prop):Prop where
 ok:∀ {n x},S n→x∈K n→OkI R x
 kern:∀ {n x},S n→x∈K n→(x=(0,0)∧n=0)∨1≤x.2
 zero:∀x,x∈K 0↔x=(0,0)
 s0:S 0
 st:∀ {n s m},Tr n s m→S n∧S m∧1≤m∧0≤s
 go:∀ {n x},S n→Cl R (K n) x→0≤beh R x→ ∃m,Tr n (beh R x) m
 into:∀ {n s m x},Tr n s m→(x∈K m↔∃y,Cl R (K n) y∧beh R y=s∧x=(y.1,y.2+1))
 some_:∀ {n s m},Tr n s m→ ∃y,Cl R (K n) y∧beh R y=s
 fn:∀ {n s m m'},Tr n s m→Tr n s m'→m=m'
 reach:∀ {n},S n→ ∃l,Pth Tr 0 l n
def It (R:Rl) (K:Nat→List Item) (n k d:Nat):Prop:=Cl R (K n) ((k:Int),(d:Int))
theorem NE (R:Rl) (k d:Nat) {r:Ax}(h:R[k]? =some r):beh R ((k:Int),(d:Int))=(r.2.1[d]?).getD (-1):=by
 unfold beh;dsimp only;rw[jB,jB,h]
theorem Fm {nT:Int}{R:Rl}(G:Gr nT R) {k d:Nat}{s:Int}(h:beh R ((k:Int),(d:Int))=s) (hs:0≤s):∃r,R[k]? =some r∧r.2.1[d]? =some s:=by
 cases hr:R[k]? with
 |none=>unfold beh at h;dsimp only at h;rw[jB,hr]at h;dsimp only at h;omega
 |some r=>
  rw[NE R k d hr]at h;refine⟨r,rfl,?_⟩;cases hd:r.2.1[d]? with
  |none=>rw[hd]at h;simp at h;omega
  |some x=>rw[hd]at h;simp at h;rw[h]
section
variable {nT:Int}{R:Rl}{S:Nat→Prop}{K:Nat→List Item}{Tr:Nat→Int→Nat→Prop}
theorem Aut.form (A:Aut R S K Tr) {n:Nat}(hn:S n) {x:Item}(h:Cl R (K n) x):∃k d:Nat,x=((k:Int),(d:Int))∧It R K n k d∧ ∃r,R[k]? =some r∧d≤r.2.1.length:=by
 have⟨c,f,r,a,b⟩:=Cl.ok (λx hx=>A.ok hn hx) h;have e:x=((x.1.toNat:Int),(x.2.toNat:Int)):=lN (by simp only;omega) (by simp only;omega);exact⟨x.1.toNat,x.2.toNat,e,by unfold It;rw[←e];exact h,r,a,b⟩
theorem Aut.step (G:Gr nT R) (A:Aut R S K Tr) {n k d:Nat}{r:Ax}{s:Int}(hn:S n) (h:It R K n k d) (hr:R[k]? =some r) (hs:r.2.1[d]? =some s):∃m,Tr n s m∧It R K m k (d+1):=by
 have hb:beh R ((k:Int),(d:Int))=s:=by rw[NE R k d hr,hs];rfl
 have a:0<s:=G.right r (iM hr) s (iM hs);obtain⟨m,hm⟩:=A.go hn h (by rw[hb];omega);rw[hb]at hm;exact⟨m,hm,.base ((A.into hm).2 ⟨_,h,hb,rfl⟩)⟩
theorem Aut.clos {n k d j:Nat}{r r':Ax}{s:Int}(h:It R K n k d) (hr:R[k]? =some r) (hs:r.2.1[d]? =some s) (hj:R[j]? =some r') (hl:r'.1=s):It R K n j 0:=
 .step h hj (by rw[NE R k d hr,hs,hl];rfl)
theorem Aut.back (G:Gr nT R) (A:Aut R S K Tr) {n m k d:Nat}{s:Int}(hm:Tr n s m) (h:It R K m k (d+1)):It R K n k d∧ ∃r,R[k]? =some r∧r.2.1[d]? =some s:=by
 unfold It at h
 generalize hx:(((k:Int),((d+1:Nat):Int)):Item)=x at h
 cases h with
 |base h=>
  obtain⟨y,a,b,c⟩:=(A.into hm).1 h;subst hx;have⟨f,g⟩:=Prod.mk.inj c;have e:y=((k:Int),(d:Int)):=lN (by simp only;omega) (by simp only;omega);subst e;exact⟨a,Fm G b (A.st hm).2.2.2⟩
 |step _ _ _=>have:=(Prod.mk.inj hx).2;omega
theorem Aut.at0 (A:Aut R S K Tr) {l:gM}{n m:Nat}(hn:S n) (h:Pth Tr n l m):S m:=by
 induction l generalizing n with
 |nil=>cases h;exact hn
 |cons s l ih=>obtain⟨q,a,b⟩:=h;exact ih (A.st a).2.1 b
theorem Pth.fn (A:Aut R S K Tr) {l:gM}{n m m':Nat}(h:Pth Tr n l m) (h':Pth Tr n l m'):m=m':=by
 induction l generalizing n with
 |nil=>cases h;cases h';rfl
 |cons s l ih=>obtain⟨q,c,d⟩:=h;obtain⟨q',a,b⟩:=h';cases A.fn c a;exact ih d b
theorem Aut.along (G:Gr nT R) (A:Aut R S K Tr) {k:Nat}{r:Ax}(hr:R[k]? =some r):∀ {l:gM}{n d:Nat},S n→It R K n k d→r.2.1.drop d=l→ ∃m,Pth Tr n l m∧It R K m k (d+l.length):=by
 intro l
 induction l with
 |nil=>intro n d _ h _;exact⟨n,rfl,h⟩
 |cons s l ih=>
  intro n d hn h hd;have hs:r.2.1[d]? =some s:=by
   have:=gH (λl=>l[0]?) hd
   simpa using this
  have⟨q,a,b⟩:=A.step G hn h hr hs;obtain⟨m,c,e⟩:=ih (d:=d+1) (A.st a).2.1 b (by
   have:=gH (List.drop 1) hd
   simpa using this)
  exact⟨m,⟨q,a,c⟩,by rw[kM,show d+(l.length+1)=d+1+l.length by omega];exact e⟩
theorem Aut.part (G:Gr nT R) (A:Aut R S K Tr) {n m k:Nat}{r:Ax}(hn:S n) (hr:R[k]? =some r) (h:It R K n k 0) {l l':gM}(hl:r.2.1=l++l') (hp:Pth Tr n l m):It R K m k l.length:=by
 have⟨q,a,b⟩:=A.along G hr hn h (l:=r.2.1) rfl;rw[hl]at a;obtain⟨m',c,_⟩:=Pth.app.1 a;have key:∀(l:gM) (n d m:Nat),S n→It R K n k d→(∃l',r.2.1.drop d=l++l')→Pth Tr n l m→It R K m k (d+l.length):=by
  intro l
  induction l with
  |nil=>intro n d m _ h _ hp;cases hp;exact h
  |cons s l ih=>
   intro n d m hn h ⟨l',hd⟩ ⟨q,a,b⟩;have hs:r.2.1[d]? =some s:=by
    have:=gH (λl=>l[0]?) hd
    simpa using this
   obtain⟨q',c,e⟩:=A.step G hn h hr hs;cases A.fn a c
   have:=ih q (d+1) m (A.st a).2.1 e ⟨l',by
    have:=gH (List.drop 1) hd
    simpa using this⟩ b
   rw[kM,show d+(l.length+1)=d+1+l.length by omega];exact this
 have:=key l n 0 m hn h ⟨l',hl⟩ hp
 rwa [jD]at this
theorem Aut.behind (G:Gr nT R) (A:Aut R S K Tr) {k:Nat}:∀ {d:Nat}{l:gM}{m:Nat},Pth Tr 0 l m→It R K m k d→ ∃(a:gM) (q:Nat) (r:Ax),R[k]? =some r∧l=a++r.2.1.take d∧Pth Tr 0 a q∧Pth Tr q (r.2.1.take d) m∧It R K q k 0∧d≤r.2.1.length:=by
 intro d
 induction d with
 |zero=>
  intro l m hp h;obtain⟨k',d',e,_,r,b,_⟩:=A.form (A.at0 A.s0 hp) h;have⟨f,_⟩:=Prod.mk.inj e;have f:k=k':=by omega
  subst f;exact⟨l,m,r,b,by simp,hp,by simp[Pth],h,Nat.zero_le _⟩
 |succ d ih=>
  intro l m hp h;rcases List.eq_nil_or_concat l with rfl | ⟨l',s,rfl⟩
  ·cases hp;exfalso;unfold It at h
   generalize hx:(((k:Int),((d+1:Nat):Int)):Item)=x at h
   cases h with
   |base h=>rw[(A.zero _).1 h]at hx;have:=(Prod.mk.inj hx).2;omega
   |step _ _ _=>have:=(Prod.mk.inj hx).2;omega
  ·rw[List.concat_eq_append]at hp ⊢;have⟨n,j,q,b,o⟩:=Pth.app.1 hp;cases o;have⟨t,r,g,c⟩:=A.back G b h;obtain⟨a,p,r',i,u,v,w,y,z⟩:=ih j t;rw[g]at i;cases i;refine⟨a,p,r,g,?_,v,?_,y,(gY.1 c).1⟩
   ·rw[u,iB,kG,c];rfl
   ·rw[kG,c];exact Pth.app.2 ⟨n,w,m,b,rfl⟩
inductive Rdd (nT:Int) (R:Rl) (K:Nat→List Item) (Tr:Nat→Int→Nat→Prop):Nat→Int→Prop
 |term {m q:Nat} {t:Int} :Tr m t q→t<nT→Rdd nT R K Tr m t
 |fin {m:Nat} :It R K m 0 1→Rdd nT R K Tr m 0
 |next {m q:Nat} {c t:Int} :Tr m c q→nT≤c→Nul R c→Rdd nT R K Tr q t→Rdd nT R K Tr m t
inductive Fol (nT:Int) (R:Rl) (K:Nat→List Item) (Tr:Nat→Int→Nat→Prop):Nat→Int→Int→Prop
 |read {n m:Nat} {a t:Int} :Tr n a m→Rdd nT R K Tr m t→Fol nT R K Tr n a t
 |incl {n m q k:Nat} {a t:Int} {r:Ax} {b g:gM} :Tr n a m→R[k]? =some r→r.2.1=b++a::g→(∀s∈g,Nul R s)→It R K q k 0→Pth Tr q b n→Fol nT R K Tr q r.1 t→Fol nT R K Tr n a t
def Lk (nT:Int) (R:Rl) (K:Nat→List Item) (Tr:Nat→Int→Nat→Prop) (s k:Nat) (t:Int):Prop:=
 (k=0∧t=0∧It R K s 0 1)∨(0<k∧ ∃(n m:Nat) (r:Ax),R[k]? =some r∧Tr n r.1 m∧Pth Tr n r.2.1 s∧Fol nT R K Tr n r.1 t)
theorem Nul.var (G:Gr nT R) {s:Int}(h:Nul R s):nT≤s:=by
 cases h with
 |rule h _=>exact G.left _ h
theorem Pd (G:Gr nT R) {k d:Nat}{r a:Ax}(b:R[0]? =some a) (hr:R[k]? =some r):r.2.1[d]?≠some a.1:=by
 obtain⟨z,st,c,f,g,e,i⟩:=G.zero;rw[c]at b;cases b;exact λh=>e r (iM hr) (iM h)
theorem Aut.top (G:Gr nT R) (A:Aut R S K Tr) {n k:Nat}(hn:S n) (hk:0<k) (h:It R K n k 0):∃(j d:Nat) (r r':Ax),It R K n j d∧R[k]? =some r∧R[j]? =some r'∧r'.2.1[d]? =some r.1:=by
 unfold It at h
 generalize hx:(((k:Int),((0:Nat):Int)):Item)=x at h
 cases h with
 |base h=>
  subst hx;rcases A.kern hn h with⟨e,_⟩|e
  ·have:=(Prod.mk.inj e).1;omega
  ·dsimp only at e;omega
 | @step y k' r h a b=>
  have e:=(Prod.mk.inj hx).1;have e:k=k':=by omega
  subst e;obtain⟨j,d,rfl,c,_⟩:=A.form hn h;have i:=G.left r (iM a);have hp:=G.pos;obtain⟨r',f,g⟩:=Fm G b.symm (by omega);exact⟨j,d,r,r',c,a,f,g⟩
theorem Aut.starts (G:Gr nT R) (A:Aut R S K Tr) {n m k:Nat}{r:Ax}(hr:R[k]? =some r) (h:Tr n r.1 m):0<k∧It R K n k 0:=by
 have⟨y,c,f⟩:=A.some_ h;obtain⟨j,d,rfl,g,_⟩:=A.form (A.st h).1 c;obtain⟨r',a,b⟩:=Fm G f (A.st h).2.2.2;refine⟨Nat.pos_of_ne_zero λe=> ?_,Aut.clos g a b hr rfl⟩;subst e;exact Pd G hr a b
theorem G2 {l:gM}{d:Nat}{s:Int}(h:l[d]? =some s):l=l.take d++s::l.drop (d+1):=by
 have hlt:=(gY.1 h).1;have e:=(gY.1 h).2
 conv=>lhs;rw[←jG d l,jI hlt,e]
theorem Fol.tr {n:Nat}{a t:Int}(h:Fol nT R K Tr n a t):∃m,Tr n a m:=by
 cases h with
 |read h _=>exact⟨_,h⟩
 |incl h _ _ _ _ _ _=>exact⟨_,h⟩
inductive Fs (nT:Int) (R:Rl):gM→Int→Prop
 |term {s:Int} {l:gM} :s<nT→Fs nT R (s::l) s
 |var {s t:Int} {l:gM} {r:Ax} :r∈R→r.1=s→Fs nT R r.2.1 t→Fs nT R (s::l) t
 |skip {s t:Int} {l:gM} :Nul R s→Fs nT R l t→Fs nT R (s::l) t
inductive Fw (nT:Int) (R:Rl):Int→Int→Prop
 |zero {r:Ax} :R[0]? =some r→Fw nT R r.1 0
 |first {r:Ax} {b g:gM} {a t:Int} :r∈R→r.2.1=b++a::g→Fs nT R g t→Fw nT R a t
 |left {r:Ax} {b g:gM} {a t:Int} :r∈R→r.2.1=b++a::g→(∀s∈g,Nul R s)→Fw nT R r.1 t→Fw nT R a t
theorem NF {l:gM}{d:Nat}{s:Int}(h:l[d]? =some s):l.drop d=s::l.drop (d+1):=by
 have hlt:=(gY.1 h).1;rw[jI hlt,(gY.1 h).2]
theorem VF (G:Gr nT R) (A:Aut R S K Tr) {n:Nat}(hn:S n) (c:1≤n):¬It R K n 0 0:=by
 intro h;unfold It at h
 generalize hx:(((0:Nat):Int),((0:Nat):Int))=x at h
 cases h with
 |base h=>
  subst hx;rcases A.kern hn h with⟨_,e⟩|e
  ·omega
  ·dsimp only at e;omega
 | @step y k r hy hr hl=>
  have e:=(Prod.mk.inj hx).1;have e:k=0:=by omega
  subst e;obtain⟨j,d,rfl,f,_⟩:=A.form hn hy;have hp:=G.pos;have g:=G.left r (iM hr);obtain⟨i,a,b⟩:=Fm G hl.symm (by omega);exact Pd G hr a b
theorem ZR {s:Nat}{t:Int}(h:Lk nT R K Tr s 0 t):t=0:=by
 rcases h with⟨_,h,_⟩|⟨h,_⟩
 ·exact h
 ·omega
end
end Go.Proofs.YtkfgeafgfeppfaaGreatDoor
