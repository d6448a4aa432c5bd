/-
  Er3, Er1, Er2, Er4, Er5, Er6, SimVc, Er7, LawsI, put together.
  Conditions: none; each part tells its own.
-/
import Derived.Test.YteolcjbobmpdiaaGreatDoorKh2
import Derived.Test.YteolcjbobmpdiaaGreatDoorKh5
import Derived.KernelRfl
import Derived.Test.YteolcjbobmpdiaaGreatDoorKh6
import Derived.Test.YteolcjbobmpdiaaGreatDoorKh3
open List renaming getElem?_map → bR,getElem?_eq_getElem → bU,map_append → bW,mem_of_getElem? → bX,length_map → bY,getElem?_of_mem → bZ,filter_congr → cD
open Go.Eng.Sub renaming refl → bT
open Option renaming bind_some → bV,bind_map → cA
open Nat renaming le_refl → cC
open Eq renaming symm → cE
open Go.Eng.Ro renaming int → cF
open Go.Proofs.Tryz renaming prog → cG
namespace Go.Eng
open Go
set_option linter.unusedVariables false
def R2 {α β:Type}(x:Option α) (y:Option β) (Q:α→β→Prop):Prop:= ∀a b,x=some a→y=some b→Q a b
def SR {σ τ β δ:Type}(I:σ→τ→Prop) (A:β→Prop) (B:δ→Prop) (e:AY σ β) (e':AY τ δ):Prop:=match e,e' with
 |.next a,.next b=>I a b
 |.done a,.next _=>A a
 |.next _,.done b=>B b
 |.done a,.done b=>A a∨B b
section
variable {α β γ δ σ τ:Type}{Q:γ→δ→Prop}
theorem Aw {a:γ}{b:δ}(h:Q a b):R2 (some a) (some b) Q:=fun _ _ h1 h2=>by cases h1;cases h2;exact h
theorem Bz {x:Option α}{y:Option β}{f:α→Option γ}{g:β→Option δ}(M:α→β→Prop) (h:R2 x y M) (hk:∀a b,M a b→R2 (f a) (g b) Q):R2 (x.bind f) (y.bind g) Q:=fun a b h1 h2=>by
 cases x with
 |none=>cases h1
 |some u=>cases y with
  |none=>cases h2
  |some v=>exact hk u v (h u v rfl rfl) a b h1 h2
theorem Cz {x:Option α}{f:α→Option γ}{g:α→Option δ}(hk:∀a,x=some a→R2 (f a) (g a) Q):R2 (x.bind f) (x.bind g) Q:=fun a b h1 h2=>by
 cases x with
 |none=>cases h1
 |some u=>exact hk u rfl a b h1 h2
theorem FL {x:Option α}{f:α→Option γ}{y:Option δ}(hk:∀a,x=some a→R2 (f a) y Q):R2 (x.bind f) y Q:=fun a b h1 h2=>by
 cases x with
 |none=>cases h1
 |some u=>exact hk u rfl a b h1 h2
theorem Yu {x:Option γ}{y:Option β}{g:β→Option δ}(hk:∀a,y=some a→R2 x (g a) Q):R2 x (y.bind g) Q:=fun a b h1 h2=>by
 cases y with
 |none=>cases h2
 |some u=>exact hk u rfl a b h1 h2
theorem Cd {p:Prop}{d:Decidable p}{x:Option γ}{y:Option δ}(h:p→R2 x y Q):R2 (@need γ p d x) y Q:=fun a b h1 h2=>h (Bq h1).1 a b (Bq h1).2 h2
theorem G9 {p:Prop}{d:Decidable p}{x:Option γ}{y:Option δ}(h:p→R2 x y Q):R2 x (@need δ p d y) Q:=fun a b h1 h2=>h (Bq h2).1 a b h1 (Bq h2).2
theorem Dj {c:Bool}{x y:Option γ}{z:Option δ}(h1:c=true→R2 x z Q) (h2:c=false→R2 y z Q):R2 (cond c x y) z Q:=by
 cases c with
 |true=>exact h1 rfl
 |false=>exact h2 rfl
theorem Gg {c:Bool}{x y:Option γ}{x' y':Option δ}(h1:c=true→R2 x x' Q) (h2:c=false→R2 y y' Q):R2 (cond c x y) (cond c x' y') Q:=by
 cases c with
 |true=>exact h1 rfl
 |false=>exact h2 rfl
theorem NR {i e:Int}{a:σ}{b:τ}{f:Int→σ→Option σ}{g:Int→τ→Option τ}(I:σ→τ→Prop) (h0:I a b) (hs:∀i a b,I a b→R2 (f i a) (g i b) I):R2 (forS i e a f) (forS i e b g) I:=by
 unfold forS;split
 ·rename_i hg;clear hg
  generalize (e - i).toNat=n
  induction n generalizing i a b with
  |zero=>exact Aw h0
  |succ n ih=>exact Bz I (hs i a b h0) fun a b h=>ih h
 ·intro a b h;cases h
theorem MR {i e:Int}{a:σ}{b:τ}{f:Int→σ→Option σ}(I:σ→τ→Prop) (h0:I a b) (hs:∀i a,I a b→R2 (f i a) (some b) I):R2 (forS i e a f) (some b) I:=by
 unfold forS;split
 ·rename_i hg;clear hg
  generalize (e - i).toNat=n
  induction n generalizing i a with
  |zero=>exact Aw h0
  |succ n ih=>exact FL fun a' h=>ih (hs i a h0 a' b h rfl)
 ·intro a b h;cases h
theorem QY {i e:Int}{a:σ}{b:τ}{f:Int→σ→Option (AY σ γ)}{g:Int→τ→Option (AY τ δ)}(I:σ→τ→Prop) (A:γ→Prop) (B:δ→Prop) (h0:I a b) (hs:∀i a b,I a b→R2 (f i a) (g i b) (SR I A B)):R2 (C5 i e a f) (C5 i e b g) (SR I A B):=by
 unfold C5;split
 ·rename_i hg;clear hg
  generalize (e - i).toNat=n
  induction n generalizing i a b with
  |zero=>exact Aw h0
  |succ n ih=>
   intro x y h1 h2;unfold Ht at h1 h2;cases hf:f i a with
   |none=>rw [hf]at h1;cases h1
   |some u=>cases hg:g i b with
    |none=>rw [hg]at h2;cases h2
    |some v=>
     have H:=hs i a b h0 u v hf hg;rw [hf]at h1;rw [hg]at h2;cases u with
     |done p=>
      cases h1;cases v with
      |done q=>cases h2;exact H
      |next q=>cases y with
       |next z=>exact H
       |done z=>exact .inl H
     |next p=>cases v with
      |done q=>cases h2;cases x with
       |next z=>exact H
       |done z=>exact .inr H
      |next q=>exact ih H x y h1 h2
 ·intro a b h;cases h
theorem Og {x:Option γ}{y:Option δ}{J:γ→Prop}{K:δ→Prop}(hx:R2 x (some ()) fun a _=>J a) (hy:R2 y (some ()) fun b _=>K b):R2 x y fun a b=>J a∧K b:=fun a b h1 h2=>⟨hx a () h1 rfl,hy b () h2 rfl⟩
theorem Tf {x:Option α}{f:α→Option γ}{y:Option δ}(M:α→Prop) (h:R2 x (some ()) fun a _=>M a) (hk:∀a,M a→R2 (f a) y Q):R2 (x.bind f) y Q:=FL fun a e=>hk a (h a () e rfl)
theorem X7 {x:Option γ}:R2 x x Eq:=fun a b h1 h2=>by rw [h1]at h2;exact Option.some.inj h2
theorem QZ {f:α→β}{l l':List α}(h:l'.map f=l.map f):l'.length=l.length:=by
 have:=congrArg List.length h
 rwa [bY,bY]at this
theorem Su {f:α→β}{l m l' m':List α}(h:l'.map f=l.map f) (h':m'.map f=m.map f):R2 (app l m) (app l' m') fun t t'=>t'.map f=t.map f:=fun a b h1 h2=>by
 unfold app at h1 h2;split at h1
 ·split at h2
  ·cases h1;cases h2;rw [bW,bW,h,h']
  ·cases h2
 ·cases h1
theorem Oh {f:α→β}{l l':List α}(h:l'.map f=l.map f) (i:Int):R2 (idx l i) (idx l' i) fun r r'=>f r'=f r:=fun a b h1 h2=>by
 have e:(l'.map f)[i.toNat]? =(l.map f)[i.toNat]? :=by rw [h]
 rw [bR,bR,(Ci h1).2.2,(Ci h2).2.2]at e;exact Option.some.inj e
def SE {σ τ β δ:Type}(I:σ→τ→Prop) (D:β→δ→Prop) (e:AY σ β) (e':AY τ δ):Prop:=match e,e' with
 |.next a,.next b=>I a b
 |.done a,.done b=>D a b
 |_,_=>False
theorem Xl {a:σ}{b:τ}{f:σ→Option (AY σ γ)}{g:τ→Option (AY τ δ)}(I:σ→τ→Prop) (h0:I a b) (hs:∀a b,I a b→R2 (f a) (g b) (SE I Q)):R2 (loop a f) (loop b g) Q:=fun x y h1 h2=>by
 obtain ⟨n,g1⟩:=Fm.1 h1;obtain ⟨m,g2⟩:=Fm.1 h2;clear h1 h2
 induction n generalizing a b m with
 |zero=>cases g1
 |succ n ih=>cases m with
  |zero=>cases g2
  |succ m=>
   unfold I7 at g1 g2;cases hf:f a with
   |none=>rw [hf]at g1;cases g1
   |some u=>cases hg:g b with
    |none=>rw [hg]at g2;cases g2
    |some v=>
     have H:=hs a b h0 u v hf hg;rw [hf]at g1;rw [hg]at g2;cases u with
     |next p=>cases v with
      |next q=>exact ih H g1 m g2
      |done q=>exact H.elim
     |done p=>cases v with
      |next q=>exact H.elim
      |done q=>cases g1;cases g2;exact H
theorem MS {I:σ→τ→Prop}{A:γ→Prop}{B:δ→Prop}{x:Option (AY σ γ)}{q:δ}(h:B q):R2 x (some (.done q)) (SR I A B):=fun a b _ h2=>by
 cases h2;cases a with
 |next _=>exact h
 |done _=>exact .inr h
theorem Oi {I:σ→τ→Prop}{A:γ→Prop}{B:δ→Prop}{y:Option (AY τ δ)}{q:γ}(h:A q):R2 (some (.done q)) y (SR I A B):=fun a b h1 _=>by
 cases h1;cases b with
 |next _=>exact h
 |done _=>exact .inl h
def OJ (J:σ→Prop) (A:γ→Prop) (e:AY σ γ):Prop:=match e with
 |.next a=>J a
 |.done q=>A q
end
end Go.Eng
namespace Go.Proofs.YteolcjbobmpdiaaGreatDoor
open Go Go.Eng Dg
set_option linter.unusedVariables false
set_option maxRecDepth 100000
def er1 (r:BP):BP:=(r.1,r.2.1,0)
def er (p:dtP):dtP:=(p.1,p.2.1,p.2.2.1.map er1,[],[],[])
theorem NS {α β:Type}(f:α→β) (l:List α) (i:Int):idx (l.map f) i=(idx l i).map f:=by
 unfold idx;split
 ·rw [bR]
 ·rfl
theorem Qa (R:Rl) (x:Item):beh (R.map er1) x=beh R x:=by
 unfold beh;rw [bR];cases R[x.1.toNat]? <;>rfl
theorem WY (R:Rl) (l:List Item) (s:Int):nx (R.map er1) l s=nx R l s:=by
 unfold nx;simp only [Qa]
theorem WZ (R:Rl) (l:List Item):sy (R.map er1) l=sy R l:=by
 unfold sy syr
 have:beh (R.map er1)=beh R:=funext (Qa R)
 rw [this]
theorem Uc (p:dtP) (x:Item):BI (qA (er p) DM 0) x=BI (qA p DM 0) x:=by
 unfold BI;show (idx (p.2.2.1.map er1) x.1).bind _=(idx p.2.2.1 x.1).bind _;rw [NS];cases idx p.2.2.1 x.1<;>rfl
theorem Wa (p:dtP) (K:List Item):clo (er p) K=clo p K:=by
 unfold clo BF;simp only [Uc];have hterm:∀t9:Int,BT ((qA (er p) DM 0).1,(qA (er p) DM 0).2.1,(qA (er p) DM 0).2.2.1,(qA (er p) DM 0).2.2.2.1,(qA (er p) DM 0).2.2.2.2.1,(qA (er p) DM 0).2.2.2.2.2.1) t9=BT ((qA p DM 0).1,(qA p DM 0).2.1,(qA p DM 0).2.2.1,(qA p DM 0).2.2.2.1,(qA p DM 0).2.2.2.2.1,(qA p DM 0).2.2.2.2.2.1) t9:=fun t9=>rfl;simp only [hterm];have e1:(qA (er p) DM 0).2.2.1=p.2.2.1.map er1:=rfl;have e2:(qA p DM 0).2.2.1=p.2.2.1:=rfl;rw [e1,e2];simp only [NS,bY,cA];rfl
theorem Wb (p:dtP) (B:List dtK) (k:List Item) (fr wi:Int):FE (er p) B k fr wi=FE p B k fr wi:=by
 unfold FE;rw [Wa]
theorem Xm (p:dtP):GA (er p)=GA p:=by
 funext b i y s;unfold GA
 have:(er p).2.2.1=p.2.2.1.map er1:=rfl
 simp only [Wb,this,WY]
theorem Sv (p:dtP):∀n,stM (er p) n=stM p n
 | 0=>by unfold stM;rw [Wa]
 |n+1=>by
  have:(er p).2.2.1=p.2.2.1.map er1:=rfl
  unfold stM NB;rw [Sv p n,Xm,this];simp only [WZ]
def BL (R R':Rl):Prop:=R.map er1=R'.map er1
theorem BL.symm {R R':Rl}(h:BL R R'):BL R' R:=cE h
theorem BL.at {R R':Rl}(h:BL R R') {k:Nat}{r:BP}(hr:R[k]? =some r):∃r',R'[k]? =some r'∧r'.1=r.1∧r'.2.1=r.2.1:=by
 have e:(R.map er1)[k]? =(R'.map er1)[k]? :=by rw [h]
 rw [bR,bR,hr]at e;cases h':R'[k]? with
 |none=>rw [h']at e;cases e
 |some r'=>
  rw [h']at e
  have:=Option.some.inj e
  exact ⟨r',rfl,(congrArg (fun x=>x.1) this).symm,(congrArg (fun x=>x.2.1) this).symm⟩
theorem BL.mem {R R':Rl}(h:BL R R') {r:BP}(hr:r∈R):∃r',r'∈R'∧r'.1=r.1∧r'.2.1=r.2.1:=by
 obtain ⟨k,hk⟩:=bZ hr;obtain ⟨r',h1,h2,h3⟩:=h.at hk;exact ⟨r',bX h1,h2,h3⟩
theorem BL.beh {R R':Rl}(h:BL R R') (x:Item):beh R' x=beh R x:=by
 rw [←Qa R',←Qa R,h]
theorem BL.nx {R R':Rl}(h:BL R R') (l:List Item) (s:Int):nx R' l s=nx R l s:=by
 rw [←WY R',←WY R,h]
theorem BL.sy {R R':Rl}(h:BL R R') (l:List Item):sy R' l=sy R l:=by
 rw [←WZ R',←WZ R,h]
theorem BL.done {R R':Rl}(h:BL R R') (l:List Item):CS R' l=CS R l:=by
 have e:∀R:Rl,CS R l=CS (R.map er1) l:=fun R=>by
  unfold CS;congr 1;refine cD fun x _=> ?_;rw [bR];cases R[x.1.toNat]? <;>rfl
 rw [e R',e R,h]
theorem Cl.same {R R':Rl}(h:BL R R') {K:List Item}{x:Item}(H:Cl R K x):Cl R' K x:=by
 induction H with
 |base hx=>exact .base hx
 |step _ hr hb ih=>
  obtain ⟨r',h1,h2,_⟩:=h.at hr;exact .step ih h1 (by rw [h2,hb,h.beh])
theorem Nul.same {R R':Rl}(h:BL R R') {s:Int}(H:Nul R s):Nul R' s:=by
 induction H with
 |rule hr _ ih=>
  obtain ⟨r',h1,h2,h3⟩:=h.mem hr;rw [←h2];exact .rule h1 (fun s hs=>ih s (by rw [←h3];exact hs))
section
variable {nT:Int}{R R':Rl}{K:Nat→List Item}{Tr:Nat→Int→Nat→Prop}
theorem It.same (h:BL R R') {n k d:Nat}(H:It R K n k d):It R' K n k d:=Cl.same h H
theorem Rdd.same (h:BL R R') {m:Nat}{t:Int}(H:Rdd nT R K Tr m t):Rdd nT R' K Tr m t:=by
 induction H with
 |term h1 h2=>exact .term h1 h2
 |fin h1=>exact .fin (h1.same h)
 |next h1 h2 h3 _ ih=>exact .next h1 h2 (h3.same h) ih
theorem Fol.same (h:BL R R') {n:Nat}{a t:Int}(H:Fol nT R K Tr n a t):Fol nT R' K Tr n a t:=by
 induction H with
 |read h1 h2=>exact .read h1 (h2.same h)
 |incl h1 h2 h3 h4 h5 h6 _ ih=>
  obtain ⟨r',g1,g2,g3⟩:=h.at h2;exact .incl h1 g1 (by rw [g3];exact h3) (fun s hs=>(h4 s hs).same h) (h5.same h) h6 (by rw [g2];exact ih)
theorem Lk.same (h:BL R R') {s k:Nat}{t:Int}(H:Lk nT R K Tr s k t):Lk nT R' K Tr s k t:=by
 rcases H with ⟨h1,h2,h3⟩|⟨h1,n,m,r,h2,h3,h4,h5⟩
 ·exact .inl ⟨h1,h2,h3.same h⟩
 ·obtain ⟨r',g1,g2,g3⟩:=h.at h2;exact .inr ⟨h1,n,m,r',g1,by rw [g2];exact h3,by rw [g3];exact h4,by rw [g2];exact h5.same h⟩
end
theorem Wc {p p':dtP}(h:BL p.2.2.1 p'.2.2.1) (B:List dtK) (E:List (List Edge)):TrB p' B E=TrB p B E:=by
 funext n s m;unfold TrB JH;simp only [h.nx,h.sy]
theorem Ud {p p':dtP}{B:List dtK}{E:List (List Edge)}{d d':LkD}{tt tt':Int}(M:MkI p B E d tt) (M':MkI p' B E d' tt') (hT:p'.1.length=p.1.length) (h:BL p.2.2.1 p'.2.2.1) {i:Nat}{b:dtK}(hb:B[i]? =some b) (t:Int):rsL d' (CS p'.2.2.1 b.2.1) (i:Int) t=rsL d (CS p.2.2.1 b.2.1) (i:Int) t:=by
 rw [h.done];unfold rsL;refine cD fun k hk=> ?_;obtain ⟨j,hj⟩:=bZ hk;obtain ⟨k',r,rfl,hr,_⟩:=Ms M hb hj;obtain ⟨r',hr',_,_⟩:=h.at hr;obtain ⟨l,g1,g2,_⟩:=QR M (s:=i) (List.getElem?_eq_some_iff.1 hr).1;obtain ⟨l',q1,q2,_⟩:=QR M' (s:=i) (List.getElem?_eq_some_iff.1 hr').1;unfold Re;rw [g1,q1];dsimp only;rw [Bool.eq_iff_iff,decide_eq_true_eq,decide_eq_true_eq,g2,q2,Wc h];have hn:nT p'=nT p:=by unfold nT;rw [hT]
 rw [hn];exact ⟨fun H=>H.same h.symm,fun H=>H.same h⟩
theorem Wd (p p':dtP) (B:List dtK) (E:List (List Edge)) (tt tt':Int) (i t:Int):goV (Au p' B E tt') i t=goV (Au p B E tt) i t:=rfl
def rk (r:DB):ByteArray×List ByteArray×ByteArray:=(r.1,r.2.1,r.2.2.2)
structure GR (g g':Cs):Prop where
 toks:g'.1=g.1
 start:g'.2.2.2.1=g.2.2.2.1
 rules:g'.2.2.2.2.map rk=g.2.2.2.2.map rk
def J0 (g:Cs):Prop:=g.1= [] ∧g.2.2.2.1= {data:=#[83]} ∧g.2.2.2.2= []
def JT (t:List GJ) (s:ByteArray) (r:List DB) (g:Cs):Prop:=g.1=t∧g.2.2.2.1=s∧g.2.2.2.2=r
set_option maxHeartbeats 4000000 in
theorem We (tk vr:Int) (lefts:List Int) (rights:List (List Int)) (precs assocs levels precs' assocs' levels':List Int):R2 (Az (tk,vr,lefts,rights,precs,assocs,levels)) (Az (tk,vr,lefts,rights,precs',assocs',levels')) GR:=by
 unfold Az;dsimp only;refine Cd fun _=>G9 fun _=>Cd fun _=>G9 fun _=>Bz (fun z z'=>J0 z∧J0 z') (Og ?_ ?_) fun z z' hz=> ?_
 ·exact MR (fun z _=>J0 z) ⟨rfl,rfl,rfl⟩ fun i z h=>FL fun _ _=>Cd fun _=>Cd fun _=>FL fun _ _=>Aw ⟨h.1,h.2.1,h.2.2⟩
 ·exact MR (fun z _=>J0 z) ⟨rfl,rfl,rfl⟩ fun i z h=>FL fun _ _=>Cd fun _=>Cd fun _=>FL fun _ _=>Aw ⟨h.1,h.2.1,h.2.2⟩
 have hz:GR z z':=⟨hz.2.1.trans hz.1.1.symm,hz.2.2.1.trans hz.1.2.1.symm,by rw [hz.2.2.2,hz.1.2.2]⟩;refine Bz GR (NR GR hz fun i z z' h=> ?_) fun z z' hz=> ?_
 ·obtain ⟨z1,z2,z3,z4,z5⟩:=z;obtain ⟨y1,y2,y3,y4,y5⟩:=z';obtain ⟨e1,e4,e5⟩:=h;dsimp only at e1 e4 e5 ⊢;subst e1 e4;refine Cd fun _=>G9 fun _=>Cz fun t _=>Bz (fun g g'=>JT t y4 z5 g∧JT t y4 y5 g') (Og ?_ ?_) fun g g' h=>Aw ⟨h.2.1.trans h.1.1.symm,h.2.2.1.trans h.1.2.1.symm,by rw [h.2.2.2,h.1.2.2];exact e5⟩
  ·exact Dj (fun _=>FL fun _ _=>Cd fun _=>Tf (JT t y4 z5) (Dj (fun _=>FL fun _ _=>FL fun _ _=>FL fun _ _=>FL fun _ _=>FL fun _ _=>Aw ⟨rfl,rfl,rfl⟩) fun _=>Aw ⟨rfl,rfl,rfl⟩) fun _ h=>Aw h) fun _=>Aw ⟨rfl,rfl,rfl⟩
  ·exact Dj (fun _=>FL fun _ _=>Cd fun _=>Tf (JT t y4 y5) (Dj (fun _=>FL fun _ _=>FL fun _ _=>FL fun _ _=>FL fun _ _=>FL fun _ _=>Aw ⟨rfl,rfl,rfl⟩) fun _=>Aw ⟨rfl,rfl,rfl⟩) fun _ h=>Aw h) fun _=>Aw ⟨rfl,rfl,rfl⟩
 refine Bz GR (NR GR hz fun i z z' h=> ?_) fun z z' hz=> ?_
 ·obtain ⟨z1,z2,z3,z4,z5⟩:=z;obtain ⟨y1,y2,y3,y4,y5⟩:=z';obtain ⟨e1,e4,e5⟩:=h;dsimp only at e1 e4 e5 ⊢;subst e1 e4;refine Cz fun a _=>Cd fun _=>G9 fun _=>Cz fun b _=>Cd fun _=>G9 fun _=>Cd fun _=>G9 fun _=>Cz fun x _=>Bz (fun r r'=>rk r=rk x∧rk r'=rk x) (Og ?_ ?_) fun r r' h=> ?_
  ·exact Dj (fun _=>FL fun _ _=>Cd fun _=>Tf (fun r=>rk r=rk x) (Dj (fun _=>Cd fun _=>Aw rfl) fun _=>Aw rfl) fun _ h=>Aw h) fun _=>Aw rfl
  ·exact Dj (fun _=>FL fun _ _=>Cd fun _=>Tf (fun r=>rk r=rk x) (Dj (fun _=>Cd fun _=>Aw rfl) fun _=>Aw rfl) fun _ h=>Aw h) fun _=>Aw rfl
  refine Bz (fun l l'=>l'.map rk=l.map rk) (Su e5 ?_) fun l l' hl=>Aw ⟨rfl,rfl,hl⟩;show [rk r'] = [rk r];rw [h.1,h.2]
 refine Bz GR (NR GR hz fun i z z' h=> ?_) fun z z' hz=>Aw hz;obtain ⟨z1,z2,z3,z4,z5⟩:=z;obtain ⟨y1,y2,y3,y4,y5⟩:=z';obtain ⟨e1,e4,e5⟩:=h;dsimp only at e1 e4 e5 ⊢;subst e1 e4;rw [QZ e5];refine Cd fun _=>G9 fun _=>Bz Eq (Xl Eq rfl fun a b h=> ?_) fun a b h=> ?_
 ·subst h;exact Gg (fun _=>Bz Eq (Gg (fun _=>Aw rfl) fun _=>Bz (fun r r'=>rk r'=rk r) (Oh e5 _) fun r r' h=>Aw (by rw [show r'.1=r.1 from congrArg (·.1) h])) fun a b h=>Aw (by rw [h];exact rfl)) fun _=>Aw rfl
 ·subst h;exact Bz GR (Gg (fun _=>Bz (fun l l'=>l'.map rk=l.map rk) (Su e5 rfl) fun l l' hl=>Aw ⟨rfl,rfl,hl⟩) fun _=>Aw ⟨rfl,rfl,e5⟩) fun _ _ h=>Aw h
abbrev P8:Type:=List ByteArray×List ByteArray×List BP×List Int×List Int×List ByteArray×Int×ByteArray
def PR (r r':P8):Prop:=r.1= [] ∨r'.1= [] ∨(r'.1=r.1∧r'.2.1=r.2.1∧BL r.2.2.1 r'.2.2.1)
def A8 (r:P8):Prop:=r.1= []
theorem PR.endR {x:Option P8}{q:P8}(h:A8 q):R2 x (some q) PR:=fun a b _ h2=>by cases h2;exact .inr (.inl h)
theorem PR.endL {x:Option P8}{q:P8}(h:A8 q):R2 (some q) x PR:=fun a b h1 _=>by cases h1;exact .inl h
theorem Tg {r r':DB}(h:rk r'=rk r):r'.1=r.1∧r'.2.1=r.2.1∧r'.2.2.2=r.2.2.2:=⟨congrArg (·.1) h,congrArg (·.2.1) h,congrArg (·.2.2) h⟩
set_option maxHeartbeats 4000000 in
theorem Yv {nt nv nl nl':Nat}{g g':Cs}(H:Sg nt nv nl g) (H':Sg nt nv nl' g') (h:GR g g'):R2 (Bw g) (Bw g') PR:=by
 obtain ⟨g1,g2,g3,g4,g5⟩:=g;obtain ⟨q1,q2,q3,q4,q5⟩:=g';have hr:=N9 H;have hr':=N9 H';obtain ⟨e1,e4,e5⟩:=h;dsimp only at e1 e4 e5;subst e1 e4;unfold Bw;dsimp only at hr hr' ⊢;rw [hr,hr',QZ e5,bV,bV];refine Gg (fun h=>by cases h) fun _=>Bz Eq (NR Eq rfl fun i z z' h=> ?_) fun z z' h=> ?_
 ·subst h;refine Bz (fun r r'=>rk r'=rk r) (Oh e5 _) fun r r' h=> ?_;rw [(Tg h).1];refine Cz fun t _=>Bz Eq (Gg (fun _=>Bz (fun r r'=>rk r'=rk r) (Oh e5 _) fun r r' h=> ?_) fun _=>Aw rfl) fun a b h=> ?_
  ·rw [(Tg h).1];exact X7
  ·subst h;refine Bz (fun r r'=>rk r'=rk r) (Oh e5 _) fun r r' h=> ?_;rw [(Tg h).2.2];exact X7
 subst h;refine Bz (SR (fun z z'=>z'.2.1=z.2.1∧z'.2.2.1=z.2.2.1∧BL z.2.2.2.1 z'.2.2.2.1) A8 A8) (QY _ _ _ ⟨rfl,rfl,rfl⟩ fun i z z' h=> ?_) ?_
 ·obtain ⟨w,z1,z2,z3,z4,z5,z6⟩:=z;obtain ⟨v,y1,y2,y3,y4,y5,y6⟩:=z';obtain ⟨e1,e2,e3⟩:=h;dsimp only at e1 e2 e3 ⊢;subst e1 e2;exact Cz fun a _=>Cz fun t _=>Gg (fun _=>Cz fun b _=>Aw (.inl rfl)) fun _=>Cz fun b _=>Cz fun l _=>Cz fun c _=>FL fun _ _=>Yu fun _ _=>FL fun _ _=>Yu fun _ _=>Aw ⟨rfl,rfl,e3⟩
 rintro (z | q) (z' | q') h
 rotate_left
 ·exact PR.endR h
 ·exact PR.endL h
 ·exact h.elim PR.endL PR.endR
 obtain ⟨w,z1,z2,z3,z4,z5,z6⟩:=z;obtain ⟨v,y1,y2,y3,y4,y5,y6⟩:=z';obtain ⟨e1,e2,e3⟩:=h;dsimp only at e1 e2 e3 ⊢;subst e1 e2;refine Bz (fun (z z':dtP)=>(z.1=y1∧z.2.1=y2∧z.2.2.1=z3)∧(z'.1=y1∧z'.2.1=y2∧z'.2.2.1=y3)) (Og ?_ ?_) fun z z' h=> ?_
 ·exact MR (fun (z:dtP) _=>z.1=y1∧z.2.1=y2∧z.2.2.1=z3) ⟨rfl,rfl,rfl⟩ fun i z h=>FL fun _ _=>FL fun _ _=>Aw h
 ·exact MR (fun (z:dtP) _=>z.1=y1∧z.2.1=y2∧z.2.2.1=y3) ⟨rfl,rfl,rfl⟩ fun i z h=>FL fun _ _=>FL fun _ _=>Aw h
 obtain ⟨z1,z2,x3,z4,z5,z6⟩:=z;obtain ⟨u1,u2,u3,u4,u5,u6⟩:=z';obtain ⟨⟨f1,f2,f3⟩,f4,f5,f6⟩:=h;dsimp only at f1 f2 f3 f4 f5 f6 ⊢;subst f1 f2 f3 f4 f5 f6;refine Cz fun st _=>Bz (SR (fun z z'=>z'.2.1=z.2.1∧z'.2.2.1=z.2.2.1∧BL z.2.2.2.1 z'.2.2.2.1) A8 A8) (QY _ _ _ ⟨rfl,rfl,rfl⟩ fun i z z' h=> ?_) ?_
 ·obtain ⟨w,z1,z2,z3,z4,z5,z6⟩:=z;obtain ⟨v,y1,y2,y3,y4,y5,y6⟩:=z';obtain ⟨e1,e2,e3⟩:=h;dsimp only at e1 e2 e3 ⊢;subst e1 e2;refine Bz (fun r r'=>rk r'=rk r) (Oh e5 _) fun r r' h=> ?_;obtain ⟨r1,r2,r3,r4⟩:=r;obtain ⟨s1,s2,s3,s4⟩:=r';obtain ⟨k1,k2,k3⟩:=Tg h;dsimp only at k1 k2 k3 ⊢;subst k1 k2;refine Cz fun t _=>Bz (SR (fun w w'=>w'.2.1=w.2.1∧w'.2.2.1=w.2.2.1) A8 A8) (QY _ _ _ ⟨rfl,rfl⟩ fun k w w' h=> ?_) ?_
  ·obtain ⟨w0,w1,w2,w3⟩:=w;obtain ⟨v0,v1,v2,v3⟩:=w';obtain ⟨f1,f2⟩:=h;dsimp only at f1 f2 ⊢;subst f1 f2;exact Cz fun a _=>Cz fun s _=>Gg (fun _=>Cz fun b _=>Aw (.inl rfl)) fun _=>Cz fun l _=>Bz (fun x x'=>x'.1=x.1∧x'.2.1=x.2.1) (Gg (fun _=>FL fun _ _=>Yu fun _ _=>Aw ⟨rfl,rfl⟩) fun _=>Aw ⟨rfl,rfl⟩) fun x x' h=>Aw h
  rintro (w | q) (w' | q') h
  rotate_left
  ·exact MS h
  ·exact Oi h
  ·exact h.elim (fun h=>Oi h) fun h=>MS h
  obtain ⟨w0,w1,w2,w3⟩:=w;obtain ⟨v0,v1,v2,v3⟩:=w';obtain ⟨f1,f2⟩:=h;dsimp only at f1 f2 ⊢;subst f1 f2;refine Bz (fun e e'=>OJ (fun x=>x.1.1=v1∧x.1.2.1=v2) A8 e∧OJ (fun x=>x.1.1=v1∧x.1.2.1=v2) A8 e') (Og ?_ ?_) ?_
  ·exact Dj (fun _=>FL fun _ _=>Dj (fun _=>Aw rfl) fun _=>Aw ⟨rfl,rfl⟩) fun _=>Aw ⟨rfl,rfl⟩
  ·exact Dj (fun _=>FL fun _ _=>Dj (fun _=>Aw rfl) fun _=>Aw ⟨rfl,rfl⟩) fun _=>Aw ⟨rfl,rfl⟩
  rintro (x | q) (x' | q') ⟨h1,h2⟩
  rotate_left
  ·exact MS h2
  ·exact Oi h1
  ·exact MS h2
  refine Bz (fun l l'=>l'.map er1=l.map er1) (Su (cE e3) ?_) fun l l' h=>Aw ⟨rfl,rfl,cE h⟩;show [er1 _] = [er1 _];unfold er1;dsimp only;rw [h1.1,h1.2,h2.1,h2.2]
 rintro (z | q) (z' | q') h
 rotate_left
 ·exact PR.endR h
 ·exact PR.endL h
 ·exact h.elim PR.endL PR.endR
 obtain ⟨w,z1,z2,z3,z4,z5,z6⟩:=z;obtain ⟨v,y1,y2,y3,y4,y5,y6⟩:=z';obtain ⟨e1,e2,e3⟩:=h;dsimp only at e1 e2 e3 ⊢;subst e1 e2;exact Cz fun t _=>Gg (fun _=>Aw (.inl rfl)) fun _=>Aw (.inr (.inr ⟨rfl,rfl,e3⟩))
theorem Wf {tk vr:Int}{lefts:List Int}{rights:List (List Int)}{precs assocs levels precs' assocs' levels':List Int}(G:SmG (tk,vr,lefts,rights,precs,assocs,levels)) (F:SmF 20 8 (tk,vr,lefts,rights,precs,assocs,levels)) (G':SmG (tk,vr,lefts,rights,precs',assocs',levels')) (F':SmF 20 8 (tk,vr,lefts,rights,precs',assocs',levels')):
 ∃(nt:Nat) (p p':dtP),Ar (tk,vr,lefts,rights,precs,assocs,levels)=some p∧Ar (tk,vr,lefts,rights,precs',assocs',levels')=some p'∧Pl nt assocs.length p∧Pl nt assocs'.length p'∧p'.1=p.1∧p'.2.1=p.2.1∧BL p.2.2.1 p'.2.2.1:=by
 obtain ⟨g,a1,a2⟩:=LO G F;obtain ⟨g',b1,b2⟩:=LO G' F';obtain ⟨r,a3,a4⟩:=of_ok a2;obtain ⟨r',b3,b4⟩:=of_ok b2;have h:=Yv a2 b2 (We _ _ _ _ _ _ _ _ _ _ g g' a1 b1) r r' a3 b3;have hne:∀ {nt nl:Nat} {p:dtP},Pl nt nl p→p.1≠[]:=fun H e=>by have:=H.terms.len;rw [e]at this;simp at this
 rcases h with h | h | ⟨h1,h2,h3⟩
 ·exact absurd h (hne a4)
 ·exact absurd h (hne b4)
 ·refine ⟨_,_,_,?_,?_,a4,b4,h1,h2,h3⟩
  ·unfold Ar;rw [a1,bV,a3];rfl
  ·unfold Ar;rw [b1,bV,b3];rfl
theorem Wg (p:dtP):BJ (er p)=BJ p:=by
 unfold BJ;have e1:(er p).2.2.1=p.2.2.1.map er1:=rfl;simp only [e1,NS,bY,cA];rfl
theorem Xn (p:dtP):BR (er p)=BR p:=by
 unfold BR;have e1:(er p).2.2.1=p.2.2.1.map er1:=rfl;simp only [e1,NS,bY,cA];rfl
theorem Rh (p:dtP):BK (er p)=BK p:=by
 unfold BK;have e1:BJ ((er p).1,(er p).2.1,(er p).2.2.1,(er p).2.2.2.1,(er p).2.2.2.2.1,(er p).2.2.2.2.2)=BJ p:=Wg p;have e2:BR ((er p).1,(er p).2.1,(er p).2.2.1,(er p).2.2.2.1,(er p).2.2.2.2.1,(er p).2.2.2.2.2)=BR p:=Xn p;rw [e1,e2];rfl
theorem ZM {p p':dtP}(h1:p'.1=p.1) (h2:p'.2.1=p.2.1) (h3:BL p.2.2.1 p'.2.2.1):er p'=er p:=by
 unfold er;rw [h1,h2,show p'.2.2.1.map er1=p.2.2.1.map er1 from cE h3]
section
variable {s:KZ}{p:dtP}{nt nl:Nat}
theorem Th (p:dtP):Vq p (held 300):=fun n m hl=>by
 have:held 300=300:=by decide
 omega
theorem NT (hs:Ar s=some p) {e:Int×Int}(he:BK p=some e) (h:e.2≠0∨J2 p 300 9000=some (none,5)):Ok (As s) fun r=>r.2.2.2.2.2.2.2.2.2=false:=by
 unfold As;refine AL hs (AL he (Ac (fun _=>AD rfl) fun hc=> ?_));have hb:=h.resolve_left (fun h=>h (by simpa using hc));refine AL hb (AP (Q:=fun c=>c=true) (Bd rfl (AD rfl)) fun c hc=> ?_);subst hc;exact Bd rfl (AD rfl)
theorem Ri (hs:Ar s=some p) (hp:Pl nt nl p) {e:Int×Int}(he:BK p=some e) (h0:e.2=0) (hpro:∀v:Nat,v<p.2.1.length→Pro (nT p) p.2.2.1 ((p.1.length+v:Nat):Int)) {n:Nat}(h1:(stM p n).1.length≤n) (h2:Fit (held 300) (held 9000) (stM p n).1):
 Ok (As s) fun r=>r.2.2.2.2.2.2.2.2.2=true∧ ∃(d:LkD) (tt:Int) (g:Ce),r.2.2.2.2.2.2.2.2.1=some g∧MkI p (stM p n).1 (stM p n).2 d tt∧Gd p (Au p (stM p n).1 (stM p n).2 tt) d (stM p n).1 g:=by
 have S:=Rd hp;unfold As;refine AL hs (AL he (Ac (fun hc=>by simp [h0]at hc) fun _=> ?_));refine AL ((PP hp.vp hp.pos h1 (Th p)).1 h2) ?_;have H:=Vt hp.vp hp.pos h1;have hB:(stM p n).1.length≤300:=by
  have:=h2.1
  have e:held 300=300:=by decide
  omega
 have hpos:1≤(stM p n).1.length:=Bo H.zero;refine AP (Q:=fun c=>c=false) (AU rfl (AL rfl (AL (LR H) (AD ?_)))) fun c hc=> ?_
 ·simp only [beq_eq_false_iff_ne];omega
 subst hc;refine AU rfl (AL rfl (AP (Ta (tt:=((tot (stM p n).1:Nat):Int)) (fun fa hfa=>QQ hp hpro H hB hfa) S) fun l hl=> ?_));obtain ⟨d,rfl,d1,d2,d3,d4⟩:=hl;have M:MkI p _ _ d _:=⟨QQ hp hpro H hB d3,d1,d2,d4⟩;have hT:=hp.terms.len;have hn:=hp.nt5;refine AU rfl (AP (Te M (Oe hp) (show p.1.length≤100 by omega)) fun g hg=> ?_);obtain ⟨rows,gos,rfl,g1,g2⟩:=hg;exact AD ⟨rfl,d,_,_,rfl,M,rows,gos,rfl,g1,g2⟩
end
theorem Wh {tk vr:Int}{lefts:List Int}{rights:List (List Int)}{precs assocs levels precs' assocs' levels':List Int}(G:SmG (tk,vr,lefts,rights,precs,assocs,levels)) (F:SmF 12 5 (tk,vr,lefts,rights,precs,assocs,levels)) (G':SmG (tk,vr,lefts,rights,precs',assocs',levels')) (F':SmF 12 5 (tk,vr,lefts,rights,precs',assocs',levels')):
 ∃r r',As (tk,vr,lefts,rights,precs,assocs,levels)=some r∧As (tk,vr,lefts,rights,precs',assocs',levels')=some r'∧
 ((r.2.2.2.2.2.2.2.2.2=false∧r'.2.2.2.2.2.2.2.2.2=false)∨(r.2.2.2.2.2.2.2.2.2=true∧r'.2.2.2.2.2.2.2.2.2=true∧ ∃(nt:Nat) (p p':dtP) (B:List dtK) (E:List (List Edge)) (d d':LkD) (tt tt':Int) (g g':Ce),
  r.2.2.2.2.2.2.2.2.1=some g∧r'.2.2.2.2.2.2.2.2.1=some g'∧Pl nt assocs.length p∧Pl nt assocs'.length p'∧p'.1=p.1∧BL p.2.2.1 p'.2.2.1∧MkI p B E d tt∧MkI p' B E d' tt'∧Gd p (Au p B E tt) d B g∧Gd p' (Au p' B E tt') d' B g')):=by
 obtain ⟨nt,p,p',hs,hs',hp,hp',t1,t2,t3⟩:=Wf G F.up G' F'.up;have hE:=ZM t1 t2 t3;obtain ⟨e,he,hpro⟩:=OX (Rd hp);obtain ⟨e',he',hpro'⟩:=OX (Rd hp');have hee:e'=e:=by
  rw [←Rh,hE,Rh,he]at he';exact (Option.some.inj he').symm
 subst hee;by_cases h0:e'.2≠0
 ·obtain ⟨r,a1,a2⟩:=NT hs he (.inl h0);obtain ⟨r',b1,b2⟩:=NT hs' he' (.inl h0);exact ⟨r,r',a1,b1,.inl ⟨a2,b2⟩⟩
 have h0:e'.2=0:=Decidable.not_not.1 h0;obtain ⟨b,hb,hb2⟩:=MD hp.vp hp.pos (it:=9000) (Th p);obtain ⟨b',hb',hb2'⟩:=MD hp'.vp hp'.pos (it:=9000) (Th p');have hst:∀n,stM p' n=stM p n:=fun n=>by rw [←Sv p',hE,Sv]
 rcases hb2 with ⟨n,h1,h2,rfl⟩|⟨rfl,_⟩
 ·obtain ⟨r,a1,a2,d,tt,g,a3,a4,a5⟩:=Ri hs hp he h0 (hpro h0) h1 h2;have h1':(stM p' n).1.length≤n:=by rw [hst];exact h1
  have h2':Fit (held 300) (held 9000) (stM p' n).1:=by rw [hst];exact h2
  obtain ⟨r',b1,b2,d',tt',g',b3,b4,b5⟩:=Ri hs' hp' he' h0 (hpro' h0) h1' h2';rw [hst]at b4 b5;exact ⟨r,r',a1,b1,.inr ⟨a2,b2,nt,p,p',_,_,d,d',tt,tt',g,g',a3,b3,hp,hp',t1,t3,a4,b4,a5,b5⟩⟩
 ·rcases hb2' with ⟨n,h1,h2,rfl⟩|⟨rfl,_⟩
  ·rw [hst]at h1 h2
   have:=(PP hp.vp hp.pos h1 (Th p)).1 h2
   rw [hb]at this;cases this
  ·obtain ⟨r,a1,a2⟩:=NT hs he (.inr hb);obtain ⟨r',b1,b2⟩:=NT hs' he' (.inr hb');exact ⟨r,r',a1,b1,.inl ⟨a2,b2⟩⟩
end Go.Proofs.YteolcjbobmpdiaaGreatDoor
namespace Go.Proofs.YteolcjbobmpdiaaGreatDoor
open Go Go.Eng
set_option linter.unusedVariables false
set_option maxRecDepth 100000
noncomputable def B6 (small_0:KZ):Option Bool:=
 (Cc).bind fun t2=>
 (Bf (small_0.1,small_0.2.1,small_0.2.2.1,small_0.2.2.2.1,small_0.2.2.2.2.1,small_0.2.2.2.2.2.1,small_0.2.2.2.2.2.2) 12 5).bind fun t10=>
 cond (!t10)
 (some t2)
 ((As (small_0.1,small_0.2.1,small_0.2.2.1,small_0.2.2.2.1,small_0.2.2.2.2.1,small_0.2.2.2.2.2.1,small_0.2.2.2.2.2.2)).bind fun t18=>
  (As (small_0.1,small_0.2.1,small_0.2.2.1,small_0.2.2.2.1,small_0.2.2.2.2.1,[],small_0.2.2.2.2.2.2)).bind fun t27=>
  (cond (!t18.2.2.2.2.2.2.2.2.2)
  (some true)
  (some (!t27.2.2.2.2.2.2.2.2.2))).bind fun z29=>
  cond z29
  ((cond t2
   (some (t18.2.2.2.2.2.2.2.2.2==t27.2.2.2.2.2.2.2.2.2))
   (some false)).bind fun z30=>
   some z30)
  (t18.2.2.2.2.2.2.2.2.1.bind fun e162=>
   (BH e162).bind fun t31=>
   t27.2.2.2.2.2.2.2.2.1.bind fun e175=>
   (BH e175).bind fun t32=>
   cond ((t31.length:Int) !=(t32.length:Int))
   (some false)
   ((C5 (σ:=Bool) (β:=Bool) 0 (t31.length:Int) true fun i_z34 z34=>
    (cond z34
    ((idx t31 i_z34).bind fun e217=>
     some (!e217.2.2.2.2.2.2))
    (some false)).bind fun z35=>
    ((idx t31 i_z34).bind fun e258=>
    (idx t32 i_z34).bind fun e282=>
    cond (e258.1 !=e282.1)
    (some true)
    ((idx t31 i_z34).bind fun e311=>
     (idx t32 i_z34).bind fun e335=>
     cond (e311.2.1 !=e335.2.1)
     (some true)
     ((idx t32 i_z34).bind fun e364=>
      cond (!e364.2.2.2.2.2.2)
      (some true)
      ((idx t32 i_z34).bind fun e393=>
       cond (decide (e393.2.2.1≥ 0))
       ((idx t32 i_z34).bind fun e417=>
        (idx t32 i_z34).bind fun e441=>
        some (!((e417.2.2.2.2.1==1) && ((e417.2.2.2.2.2.1==e441.2.2.1) && true))))
       (some false))))).bind fun z38=>
    cond z38
    (some (AY.done false))
    (((idx t31 i_z34).bind fun e490=>
     cond (decide ((e490.2.2.2.1.length:Int) >1))
     ((idx t31 i_z34).bind fun e514=>
      some (!e514.2.2.2.2.2.2))
     (some false)).bind fun z56=>
     cond z56
     (some (AY.done false))
     (some (AY.next z35)))).bind fun e_z33=>match e_z33 with
    |.next z33=>
     (cond t2
     ((Ba e162).bind fun t62=>
      cond (t62==z33)
      ((Ba e175).bind fun t63=>
       some (t63==((t32.length:Int)==0)))
      (some false))
     (some false)).bind fun z61=>
     some z61
    |.done q613=>some q613)))
theorem Fi {φ:AE}{h:AH}{F:List Chk}{small_0:Int×Int×Slc×Slc×Slc×Slc×Slc×Unit}{am:List Int}{an:List (List Int)}{ao:List Int}{ap:List Int}{aq:List Int}(gk:Kz φ) (a9:Ro.SliceIs (cF .u8) φ small_0.2.2.1 am) (aa:Ro.SliceIs (Ro.list (cF .u8)) φ small_0.2.2.2.1 an) (ab:Ro.SliceIs (cF .u8) φ small_0.2.2.2.2.1 ao) (ar:Ro.SliceIs (cF .u8) φ small_0.2.2.2.2.2.1 ap) (ac:Ro.SliceIs (cF .u8) φ small_0.2.2.2.2.2.2.1 aq) (s0:St φ (F) h) {r:Bool}(hd:B6 (small_0.1,small_0.2.1,am,an,ao,ap,aq)=some r):
 CallsH cG 10 [(.agg #[(.int .u8 small_0.1),(.int .u8 small_0.2.1),(sv small_0.2.2.1),(sv small_0.2.2.2.1),(sv small_0.2.2.2.2.1),(sv small_0.2.2.2.2.2.1),(sv small_0.2.2.2.2.2.2.1)])] h (Ap fun v h'=>∃ψ:AE,∃y:Bool,Sub φ ψ∧v=((.one aB):Sh).val y∧y=r∧St ψ (F) h'):=by
 refine AR mixed Tryz.func10 ?_;rw [Fh];unfold Dh;unfold B6 at hd;refine AT (vs:=[.int .u8 small_0.1,.int .u8 small_0.2.1,sv small_0.2.2.1,sv small_0.2.2.2.1,sv small_0.2.2.2.2.1,sv small_0.2.2.2.2.2.1,sv small_0.2.2.2.2.2.2.1]) s0 fun r1 iq bc=> ?_;obtain ⟨ir,bd,hd⟩:=bS hd;refine AJ (FK gk bc bd) ?_;rintro _ it ⟨iu,t2,b,rfl,rfl,o⟩;refine ⟨t2,rfl,?_⟩;refine AA (x:=small_0.1) o rfl<|AA (x:=small_0.2.1) o rfl<|AA (x:=small_0.2.2.1) o rfl<|AA (x:=small_0.2.2.2.1) o rfl<|AA (x:=small_0.2.2.2.2.1) o rfl<|AA (x:=small_0.2.2.2.2.2.1) o rfl<|AA (x:=small_0.2.2.2.2.2.2.1) o rfl ?_;obtain ⟨iv,be,hd⟩:=bS hd;refine AJ (Dx (s_0:=(small_0.1,small_0.2.1,small_0.2.2.1,small_0.2.2.2.1,small_0.2.2.2.2.1,small_0.2.2.2.2.2.1,small_0.2.2.2.2.2.2.1,())) (a9.mono b) (aa.mono b) (ab.mono b) (ar.mono b) (ac.mono b) o be) ?_;rintro _ iw ⟨bf,t10,d,rfl,rfl,m⟩;refine ⟨t10,rfl,?_⟩;refine AI hd rfl (fun _ hd=> ?_) (fun _ hd=> ?_)
 ·obtain rfl:=iS hd;exact AB ⟨bf,t2,(b.trans d),rfl,rfl,m.tail⟩
 refine AA (x:=small_0.1) m rfl<|AA (x:=small_0.2.1) m rfl<|AA (x:=small_0.2.2.1) m rfl<|AA (x:=small_0.2.2.2.1) m rfl<|AA (x:=small_0.2.2.2.2.1) m rfl<|AA (x:=small_0.2.2.2.2.2.1) m rfl<|AA (x:=small_0.2.2.2.2.2.2.1) m rfl ?_;obtain ⟨ix,bg,hd⟩:=bS hd;refine AJ (CT (small_0:=(small_0.1,small_0.2.1,small_0.2.2.1,small_0.2.2.2.1,small_0.2.2.2.2.1,small_0.2.2.2.2.2.1,small_0.2.2.2.2.2.2.1,())) (gk.mono (b.trans d)) (a9.mono (b.trans d)) (aa.mono (b.trans d)) (ab.mono (b.trans d)) (ar.mono (b.trans d)) (ac.mono (b.trans d)) m bg) ?_;rintro _ iy ⟨bh,t18,iz,j0,j1,j2,j3,j4,j5,q,j6,l,rfl,rfl,j7,j8,j9,ja,jb,jc,jd,bi,bj⟩;refine ⟨t18,rfl,?_⟩;try dsimp only at hd
 refine AT (vs:=[.slice none 0 0,.slice none 0 0,.slice none 0 0,.slice none 0 0,.slice none 0 0,.slice none 0 0]) bj fun r19 je bk=>AK bk rfl rfl fun jf bl=>AK bl rfl rfl fun jg bm=>AK bm rfl rfl fun jh bn=>AK bn rfl rfl fun ji bo=>AK bo rfl rfl fun jj bp=>AK bp rfl rfl fun jk bq=>AK bq.at2 rfl rfl fun jl p=>AA (x:=small_0.1) p rfl<|AA (x:=small_0.2.1) p rfl<|AA (x:=small_0.2.2.1) p rfl<|AA (x:=small_0.2.2.2.1) p rfl<|AA (x:=small_0.2.2.2.2.1) p rfl<|AA (x:=((none,0,0):Slc)) p rfl<|AA (x:=small_0.2.2.2.2.2.2.1) p rfl ?_;obtain ⟨jm,br,hd⟩:=bS hd;refine AJ (CT (small_0:=(small_0.1,small_0.2.1,small_0.2.2.1,small_0.2.2.2.1,small_0.2.2.2.2.1,((none,0,0):Slc),small_0.2.2.2.2.2.2.1,())) (gk.mono ((b.trans d).trans l)) (a9.mono ((b.trans d).trans l)) (aa.mono ((b.trans d).trans l)) (ab.mono ((b.trans d).trans l)) (Ro.SliceIs.nil (cF .u8) bh) (ac.mono ((b.trans d).trans l)) p br) ?_;rintro _ jn ⟨ad,t27,jo,jp,jq,jr,js,jt,ju,s,jv,z,rfl,rfl,jw,jx,jy,jz,k0,k1,k2,bs,bt⟩;refine ⟨t27,rfl,?_⟩;try dsimp only at hd
 refine AT (vs:=[.slice none 0 0,.slice none 0 0,.slice none 0 0,.slice none 0 0,.slice none 0 0,.slice none 0 0]) bt fun r28 k3 bu=>AK bu rfl rfl fun k4 bv=>AK bv rfl rfl fun k5 bw=>AK bw rfl rfl fun k6 bx=>AK bx rfl rfl fun k7 bz=>AK bz rfl rfl fun k8 c0=>AK c0 rfl rfl fun k9 au=> ?_;obtain ⟨c1,a3,hd⟩:=bS hd;refine Af (fun (y:Bool×Unit) w_ g=>∃ψ:AE,Sub ad ψ∧y.1=g∧St ψ (cW 32 r28 [sv t27.1.1,sv t27.1.2.1,sv t27.1.2.2.1,sv t27.1.2.2.2.1,sv t27.1.2.2.2.2.1,sv t27.1.2.2.2.2.2.1]::⟨BV,[.pointer t27.2.2.1],s⟩::SC r1 small_0::cW 32 r19 [sv t18.1.1,sv t18.1.2.1,sv t18.1.2.2.1,sv t18.1.2.2.2.1,sv t18.1.2.2.2.2.1,sv t18.1.2.2.2.2.2.1]::⟨BV,[.pointer t18.2.2.1],q⟩::F) w_) (g:=c1) ?_ ?_
 ·refine AI a3 rfl (fun _ a3=> ?_) (fun _ a3=> ?_)
  ·have c2:=au.at4;obtain rfl:=iS a3;exact AN (true,()) rfl ⟨ad,(bT _),rfl,c2.at4.at4.at4.at4⟩
  obtain rfl:=iS a3;exact AN ((!t27.2.2.2.2.1),()) rfl ⟨ad,(bT _),rfl,au.at4.at4.at4.at4.at4⟩
 rintro z29 ka ⟨ae,t,rfl,af⟩;try dsimp only at hd
 refine AI hd rfl (fun _ hd=> ?_) (fun _ hd=> ?_)
 ·obtain ⟨c3,a4,hd⟩:=bS hd;refine Af (fun (y:Bool×Unit) w_ g=>∃ψ:AE,Sub ae ψ∧y.1=g∧St ψ (cW 32 r28 [sv t27.1.1,sv t27.1.2.1,sv t27.1.2.2.1,sv t27.1.2.2.2.1,sv t27.1.2.2.2.2.1,sv t27.1.2.2.2.2.2.1]::⟨BV,[.pointer t27.2.2.1],s⟩::SC r1 small_0::cW 32 r19 [sv t18.1.1,sv t18.1.2.1,sv t18.1.2.2.1,sv t18.1.2.2.2.1,sv t18.1.2.2.2.2.1,sv t18.1.2.2.2.2.2.1]::⟨BV,[.pointer t18.2.2.1],q⟩::F) w_) (g:=c3) ?_ ?_
  ·refine AI a4 rfl (fun _ a4=> ?_) (fun _ a4=> ?_)
   ·have c4:=af.at4;obtain rfl:=iS a4;exact AN ((t18.2.2.2.2.1==t27.2.2.2.2.1),()) rfl ⟨ae,(bT _),rfl,c4.at4.at4.at4.at4⟩
   obtain rfl:=iS a4;exact AN (false,()) rfl ⟨ae,(bT _),rfl,af.at4.at4.at4.at4.at4⟩
  rintro z30 kb ⟨c5,c6,rfl,c7⟩;try dsimp only at hd
  obtain rfl:=iS hd;exact AB ⟨c5,z30.1,(((((b.trans d).trans l).trans z).trans t).trans c6),rfl,rfl,c7.tail.tail.tail.tail.tail⟩
 obtain ⟨kc,c8,hd⟩:=bS hd;have av:=((bi.mono (z.trans t))).get c8;obtain ⟨kd,c9,hd⟩:=bS hd;refine AJ (B2 av af c9) ?_;rintro _ ke ⟨kf,t31,kg,a0,rfl,rfl,a1,ca⟩;refine ⟨t31,rfl,?_⟩;have ag:=a1.length;obtain ⟨kh,cb,hd⟩:=bS hd;have aw:=((bs.mono (t.trans a0))).get cb;obtain ⟨ki,cc,hd⟩:=bS hd;refine AJ (B2 aw ca cc) ?_;rintro _ kj ⟨ah,t32,kk,k,rfl,rfl,u,ax⟩;refine ⟨t32,rfl,?_⟩;have ay:=u.length;refine AI hd (by rw [ag,ay] <;>rfl) (fun _ hd=> ?_) (fun _ hd=> ?_)
 ·obtain rfl:=iS hd;exact AB ⟨ah,false,((((((b.trans d).trans l).trans z).trans t).trans a0).trans k),rfl,rfl,ax.tail.tail.tail.tail.tail⟩
 obtain ⟨kl,cd,hd⟩:=bS hd;refine BX cd (fun ce (y:Int×Bool×Bool×Unit) w_ g=>∃ψ:AE,Sub ah ψ∧y.1=ce∧y.2.1=g∧St ψ (cW 32 r28 [sv t27.1.1,sv t27.1.2.1,sv t27.1.2.2.1,sv t27.1.2.2.2.1,sv t27.1.2.2.2.2.1,sv t27.1.2.2.2.2.2.1]::⟨BV,[.pointer t27.2.2.1],s⟩::SC r1 small_0::cW 32 r19 [sv t18.1.1,sv t18.1.2.1,sv t18.1.2.2.1,sv t18.1.2.2.2.1,sv t18.1.2.2.2.2.1,sv t18.1.2.2.2.2.2.1]::⟨BV,[.pointer t18.2.2.1],q⟩::F) w_) ((0:Int),true,false,()) rfl ⟨ah,(bT _),rfl,rfl,ax.at4.at4.at4.at4.at4⟩ ?_ ?_ ?_
 ·rintro _ z34 km _ _ ⟨ai,e,rfl,rfl,aj⟩ c cf az b0 b1;try dsimp only at c cf az b0
  refine Aj (dT ag az) ?_;obtain ⟨cg,w,c⟩:=bS c;refine Af (fun (y:Bool×Unit) w_ g=>∃ψ:AE,Sub ai ψ∧y.1=g∧St ψ (cW 32 r28 [sv t27.1.1,sv t27.1.2.1,sv t27.1.2.2.1,sv t27.1.2.2.2.1,sv t27.1.2.2.2.2.1,sv t27.1.2.2.2.2.2.1]::⟨BV,[.pointer t27.2.2.1],s⟩::SC r1 small_0::cW 32 r19 [sv t18.1.1,sv t18.1.2.1,sv t18.1.2.2.1,sv t18.1.2.2.2.1,sv t18.1.2.2.2.2.1,sv t18.1.2.2.2.2.2.1]::⟨BV,[.pointer t18.2.2.1],q⟩::F) w_) (g:=cg) ?_ ?_
  ·refine AI w rfl (fun _ w=> ?_) (fun _ w=> ?_)
   ·obtain ⟨b2,ch,w⟩:=bS w;obtain ⟨kn,ko,ci,cj,ck,cl⟩:=(a1.mono (k.trans e)).get ch;refine AG _ ci (Ab cj ?_);obtain ⟨_,_,rfl,rfl,⟨_,_,rfl,rfl,⟨_,_,rfl,rfl,⟨_,_,rfl,⟨kp,rfl,kq⟩,⟨_,_,rfl,rfl,⟨_,_,rfl,rfl,rfl⟩⟩⟩⟩⟩⟩:=ck;refine AF (x:=b2.2.2.2.2.2.2) (by rw [AV];exact (AC aj.sub (cl 6 _ rfl))) rfl ?_;obtain rfl:=iS w;exact AN ((!b2.2.2.2.2.2.2),()) rfl ⟨ai,(bT _),rfl,aj.at4.at4.at4.at4.at4⟩
   obtain rfl:=iS w;exact AN (false,()) rfl ⟨ai,(bT _),rfl,aj.at4.at4.at4.at4.at4⟩
  rintro z35 kr ⟨a2,i,rfl,f⟩;try dsimp only at c
  obtain ⟨cy,a,c⟩:=bS c;refine Af (fun (y:Bool×Unit) w_ g=>∃ψ:AE,Sub a2 ψ∧y.1=g∧St ψ (cW 32 r28 [sv t27.1.1,sv t27.1.2.1,sv t27.1.2.2.1,sv t27.1.2.2.2.1,sv t27.1.2.2.2.2.1,sv t27.1.2.2.2.2.2.1]::⟨BV,[.pointer t27.2.2.1],s⟩::SC r1 small_0::cW 32 r19 [sv t18.1.1,sv t18.1.2.1,sv t18.1.2.2.1,sv t18.1.2.2.2.1,sv t18.1.2.2.2.2.1,sv t18.1.2.2.2.2.2.1]::⟨BV,[.pointer t18.2.2.1],q⟩::F) w_) (g:=cy) ?_ ?_
  ·obtain ⟨cz,d0,a⟩:=bS a;obtain ⟨ks,kt,d1,d2,d3,d4⟩:=(a1.mono ((k.trans e).trans i)).get d0;refine AG _ d1 (Ab d2 ?_);obtain ⟨_,_,rfl,rfl,⟨_,_,rfl,rfl,⟨_,_,rfl,rfl,⟨_,_,rfl,⟨ku,rfl,kv⟩,⟨_,_,rfl,rfl,⟨_,_,rfl,rfl,rfl⟩⟩⟩⟩⟩⟩:=d3;refine AF (x:=cz.1) (AC f.sub (d4 0 _ rfl)) rfl ?_;obtain ⟨dh,di,a⟩:=bS a;obtain ⟨kw,kx,dj,dk,dl,dm⟩:=(u.mono (e.trans i)).get di;refine AG _ dj (Ab dk ?_);obtain ⟨_,_,rfl,rfl,⟨_,_,rfl,rfl,⟨_,_,rfl,rfl,⟨_,_,rfl,⟨ky,rfl,kz⟩,⟨_,_,rfl,rfl,⟨_,_,rfl,rfl,rfl⟩⟩⟩⟩⟩⟩:=dl;refine AF (x:=dh.1) (AC f.sub (dm 0 _ rfl)) rfl<|AI a rfl (fun _ a=> ?_) (fun _ a=> ?_)
   ·have e0:=f.at4;obtain rfl:=iS a;exact AN (true,()) rfl ⟨a2,(bT _),rfl,e0.at4.at4.at4.at4⟩
   obtain ⟨e1,e2,a⟩:=bS a;obtain ⟨l0,l1,e3,e4,e5,e6⟩:=(a1.mono ((k.trans e).trans i)).get e2;refine AG _ e3 (Ab e4 ?_);obtain ⟨_,_,rfl,rfl,⟨_,_,rfl,rfl,⟨_,_,rfl,rfl,⟨_,_,rfl,⟨l2,rfl,l3⟩,⟨_,_,rfl,rfl,⟨_,_,rfl,rfl,rfl⟩⟩⟩⟩⟩⟩:=e5;refine AF (x:=e1.2.1) (by rw [AV];exact (AC f.sub (e6 1 _ rfl))) rfl ?_;obtain ⟨ej,ek,a⟩:=bS a;obtain ⟨l4,l5,el,em,en,eo⟩:=(u.mono (e.trans i)).get ek;refine AG _ el (Ab em ?_);obtain ⟨_,_,rfl,rfl,⟨_,_,rfl,rfl,⟨_,_,rfl,rfl,⟨_,_,rfl,⟨l6,rfl,l7⟩,⟨_,_,rfl,rfl,⟨_,_,rfl,rfl,rfl⟩⟩⟩⟩⟩⟩:=en;refine AF (x:=ej.2.1) (by rw [AV];exact (AC f.sub (eo 1 _ rfl))) rfl<|AI a rfl (fun _ a=> ?_) (fun _ a=> ?_)
   ·have f3:=f.at4;obtain rfl:=iS a;exact AN (true,()) rfl ⟨a2,(bT _),rfl,f3.at4.at4.at4.at4⟩
   obtain ⟨f4,f5,a⟩:=bS a;obtain ⟨l8,l9,f6,f7,f8,f9⟩:=(u.mono (e.trans i)).get f5;refine AG _ f6 (Ab f7 ?_);obtain ⟨_,_,rfl,rfl,⟨_,_,rfl,rfl,⟨_,_,rfl,rfl,⟨_,_,rfl,⟨la,rfl,lb⟩,⟨_,_,rfl,rfl,⟨_,_,rfl,rfl,rfl⟩⟩⟩⟩⟩⟩:=f8;refine AF (x:=f4.2.2.2.2.2.2) (by rw [AV];exact (AC f.sub (f9 6 _ rfl))) rfl<|AI a rfl (fun _ a=> ?_) (fun _ a=> ?_)
   ·have fm:=f.at4;obtain rfl:=iS a;exact AN (true,()) rfl ⟨a2,(bT _),rfl,fm.at4.at4.at4.at4⟩
   obtain ⟨fn,fo,a⟩:=bS a;obtain ⟨lc,ld,fp,fq,fr,fs⟩:=(u.mono (e.trans i)).get fo;refine AG _ fp (Ab fq ?_);obtain ⟨_,_,rfl,rfl,⟨_,_,rfl,rfl,⟨_,_,rfl,rfl,⟨_,_,rfl,⟨le,rfl,lf⟩,⟨_,_,rfl,rfl,⟨_,_,rfl,rfl,rfl⟩⟩⟩⟩⟩⟩:=fr;refine AF (x:=fn.2.2.1) (by rw [AV];exact (AC f.sub (fs 2 _ rfl))) rfl<|AI a rfl (fun _ a=> ?_) (fun _ a=> ?_)
   ·obtain ⟨a7,g5,a⟩:=bS a;obtain ⟨lg,lh,g6,g7,g8,b3⟩:=(u.mono (e.trans i)).get g5;refine AG _ g6 (Ab g7 ?_);obtain ⟨_,_,rfl,rfl,⟨_,_,rfl,rfl,⟨_,_,rfl,rfl,⟨_,_,rfl,⟨li,rfl,lj⟩,⟨_,_,rfl,rfl,⟨_,_,rfl,rfl,rfl⟩⟩⟩⟩⟩⟩:=g8;refine AF (x:=a7.2.2.2.2.1) (by rw [AV];exact (AC f.sub (b3 4 _ rfl))) rfl<|AF (x:=a7.2.2.2.2.2.1) (by rw [AV,AV];exact (AC f.sub (b3 5 _ rfl))) rfl ?_;obtain ⟨b4,gm,a⟩:=bS a;obtain ⟨lk,ll,gn,go,gp,gq⟩:=(u.mono (e.trans i)).get gm;refine AG _ gn (Ab go ?_);obtain ⟨_,_,rfl,rfl,⟨_,_,rfl,rfl,⟨_,_,rfl,rfl,⟨_,_,rfl,⟨lm,rfl,ln⟩,⟨_,_,rfl,rfl,⟨_,_,rfl,rfl,rfl⟩⟩⟩⟩⟩⟩:=gp;refine AF (x:=b4.2.2.1) (by rw [AV];exact (AC f.sub (gq 2 _ rfl))) rfl ?_;obtain rfl:=iS a;exact AN ((!((a7.2.2.2.2.1==(1:Int)) && ((a7.2.2.2.2.2.1==b4.2.2.1) && true))),()) rfl ⟨a2,(bT _),rfl,f.at4.at4.at4.at4.at4⟩
   obtain rfl:=iS a;exact AN (false,()) rfl ⟨a2,(bT _),rfl,f.at4.at4.at4.at4.at4⟩
  rintro z38 lo ⟨a8,a5,rfl,a6⟩;try dsimp only at c
  refine AI c rfl (fun _ c=> ?_) (fun _ c=> ?_)
  ·obtain rfl:=iS c;obtain rfl:=b1 _ rfl;try dsimp only at hd
   obtain rfl:=iS hd;exact Ak (Ai (AB ⟨a8,false,(((((((((b.trans d).trans l).trans z).trans t).trans a0).trans k).trans e).trans i).trans a5),rfl,rfl,a6.tail.tail.tail.tail.tail⟩))
  obtain ⟨h3,n,c⟩:=bS c;refine Af (fun (y:Bool×Unit) w_ g=>∃ψ:AE,Sub a8 ψ∧y.1=g∧St ψ (cW 32 r28 [sv t27.1.1,sv t27.1.2.1,sv t27.1.2.2.1,sv t27.1.2.2.2.1,sv t27.1.2.2.2.2.1,sv t27.1.2.2.2.2.2.1]::⟨BV,[.pointer t27.2.2.1],s⟩::SC r1 small_0::cW 32 r19 [sv t18.1.1,sv t18.1.2.1,sv t18.1.2.2.1,sv t18.1.2.2.2.1,sv t18.1.2.2.2.2.1,sv t18.1.2.2.2.2.2.1]::⟨BV,[.pointer t18.2.2.1],q⟩::F) w_) (g:=h3) ?_ ?_
  ·obtain ⟨lp,h4,n⟩:=bS n;obtain ⟨lq,lr,h5,h6,h7,h8⟩:=(a1.mono (((k.trans e).trans i).trans a5)).get h4;refine AG _ h5 (Ab h6 ?_);obtain ⟨_,_,rfl,rfl,⟨_,_,rfl,rfl,⟨_,_,rfl,rfl,⟨_,_,rfl,⟨hj,rfl,hk⟩,hi⟩⟩⟩⟩:=h7;have hl:=hk.length;obtain ⟨_,_,rfl,rfl,⟨_,_,rfl,rfl,rfl⟩⟩:=hi;refine AF (x:=hj) (by rw [AV];exact (AC a6.sub (h8 3 _ rfl))) rfl<|AI n (by rw [hl] <;>rfl) (fun _ n=> ?_) (fun _ n=> ?_)
   ·obtain ⟨b5,hq,n⟩:=bS n;obtain ⟨ls,lt,hr,hs,ht,hu⟩:=(a1.mono (((k.trans e).trans i).trans a5)).get hq;refine AG _ hr (Ab hs ?_);obtain ⟨_,_,rfl,rfl,⟨_,_,rfl,rfl,⟨_,_,rfl,rfl,⟨_,_,rfl,⟨lu,rfl,lv⟩,⟨_,_,rfl,rfl,⟨_,_,rfl,rfl,rfl⟩⟩⟩⟩⟩⟩:=ht;refine AF (x:=b5.2.2.2.2.2.2) (by rw [AV];exact (AC a6.sub (hu 6 _ rfl))) rfl ?_;obtain rfl:=iS n;exact AN ((!b5.2.2.2.2.2.2),()) rfl ⟨a8,(bT _),rfl,a6.at4.at4.at4.at4.at4⟩
   obtain rfl:=iS n;exact AN (false,()) rfl ⟨a8,(bT _),rfl,a6.at4.at4.at4.at4.at4⟩
  rintro z56 lw ⟨b6,b7,rfl,b8⟩;try dsimp only at c
  refine AI c rfl (fun _ c=> ?_) (fun _ c=> ?_)
  ·obtain rfl:=iS c;obtain rfl:=b1 _ rfl;try dsimp only at hd
   obtain rfl:=iS hd;exact Ak (Ai (AB ⟨b6,false,((((((((((b.trans d).trans l).trans z).trans t).trans a0).trans k).trans e).trans i).trans a5).trans b7),rfl,rfl,b8.tail.tail.tail.tail.tail⟩))
  obtain rfl:=iS c;exact Ag ((wN z34.1),z35.1,z34.2.2.1,()) _ rfl rfl ⟨b6,(((e.trans i).trans a5).trans b7),b0,rfl,b8.at4.at4.at4.at4.at4⟩
 ·rintro _ z34 lx _ ⟨i7,i8,rfl,rfl,i9⟩ ia ib;subst ib;refine Aa (dF ag ia)<|AO (AQ (z34.1,z34.2.1,z34.2.2.1,()) rfl ⟨_,rfl,_,i7,i8,rfl,rfl,i9.at4.at4.at4.at4.at4⟩)
 rintro z33 ly ⟨_,rfl,_,b9,ak,_,rfl,ba⟩;try dsimp only at hd
 obtain ⟨ic,j,hd⟩:=bS hd;refine Af (fun (y:Bool×Unit) w_ g=>∃ψ:AE,Sub b9 ψ∧y.1=g∧St ψ (cW 32 r28 [sv t27.1.1,sv t27.1.2.1,sv t27.1.2.2.1,sv t27.1.2.2.2.1,sv t27.1.2.2.2.2.1,sv t27.1.2.2.2.2.2.1]::⟨BV,[.pointer t27.2.2.1],s⟩::SC r1 small_0::cW 32 r19 [sv t18.1.1,sv t18.1.2.1,sv t18.1.2.2.1,sv t18.1.2.2.2.1,sv t18.1.2.2.2.2.1,sv t18.1.2.2.2.2.2.1]::⟨BV,[.pointer t18.2.2.1],q⟩::F) w_) (g:=ic) ?_ ?_
 ·refine AI j rfl (fun _ j=> ?_) (fun _ j=> ?_)
  ·obtain ⟨lz,ie,j⟩:=bS j;refine AJ (Cr (av.mono ((a0.trans k).trans ak)) ba ie) ?_;rintro _ m0 ⟨ig,t62,al,rfl,rfl,bb⟩;refine ⟨t62,rfl,?_⟩;refine AI j rfl (fun _ j=> ?_) (fun _ j=> ?_)
   ·obtain ⟨m1,ih,j⟩:=bS j;refine AJ (Cr (aw.mono ((k.trans ak).trans al)) bb ih) ?_;rintro _ m2 ⟨ii,t63,ij,rfl,rfl,ik⟩;refine ⟨t63,rfl,?_⟩;have il:=ik.at4.at4.at4.at4.at4;obtain rfl:=iS j;exact AN ((t63==((t32.2.1:Int)==(0:Int))),()) rfl ⟨ii,(al.trans ij),(by rw [ay]),il⟩
   obtain rfl:=iS j;exact AN (false,()) rfl ⟨ig,al,rfl,bb.at4.at4.at4.at4.at4⟩
  obtain rfl:=iS j;exact AN (false,()) rfl ⟨b9,(bT _),rfl,ba.at4.at4.at4.at4.at4⟩
 rintro z61 m3 ⟨im,io,rfl,ip⟩;try dsimp only at hd
 obtain rfl:=iS hd;exact AB ⟨im,z61.1,((((((((b.trans d).trans l).trans z).trans t).trans a0).trans k).trans ak).trans io),rfl,rfl,ip.tail.tail.tail.tail.tail⟩
end Go.Proofs.YteolcjbobmpdiaaGreatDoor
namespace Go.Proofs.YteolcjbobmpdiaaGreatDoor
open Go Go.Eng Dg
set_option linter.unusedVariables false
set_option maxRecDepth 100000
def pr4 (x:Ef):Int×Int×Int×List Int:=(x.1,x.2.1,x.2.2.1,x.2.2.2.1)
def NK (x:Ef):Bool:=x.2.2.2.2.2.2
section
variable {p p':dtP}{B:List dtK}{E:List (List Edge)}{d d':LkD}{tt tt':Int}
theorem Xo (M:MkI p B E d tt) (M':MkI p' B E d' tt') (hT:p'.1=p.1) (h:BL p.2.2.1 p'.2.2.1) {i:Nat}(hi:i<B.length) (t:Int):(DH p' (Au p' B E tt') d' (dlB p' B i) (i:Int) t).map pr4=(DH p (Au p B E tt) d (dlB p B i) (i:Int) t).map pr4:=by
 have hb:=bU hi;have e:rsL d' (dlB p' B i) (i:Int) t=rsL d (dlB p B i) (i:Int) t:=by
  unfold dlB;rw [hb];exact Ud M M' (by rw [hT]) h hb t
 unfold DH;rw [e,Wd p p' B E tt tt']
 generalize goV (Au p B E tt) (i:Int) t=go
 generalize rsL d (dlB p B i) (i:Int) t=rs
 by_cases h2:two rs go=true
 ·rw [if_pos h2,if_pos h2];simp only [List.map_cons,List.map_nil,pr4]
 ·rw [if_neg h2,if_neg h2]
theorem Rj (M:MkI p B E d tt) (M':MkI p' B E d' tt') (hT:p'.1=p.1) (h:BL p.2.2.1 p'.2.2.1) {i:Nat}(hi:i<B.length):∀n,(clS p' (Au p' B E tt') d' (dlB p' B i) i n).map pr4=(clS p (Au p B E tt) d (dlB p B i) i n).map pr4
 | 0=>rfl
 |n+1=>by
  have e:∀(p:dtP) (A:dtA) (d:LkD) (dl:List Int),clS p A d dl i (n+1)=clS p A d dl i n++DH p A d dl (i:Int) (n:Int):=fun _ _ _ _=>rfl;rw [e,e,bW,bW,Rj M M' hT h hi n,Xo M M' hT h hi]
theorem Rk (M:MkI p B E d tt) (M':MkI p' B E d' tt') (hT:p'.1=p.1) (h:BL p.2.2.1 p'.2.2.1):∀n,n≤B.length→(clA p' (Au p' B E tt') d' B n).map pr4=(clA p (Au p B E tt) d B n).map pr4
 | 0,_=>rfl
 |n+1,hn=>by
  rw [KF,KF,bW,bW,Rk M M' hT h n (by omega),hT,Rj M M' hT h (show n<B.length by omega)]
def ClK (p:dtP) (x:Ef):Prop:=two x.2.2.2.1 x.2.2.1=true∧x.2.2.2.1.length≤1000000∧Pb p x.2.1 x.2.2.1 x.2.2.2.1 x.2.2.2.2
theorem Oj (M:MkI p B E d tt) (hA:∀t,0≤lvl p t→lvl p t< (p.2.2.2.2.1.length:Int)) {x:Ef}:∀n,n≤B.length→x∈clA p (Au p B E tt) d B n→ClK p x
 | 0,_,hx=>by cases hx
 |n+1,hn,hx=>by
  rw [KF]at hx;rcases List.mem_append.1 hx with h | h
  ·exact Oj M hA n (by omega) h
  ·have hbi:=bU (show n<B.length by omega);have hdl:dlB p B n=CS p.2.2.1 (B[n]).2.1:=by unfold dlB;rw [hbi]
   have go:∀m,x∈clS p (Au p B E tt) d (dlB p B n) n m→ClK p x:=by
    intro m
    induction m with
    |zero=>intro h;cases h
    |succ m ih=>
     intro h;rcases List.mem_append.1 h with h | h
     ·exact ih h
     ·have hl:=QW M hbi (m:Int);rw [←hdl]at hl;unfold DH at h;split at h
      ·rename_i h2
       obtain rfl:=List.mem_singleton.1 h;exact ⟨h2,by dsimp only;omega,(Mu p (m:Int) _ (show (rsL d (dlB p B n) (n:Int) (m:Int)).length≤1000000 by omega) (hA _)).2⟩
      ·cases h
   exact go _ h
end
theorem Pc {nt:Nat}{p:dtP}(hp:Pl nt 0 p) {t s:Int}{l:List Int}{r:Int×Int×Bool}(hk:Pb p t s l r) (h:two l s=true):r.2.2=true∧(0≤s→r.1=1∧r.2.1=s):=by
 have h0:lvl p t≤0:=by
  unfold lvl;split
  ·omega
  ·rename_i g
   have e:=KE (l:=p.2.2.2.1) (i:=t) (by omega) (by omega);rw [e];exact (hp.levels.2 _ (List.getElem_mem _)).2
 rcases hk with ⟨rfl,g,rfl⟩|⟨rfl,g,rfl⟩|⟨k,rfl,g,rfl⟩|⟨k,rfl,g,rfl⟩|⟨q,g,rfl⟩|⟨q,g,m,hm,rfl⟩
 ·simp [two]at h
 ·simp [two]at h
 ·simp [two]at h;omega
 ·unfold byF;rw [if_pos (.inl h0)];exact ⟨rfl,fun _=>⟨rfl,rfl⟩⟩
 ·exact ⟨rfl,fun _=>⟨rfl,rfl⟩⟩
 ·exact ⟨rfl,fun _=>by omega⟩
theorem Wi {p:dtP}{t s:Int}{l:List Int}{r:Int×Int×Bool}(hk:Pb p t s l r) (h:1<l.length):r.2.2=true:=by
 rcases hk with ⟨rfl,g,rfl⟩|⟨rfl,g,rfl⟩|⟨k,rfl,g,rfl⟩|⟨k,rfl,g,rfl⟩|⟨q,g,rfl⟩|⟨q,g,m,hm,rfl⟩
 ·simp at h
 ·simp at h
 ·simp at h
 ·simp at h
 ·rfl
 ·rfl
theorem Rm {g:Ce}{l:List Ef}(h:g.2.2.2.2.2.2.2.2=l) (hl:l.length≤1000000):Ba g=some (!(l.any NK)):=by
 unfold Ba;rw [h];refine Ok.eq (AP (Q:=fun c=>c=l.any NK) ?_ fun c hc=>AD (by rw [hc]));unfold BD;refine AP (Q:=fun k=>decide (k≥0)=l.any NK) ?_ fun k hk=>AD hk;unfold BN;refine KM l (fun _ x=>NK x) (fun j _=>(j:Int)) (by omega) (fun j x hx=> ?_) (fun h=>AD ?_) fun j x hx hq _=>AD ?_
 ·rw [DE,hx,bV];show (some (NK x)).bind _=_;rw [bV];cases NK x<;>rfl
 ·refine cE (List.any_eq_false.2 fun x hx=> ?_);obtain ⟨j,hj⟩:=bZ hx;rw [h j x hj];exact Bool.false_ne_true
 ·rw [List.any_eq_true.2 ⟨x,bX hx,hq⟩];exact decide_eq_true (by omega)
set_option maxHeartbeats 4000000 in
theorem Sw {s:KZ}(G:SmG s):B6 s=some true:=by
 refine Ok.eq ?_;obtain ⟨tk,vr,lefts,rights,precs,assocs,levels⟩:=s;unfold B6;refine AL Ob (AP (U4 G 12 5) fun b hb=>Ac (fun _=>AD rfl) fun hb'=> ?_);have F:=hb (by simpa using hb');have G':SmG (tk,vr,lefts,rights,precs,[],levels):=⟨G.t0,G.v0,G.lefts,G.rights,G.precs,⟨by simp,by simp⟩,G.levels⟩;have F':SmF 12 5 (tk,vr,lefts,rights,precs,[],levels):=⟨F.lefts,by simp,F.rights⟩;obtain ⟨r,r',a1,b1,h⟩:=Wh G F G' F';refine AL a1 (AL b1 ?_);rcases h with ⟨h1,h2⟩|⟨h1,h2,nt,p,p',B,E,d,d',tt,tt',g,g',hg,hg',hp,hp',hT,hS,M,M',hG,hG'⟩
 ·refine AP (Q:=fun c=>c=true) (Bd (by rw [h1];rfl) (AD rfl)) fun c hc=> ?_;subst hc;exact Bd rfl (AP (Q:=fun c=>c=true) (Bd rfl (AD (by rw [h1,h2];rfl))) fun c hc=>AD hc)
 refine AP (Q:=fun c=>c=false) (AU (by rw [h1];rfl) (AD (by rw [h2];rfl))) fun c hc=> ?_;subst hc;refine AU rfl ?_;rw [hg,hg'];have hf:=M.all.few;have hTl:=hp.terms.len;have hn5:=hp.nt5;have hcl:=NQ p (Au p B E tt) d B B.length;have hmul:B.length *p.1.length≤300 *10:=Nat.mul_le_mul hf (by omega);have hsame:=Rk M M' hT hS B.length (cC _);have hk:=fun x=>Oj M (Oe hp) (x:=x) B.length (cC _);have hk':=fun x=>Oj M' (Oe hp') (x:=x) B.length (cC _);have hlen:=QZ hsame;have q1:=LX hG (by omega) fun x hx=>(hk x hx).2.1;have q2:=LX hG' (by omega) fun x hx=>(hk' x hx).2.1;have q3:g.2.2.2.2.2.2.2.2=clA p (Au p B E tt) d B B.length:=by obtain ⟨rows,gos,rfl,_⟩:=hG;rfl
 have q4:g'.2.2.2.2.2.2.2.2=clA p' (Au p' B E tt') d' B B.length:=by obtain ⟨rows,gos,rfl,_⟩:=hG';rfl
 refine AL rfl (AL q1 (AL rfl (AL q2 ?_)));have q5:=Rm q3 (by omega);have q6:=Rm q4 (by omega);clear q1 q2 q3 q4 hG hG' hg hg'
 generalize clA p (Au p B E tt) d B B.length=c at *
 generalize clA p' (Au p' B E tt') d' B B.length=c' at *
 refine AU (by rw [hlen];simp)<|EC (fun j (z:Bool)=>z= !((c.take j).any NK)) (by omega) (by simp) (fun j z hj hz=> ?_) fun z hz=> ?_
 ·have hx:=bU hj;have hy:=bU (show j<c'.length by omega);obtain ⟨x,hxe⟩:∃x,c[j] =x:=⟨_,rfl⟩;obtain ⟨y,hye⟩:∃y,c'[j] =y:=⟨_,rfl⟩;rw [hxe]at hx;rw [hye]at hy;have e:pr4 y=pr4 x:=by
   have e:(c'.map pr4)[j]? =(c.map pr4)[j]? :=by rw [hsame]
   rw [bR,bR,hx,hy]at e;exact Option.some.inj e
  have kx:=hk x (bX hx);have ky:=hk' y (bX hy);have e1:y.1=x.1:=congrArg (·.1) e;have e2:y.2.1=x.2.1:=congrArg (·.2.1) e;obtain ⟨f1,f2⟩:=Pc hp' ky.2.2 ky.1;refine AP (Q:=fun b=>b= !((c.take (j+1)).any NK)) ?_ fun b hb=> ?_
  ·subst hz;rw [List.take_add_one,hx,List.any_append];refine Ac (fun h=>AW hx (AD ?_)) fun h=>AD ?_
   ·have h:(c.take j).any NK=false:=by simpa using h
    rw [h];simp [NK]
   ·have h:(c.take j).any NK=true:=by simpa using h
    rw [h];rfl
  ·refine AP (Q:=fun c=>c=false) (AW hx (AW hy (AU (by rw [e1];simp) (AW hx (AW hy (AU (by rw [e2];simp) (AW hy (AU (by rw [f1];rfl) (AW hy (Ac (fun h=> ?_) fun _=>AD rfl)))))))))) fun b hb=> ?_
   ·have h:=of_decide_eq_true h;obtain ⟨f3,f4⟩:=f2 h;exact AW hy (AW hy (AD (by rw [f3,f4];simp)))
   ·subst hb;refine AU rfl (AP (Q:=fun c=>c=false) (AW hx (Ac (fun h=>AW hx (AD ?_)) fun _=>AD rfl)) fun b hb=> ?_)
    ·have h:=of_decide_eq_true h;rw [Wi kx.2.2 (by omega)];rfl
    ·subst hb;exact AU rfl (Ea (by assumption))
 ·refine AP (Q:=fun c=>c=true) (Bd rfl (AL q5 (Bd ?_ (AL q6 (AD ?_))))) fun c hc=>AD hc
  ·rw [hz,List.take_of_length_le (cC _)];simp
  ·cases c' with
   |nil=>rfl
   |cons y l=>
    have ky:=hk' y (List.mem_cons_self ..);have hb:NK y=true:=(Pc hp' ky.2.2 ky.1).1;rw [List.any_cons,hb];simp;omega
end Go.Proofs.YteolcjbobmpdiaaGreatDoor
namespace Go.Proofs.YteolcjbobmpdiaaGreatDoor
open Go Go.Eng
set_option linter.unusedVariables false
section
variable {h:AH}
theorem resolveLevels {n:Nat}{cs:List Value}(gk:Kz (Be h)) (hr:F5 cG h n 25 cs):CallsH cG 10 [.agg cs.toArray] h (Ap (TF h)):=by
 obtain ⟨s,d2,d3,d4,d5,d6,rfl,h2,h3,h4,h5,h6,G⟩:=RD hr;exact Q4 (Fi (small_0:=s) gk h2 h3 h4 h5 h6 (St.start h) (Sw G))
end
end Go.Proofs.YteolcjbobmpdiaaGreatDoor
