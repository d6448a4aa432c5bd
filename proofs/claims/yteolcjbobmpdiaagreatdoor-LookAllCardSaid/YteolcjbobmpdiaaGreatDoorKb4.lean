/-
  BuildL, G3, G4, P1, P2, P3, P4, P5, T1, T2, LookD, DgTarjan, DgTarjanB, DgP1, F1, F2, DenL, FirstS, FirstT, FirstU, FirstV, put together.
  Conditions: none; each part tells its own.
-/
import Derived.Test.YteolcjbobmpdiaaGreatDoorKb3
import Derived.Test.YteolcjbobmpdiaaGreatDoorKb2
import Derived.Test.YteolcjbobmpdiaaGreatDoorKb1
import Derived.Test.YteolcjbobmpdiaaGreatDoorProg
import Derived.KernelRfl
namespace Go.Proofs.YteolcjbobmpdiaaGreatDoor
open Go Go.Eng
set_option linter.unusedVariables false
set_option maxRecDepth 100000
abbrev Edge:Type:=Int×Int
abbrev BSt:Type:=Fd×List dtK×List (List Edge)×CX×CX
def FQ (E:List (List Edge)) (n n':Nat):List (List Edge):=if n'=n then E else E++ [[]]
noncomputable def RH (p:Ay) (b:dtK) (i sym:Int) (y:BSt):Option (AU BSt Int):=
 (Bp (qA p FP 0) b.2.1 sym).bind fun k=>
 (SE p y.1 y.2.1 y.2.2.2.1 y.2.2.2.2 k i sym).bind fun r=>
 cond (r.2.1 !=(0:Int)) (some (AU.done r.2.1))
 ((idx (FQ y.2.2.1 y.2.1.length r.2.2.2.1.length) i).bind fun el=>
  (app el [(sym,r.1)]).bind fun el'=>
  (Dq (FQ y.2.2.1 y.2.1.length r.2.2.2.1.length) i el').bind fun E'=>
  some (AU.next (r.2.2.1,r.2.2.2.1,E',r.2.2.2.2.1,r.2.2.2.2.2)))
noncomputable def OS (p:Ay) (b:dtK) (i:Int) (y:BSt):Option (AU BSt Int):=
 (BY (qA p FP 0) b.2.1).bind fun syms=>
 Cf 0 ((syms.length:Nat):Int) y fun j y=>(idx syms j).bind fun sym=>RH p b i sym y
noncomputable def MG (p:Ay) (y:BSt):Option (AU BSt Int):=
 loop (σ:=Int×BSt) ((0:Int),y) fun z=>
  cond (decide (z.1< ((z.2.2.1.length:Nat):Int)))
   ((idx z.2.2.1 z.1).bind fun b=>(OS p b z.1 z.2).bind fun e=>match e with
    | .next y=>some (AU.next (IntKind.wrap .i64 (z.1+1),y))
    | .done q=>some (AU.done (AU.done q)))
   (some (AU.done (AU.next z.2)))
noncomputable def Mq (p:Ay) (st it:Int):Option (Option C1×Int):=
 (EI st).bind fun rm=>
 (EI it).bind fun cl=>
 (SE p [] [] rm cl [(0,0)] (-1) (-1)).bind fun r=>
 cond (r.2.1 !=(0:Int)) (some (none,r.2.1))
 ((MG p (r.2.2.1,r.2.2.2.1,FQ [] 0 r.2.2.2.1.length,r.2.2.2.2.1,r.2.2.2.2.2)).bind fun e=>match e with
  | .next y=>(C6 y.2.2.2.2).bind fun tot=>some (some (p.1,p.2.1,p.2.2.1,p.2.2.2.1,p.2.2.2.2.1,p.2.2.2.2.2,EG y.2.1 y.2.2.1,tot),0)
  | .done q=>some (none,q))
theorem Td (p:Ay) (s:Slc) (t:Int) (l:List Item) (x:Int):Bp (qA p s t) l x=Bp (qA p FP 0) l x:=rfl
theorem PT (p:Ay) (s:Slc) (t:Int) (l:List Item):BY (qA p s t) l=BY (qA p FP 0) l:=rfl
theorem Mr {ε:Type} {B:List dtK} {S:List ε} {i:Int} {b:dtK} {s:ε} (hb:idx B i=some b) (hs:S[i.toNat]? =some s):idx (EG B S) i=some (LE b s):=by
 obtain ⟨h0,_,h2⟩:=Cz hb
 unfold idx
 rw [if_pos h0]
 unfold EG
 rw [List.getElem?_zipWith,h2,hs]
theorem Te {ε:Type} : ∀ {B:List dtK} {S:List ε} {n:Nat} {b:dtK} (s:ε),B[n]? =some b→(EG B S).set n (LE b s)=EG B (S.set n s):=by
 intro B
 induction B with
 | nil=>intro S n b s h; simp at h
 | cons x B ih=>
  intro S n b s h
  cases S with
  | nil=>rfl
  | cons u S=>
   cases n with
   | zero=>
    simp only [List.getElem?_cons_zero,Option.some.injEq] at h
    subst h
    rfl
   | succ n=>exact congrArg _ (ih s (by simpa using h))
def DO (φ:AC) (S:List Slc) (E:List (List Edge)) (c:Nat):Prop:= ∀(j:Nat) s e,j ≠ c→S[j]? =some s→E[j]? =some e→Ro.SliceIs Fq φ s e
def HP (S:List Slc) (E:List (List Edge)) (i:Nat):Prop:= ∀j:Nat,i≤j→(∀s,S[j]? =some s→s=FP)∧ ∀e,E[j]? =some e→e= []
theorem DO.mono {φ ψ:AC} {S:List Slc} {E:List (List Edge)} {c:Nat} (H:DO φ S E c) (hs:Sub φ ψ):DO ψ S E c:=fun j s e hj h1 h2=>(H j s e hj h1 h2).mono hs
theorem Ef {α:Type} {l:List α} {x y:α} {j:Nat} (h:(l++ [x])[j]? =some y):l[j]? =some y∨j=l.length∧y=x:=by
 rcases Nat.lt_or_ge j l.length with g | g
 ·rw [List.getElem?_append_left g] at h; exact .inl h
 ·rw [List.getElem?_append_right g] at h
  right
  have:j - l.length=0:=by
   rcases Nat.eq_zero_or_pos (j - l.length) with q | q
   ·exact q
   ·rw [List.getElem?_eq_none (by simp; omega)] at h; cases h
  rw [this] at h
  simp at h
  exact ⟨by omega,h.symm⟩
theorem DO.snoc {φ:AC} {S:List Slc} {E:List (List Edge)} {c:Nat} (H:DO φ S E c) (hl:S.length=E.length):DO φ (S++ [FP]) (E++ [[]]) c:=by
 intro j s e hj h1 h2
 rcases Ef h1 with h1 | ⟨h1,rfl⟩
 ·rcases Ef h2 with h2 | ⟨h2,rfl⟩
  ·exact H j s e hj h1 h2
  ·rw [List.getElem?_eq_none (by omega)] at h1; cases h1
 ·rcases Ef h2 with h2 | ⟨h2,rfl⟩
  ·rw [List.getElem?_eq_none (by omega)] at h2; cases h2
  ·exact Ro.SliceIs.nil _ _
theorem HP.snoc {S:List Slc} {E:List (List Edge)} {i:Nat} (H:HP S E i):HP (S++ [FP]) (E++ [[]]) i:=by
 intro j hj
 refine ⟨fun s h=> ?_,fun e h=> ?_⟩
 ·rcases Ef h with h | ⟨_,h⟩
  ·exact (H j hj).1 s h
  ·exact h
 ·rcases Ef h with h | ⟨_,h⟩
  ·exact (H j hj).2 e h
  ·exact h
theorem Uv {φ:AC} : ∀ {B:List dtK} {S:List Slc} {E:List (List Edge)} {vs:List Value},S.length=B.length→E.length=B.length→(∀(j:Nat) s e,S[j]? =some s→E[j]? =some e→Ro.SliceIs Fq φ s e)→roB.All φ vs (EG B S)→Sq.All φ vs (EG B E):=by
 intro B
 induction B with
 | nil=>intro S E vs h1 h2 h3 H; cases H; exact .nil
 | cons b B ih=>
  intro S E vs h1 h2 h3 H
  cases S with
  | nil=>cases h1
  | cons s S=>
   cases E with
   | nil=>cases h2
   | cons e E=>
    cases H with
    | @cons a v _ _ hx hr=>
     obtain ⟨_,_,rfl,⟨t0,rfl,q0⟩,_,_,rfl,⟨t1,rfl,q1⟩,_,_,rfl,rfl,_,_,rfl,rfl,rfl⟩:=hx
     exact Ro.All.cons (a:= [_,_,_,_,_]) ⟨[_],_,rfl,⟨t0,rfl,q0⟩, [_],_,rfl,⟨t1,rfl,q1⟩, [_],_,rfl,⟨s,rfl,h3 0 s e rfl rfl⟩, [_],_,rfl,rfl,rfl⟩ (ih (by simpa using h1) (by simpa using h2) (fun j s' e' g1 g2=>h3 (j+1) s' e' (by simpa using g1) (by simpa using g2)) hr)
theorem SF {φ:AC} {t:Slc} {B:List dtK} {S:List Slc} {E:List (List Edge)} (h1:S.length=B.length) (h2:E.length=B.length) (h3: ∀(j:Nat) s e,S[j]? =some s→E[j]? =some e→Ro.SliceIs Fq φ s e) (H:Ro.SliceIs roB φ t (EG B S)):Ro.SliceIs Sq φ t (EG B E):=by
 obtain ⟨g1,g2,g3,g4,vs,g5,g6⟩:=H
 have hl:(EG B E).length=(EG B S).length:=by rw [D4 h1,D4 h2]
 exact ⟨hl.trans g1,g2,g3,fun hp=>List.eq_nil_of_length_eq_zero (by rw [hl,g4 hp]; rfl),vs,Uv h1 h2 h3 g5,g6⟩
section
variable {φ:AC} {h:AH} {F:List Chk}
theorem Qe {c3 c4 c5 c6 m a r1 r2:Nat} {fd:Fd} {p:Ay} {ls:Slc} {tot:Int} {L:List dtB} {rm cl:CX} (H:St φ (bC c3 c4 c5 c6 m a r1 r2 fd p ls tot L rm cl F) h):BH h ⟨a,6,none⟩=some (.slice ls.1 ls.2.1 ls.2.2):=by
 obtain ⟨b,vs,e,⟨_,_,rfl,⟨u1,rfl,kk1⟩,_,_,rfl,⟨u2,rfl,kk2⟩,_,_,rfl,⟨u3,rfl,kk3⟩,_,_,rfl,⟨u4,rfl,kk4⟩,_,_,rfl,⟨u5,rfl,kk5⟩,_,_,rfl,⟨u6,rfl,kk6⟩,_,_,rfl,rfl,rfl⟩,s⟩:=St.openR H.at3
 obtain rfl:a=b:=by simpa using e
 exact St.cell s rfl
theorem St.back3 {a0 a1 a2 a3:Chk} (H:St φ (a3::a0::a1::a2::F) h):St φ (a0::a1::a2::a3::F) h:=H.at3.at3.at3
theorem St.to9 {e a0 a1 a2 a3 a4 a5 a6 a7 a8:Chk} (H:St φ (e::a0::a1::a2::a3::a4::a5::a6::a7::a8::F) h):St φ (a0::a1::a2::a3::a4::a5::a6::a7::a8::e::F) h:=
 H.at9.at9.at9.at9.at9.at9.at9.at9.at9
theorem St.tail9 {a0 a1 a2 a3 a4 a5 a6 a7 a8:Chk} (H:St φ (a0::a1::a2::a3::a4::a5::a6::a7::a8::F) h):St φ F h:=H.tail.tail.tail.tail.tail.tail.tail.tail.tail
end
theorem Sg.nm_lev {nt nv nl:Nat} {g:CW} (H:Sg nt nv nl g): ∀x ∈ E1 g.2.2.1,Nm x:=fun x hx=>by
 have:=H.nl5; have:=H.nt5
 rcases H.levs.names x hx with ⟨i,h,rfl⟩ | ⟨i,h,rfl⟩
 ·exact .lev (by omega)
 ·exact .tok (by omega)
theorem Ru1.nm {nt nv nl:Nat} {r:C3} (H:Ru1 nt nv nl r) (h1:nt≤5) (h2:nv≤4) (h3:nl≤5):Nm r.1∧(∀x ∈ r.2.1,Nm x)∧(r.2.2.1= {data:= #[] } ∨Nm r.2.2.1):=by
 refine ⟨?_,fun x hx=> ?_,?_⟩
 ·obtain ⟨i,h,e⟩:=H.left; rw [e]; exact .var (by omega)
 ·rcases H.right x hx with ⟨i,h,rfl⟩ | ⟨i,h,rfl⟩
  ·exact .tok (by omega)
  ·exact .var (by omega)
 ·rcases H.prec with h | ⟨i,h,e⟩
  ·exact .inl h
  ·rw [e]; exact .inr (.lev (by omega))
set_option maxHeartbeats 2000000 in
theorem Tf {nt nv nl:Nat} {g:CW} (H:Sg nt nv nl g):CG g=some true:=by
 refine Ok.eq ?_
 have hlr:=H.room
 have hll:=H.levs.len
 have htl:=H.toks.1
 have hnt:=H.nt5; have hnv:=H.nv4; have hnl:=H.nl5
 obtain ⟨r0,hr0,_⟩:=H.all 0 (by have:=H.nv1; omega)
 have hpos:=List.length_pos_of_mem hr0
 unfold CG
 have hsk:=H.skips
 have hst:=H.start
 refine AM (Q:=fun x=>x=false) ?_ fun x hx=> ?_
 ·refine An (decide_eq_false (by omega)) (An (by rw [hsk]; rfl) (An (decide_eq_false (by omega)) (An (decide_eq_false (by omega)) (An (decide_eq_false (by omega)) ?_))))
  rw [hst]
  exact AN (Q7 (by omega)) (AD rfl)
 subst hx
 refine An rfl ?_
 refine Eb (fun k (l:List ByteArray)=>l.length=k∧ ∀j,j<k→l[j]? =some (nm 97 j)) (by omega) ⟨rfl,fun j h=>by omega⟩ (fun k l hk h=> ?_) fun toks hz=> ?_
 ·have hx:=H.toks.2 k (by omega)
  refine AV hx (Bm (by have:=h.1; simp only [List.length_cons,List.length_nil]; omega) (AV hx ?_))
  refine AN (OJ (.tok (by omega))) (An rfl (E7 ⟨by simp [h.1],fun j hj=> ?_⟩))
  rcases Nat.lt_or_ge j k with g | g
  ·rw [List.getElem?_append_left (by rw [h.1]; exact g)]; exact h.2 j g
  ·have:j=k:=by omega
   subst this
   rw [List.getElem?_append_right (by rw [h.1]; omega),h.1]
   simp
 refine Eb (fun k _=>True) (by rw [hsk]; decide) trivial (fun k l hk h=>by rw [hsk] at hk; exact absurd hk (Nat.not_lt_zero _)) fun _ _=> ?_
 refine Eb (fun k (l:List ByteArray)=>l=E1 (g.2.2.1.take k)) (by omega) rfl (fun k l hk h=> ?_) fun levs hv=> ?_
 ·subst h
  have hx:=List.getElem?_eq_getElem hk
  obtain ⟨h1,h2,h3⟩:=H.levs.each k _ hx
  have e:E1 (g.2.2.1.take (k+1))=E1 (g.2.2.1.take k) ++g.2.2.1[k].2:=by
   unfold E1
   rw [List.take_add_one,hx,List.flatMap_append]
   show _=_
   simp
  have hroom:=H.levs.room
  have e2:E1 g.2.2.1=E1 (g.2.2.1.take (k+1)) ++E1 (g.2.2.1.drop (k+1)):=by
   unfold E1
   rw [← List.flatMap_append,List.take_append_drop]
  have e3:=congrArg List.length e2
  rw [e,List.length_append,List.length_append] at e3
  refine AV hx (Bm (by omega) ?_)
  refine AM (Q:=fun x=>x=false) (An (decide_eq_false (by omega)) (An (decide_eq_false (by omega)) (AD ?_))) fun x hx=> ?_
  ·have:=List.length_pos_of_mem h3
   exact beq_eq_false_iff_ne.2 (by omega)
  ·subst hx
   refine An rfl ?_
   rw [← e]
   exact E7 rfl
 refine Eb (fun k _=>True) (by omega) trivial (fun k _ hk _=> ?_) fun _ _=> ?_
 ·have hx:=List.getElem?_eq_getElem hk
  have hr:=H.rules _ (List.getElem_mem hk)
  obtain ⟨n1,n2,n3⟩:=hr.nm hnt hnv hnl
  have hf:=hr.few
  refine AV hx ?_
  refine AM (Q:=fun x=>x=false) (AN n1.name (An rfl (An (decide_eq_false (by omega)) (Ac (fun hc=> ?_) fun hc=> ?_)))) fun x hx=> ?_
  ·rw [hr.act]
   rcases n3 with h | h
   ·rw [h,DY] at hc; simp at hc
   ·exact AN h.name (An rfl (AN Kv (AD rfl)))
  ·rw [hr.act]
   exact AN Kv (AD rfl)
  ·subst hx
   refine An rfl ?_
   refine Eb (fun k _=>True) (by omega) trivial (fun j _ hj _=> ?_) fun _ _=>E7 trivial
   exact AV (List.getElem?_eq_getElem hj) (AN (n2 _ (List.getElem_mem hj)).name (An rfl (E7 trivial)))
 have hmem: ∀x ∈ toks,∃j,j<nt∧x=nm 97 j:=fun x hx=>by
  obtain ⟨j,hj⟩:=List.getElem?_of_mem hx
  have hjl:=(List.getElem?_eq_some_iff.1 hj).1
  have:=hz.2 j (by omega)
  rw [hj] at this
  exact ⟨j,by omega,Option.some.inj this⟩
 have h1:BU toks=some true:=Q8 (by omega) (fun x hx=>by obtain ⟨j,hj,rfl⟩:=hmem x hx; exact .tok (by omega)) (List.nodup_iff_pairwise_ne.2 (List.pairwise_iff_getElem.2 fun i j hi hj hij e=>by
  have a:=hz.2 i (by omega)
  have b:=hz.2 j (by omega)
  rw [List.getElem?_eq_getElem hi] at a
  rw [List.getElem?_eq_getElem hj,← e,a] at b
  have:=KY (by omega) (by omega) (Option.some.inj b)
  omega))
 have h2:BU levs=some true:=by
  rw [hv,List.take_of_length_le (Nat.le_refl _)]
  exact Q8 (by have:=H.levs.room; omega) H.nm_lev H.levs.once
 exact AM (Q:=fun x=>x=true) (AN h1 (Cp rfl (AN h2 (AD rfl)))) fun x hx=>AD hx
abbrev Tg:ByteArray:= {data:= #[36,101,110,100] }
structure TT (nt:Nat) (T:List ByteArray):Prop where
 len:T.length=nt+1
 zero:T[0]? =some Tg
 tok: ∀j,j<nt→T[j+1]? =some (nm 97 j)
theorem Th (c i:Nat):Tg ≠ nm c i:=fun h=>by unfold nm at h; simp at h
theorem TT.cases {nt:Nat} {T:List ByteArray} (H:TT nt T) {j:Nat} {s:ByteArray} (h:T[j]? =some s):(j=0∧s=Tg)∨ ∃i,i<nt∧j=i+1∧s=nm 97 i:=by
 cases j with
 | zero=>rw [H.zero] at h; exact .inl ⟨rfl,(Option.some.inj h).symm⟩
 | succ i=>
  have:=(List.getElem?_eq_some_iff.1 h).1
  have hl:=H.len
  rw [H.tok i (by omega)] at h
  exact .inr ⟨i,by omega,rfl,(Option.some.inj h).symm⟩
structure VV (nv:Nat) (V:List ByteArray):Prop where
 names: ∀x ∈ V,∃i,i<nv∧x=nm 83 i
 once:V.Nodup
theorem Uw {nt i:Nat} {T V:List ByteArray} (H:TT nt T) (hn:nt≤5) (hi:i<nt):Ok (BP (T,V) (nm 97 i)) fun k=>k=((i+1:Nat):Int):=by
 have hl:=H.len
 unfold BP
 refine AM (GG (by dsimp only; omega)) fun k hk=> ?_
 rcases hk with ⟨rfl,h⟩ | ⟨j,rfl,h⟩
 ·exact absurd (List.mem_of_getElem? (H.tok i hi)) h
 ·refine Cp (decide_eq_true (by omega)) (AD ?_)
  rcases H.cases h with ⟨_,h⟩ | ⟨q,h1,h2,h3⟩
  ·exact absurd h.symm (Th _ _)
  ·have:=KY (by omega) (by omega) h3
   omega
theorem OT {nt nv i:Nat} {T V:List ByteArray} (H:TT nt T) (hn:nt≤5) (hv:nv≤4) (hV:V.length≤100) (hi:i<nv) (hm:nm 83 i ∈ V):Ok (BP (T,V) (nm 83 i)) fun k=> ∃j:Nat,k=((nt+1+j:Nat):Int)∧V[j]? =some (nm 83 i):=by
 have hl:=H.len
 unfold BP
 refine AM (GG (by dsimp only; omega)) fun k hk=> ?_
 rcases hk with ⟨rfl,h⟩ | ⟨j,rfl,h⟩
 ·refine An rfl (AM (GG (by dsimp only; omega)) fun k hk=> ?_)
  rcases hk with ⟨rfl,h⟩ | ⟨j,rfl,h⟩
  ·exact absurd hm h
  ·refine Cp (decide_eq_true (by omega)) (AD ⟨j,?_,h⟩)
   have:=(List.getElem?_eq_some_iff.1 h).1
   dsimp only at this
   rw [hl,wr (by omega)]
   omega
 ·rcases H.cases h with ⟨_,h⟩ | ⟨q,h1,h2,h3⟩
  ·exact absurd h.symm (Th _ _)
  ·have:=KY (by omega) (by omega) h3
   omega
theorem PU {nt nv nl:Nat} {g:CW} (H:Sg nt nv nl g) (s:ByteArray):Ok (Br g s) fun k=>0≤k∧k≤nl∧ ∀i,i<nl→s=nm 112 i→k ≠ 0:=by
 have hl:=H.levs.len
 have hnl:=H.nl5
 unfold Br
 have hr:=H.levs.room
 have hnt:=H.nt5
 have hlen: ∀(j:Nat) x,g.2.2.1[j]? =some x→x.2.length≤100:=fun j x hx=>by
  have:=(List.sublist_flatten_of_mem (List.mem_map_of_mem (f:=(·.2)) (List.mem_of_getElem? hx))).length_le
  have e:E1 g.2.2.1=(List.map (·.2) g.2.2.1).flatten:=by unfold E1; rw [List.flatMap_def]
  rw [← e] at this
  omega
 refine Ku g.2.2.1 (fun _ x=> @decide (s ∈ x.2) (Classical.propDecidable _)) (fun k _=>IntKind.wrap .i64 ((k:Int) +1)) (by omega) (fun j x hx=> ?_) (fun h=> ?_) fun j x hx hq _=> ?_
 ·rw [Cw,hx,Option.bind_some]
  obtain ⟨k,h1,h2⟩:=GG (l:=x.2) (s:=s) (by have:=hlen j x hx; omega)
  rw [h1,Option.bind_some]
  rcases h2 with ⟨rfl,h⟩ | ⟨q,rfl,h⟩
  ·rw [@decide_eq_false _ (Classical.propDecidable _) h]; rfl
  ·rw [@decide_eq_true _ (Classical.propDecidable _) (List.mem_of_getElem? h),decide_eq_true (by omega)]; rfl
 ·refine AD ⟨by omega,by omega,fun i hi hs _=> ?_⟩
  have hx:=List.getElem?_eq_getElem (show i<g.2.2.1.length by omega)
  have:= @of_decide_eq_false _ (Classical.propDecidable _) (h i _ hx)
  rw [hs] at this
  exact this (H.levs.each i _ hx).2.2
 ·have:=(List.getElem?_eq_some_iff.1 hx).1
  have e:IntKind.wrap .i64 ((j:Int) +1)=(j:Int) +1:=wr (by omega)
  exact AD ⟨by rw [e]; omega,by rw [e]; omega,fun _ _ _=>by rw [e]; omega⟩
structure Pr (nt nV nl:Nat) (r:BC):Prop where
 left:((nt+1:Nat):Int) ≤r.1∧r.1< ((nt+1+nV:Nat):Int)
 few:r.2.1.length≤8
 right: ∀x ∈ r.2.1,0<x∧x< ((nt+1+nV:Nat):Int)
 lev:0≤r.2.2∧r.2.2≤nl
structure Pl (nt nl:Nat) (p:Ay):Prop where
 nt5:1≤nt∧nt≤5
 nl5:nl≤5
 terms:TT nt p.1
 vars:1≤p.2.1.length∧p.2.1.length≤24
 first: ∃st:Int,((nt+1:Nat):Int) ≤st∧st< ((nt+1+p.2.1.length:Nat):Int)∧p.2.2.1[0]? =some (((nt+1+p.2.1.length:Nat):Int), [st],0)
 rules: ∀(k:Nat) r,1≤k→p.2.2.1[k]? =some r→Pr nt p.2.1.length nl r
 room:1≤p.2.2.1.length∧p.2.2.1.length≤25
 all: ∀v:Nat,v<p.2.1.length→ ∃r ∈ p.2.2.1,r.1=((nt+1+v:Nat):Int)
 levels:p.2.2.2.1.length=nt+1∧ ∀x ∈ p.2.2.2.1,0≤x∧x≤nl
 assocs:p.2.2.2.2.1.length=nl+1
theorem Ti {α:Type} {l:List α} (h:l.Nodup) {i j:Nat} (hi:i<l.length) (hj:j<l.length) (e:l[i] =l[j]):i=j:=by
 have H:=List.pairwise_iff_getElem.1 (List.nodup_iff_pairwise_ne.1 h)
 rcases Nat.lt_trichotomy i j with g | g | g
 ·exact absurd e (H i j hi hj g)
 ·exact g
 ·exact absurd e.symm (H j i hj hi g)
set_option maxHeartbeats 4000000 in
theorem of_ok {nt nv nl:Nat} {g:CW} (H:Sg nt nv nl g):Ok (Co g) fun p=>Pl nt nl (p.1,p.2.1,p.2.2.1,p.2.2.2.1,p.2.2.2.2.1,p.2.2.2.2.2.1):=by
 have hlr:=H.room
 have hll:=H.levs.len
 have htl:=H.toks.1
 have hnt:=H.nt5; have hnt1:=H.nt1; have hnv:=H.nv4; have hnl:=H.nl5; have hnv1:=H.nv1
 obtain ⟨r0,hr0,_⟩:=H.all 0 (by omega)
 have hpos:=List.length_pos_of_mem hr0
 unfold Co
 refine AN (Tf H) (An rfl ?_)
 refine B5 (fun k (z:Ay)=>z.1= [Tg] ∧VV nv z.2.1∧z.2.1.length≤k∧(∀(j:Nat) r,j<k→g.2.2.2.2[j]? =some r→r.1 ∈ z.2.1)∧(∀x ∈ z.2.1,∃r ∈ g.2.2.2.2,r.1=x)∧z.2.2.1= [] ∧z.2.2.2.1= [0] ∧z.2.2.2.2.1= [0] ∧z.2.2.2.2.2.length=k+1) (by omega) ⟨rfl,⟨by simp,by simp⟩,by simp,fun j r h=>by omega,by simp,rfl,rfl,rfl,rfl⟩ (fun k z hk h=> ?_) fun z hz=> ?_
 ·obtain ⟨z1,z2,z3,z4,z5,z6⟩:=z
  obtain ⟨rfl,hV,hk2,hall,hfr,rfl,rfl,rfl,h6⟩:=h
  dsimp only at hV hk2 hall hfr h6 ⊢
  have hx:=List.getElem?_eq_getElem hk
  have hr:=H.rules _ (List.getElem_mem hk)
  refine AV hx (AM (GG (by omega)) fun t ht=> ?_)
  refine AM (Q:=fun (z:Ay)=>z.1= [Tg] ∧VV nv z.2.1∧z.2.1.length≤k+1∧(∀(j:Nat) r,j<k+1→g.2.2.2.2[j]? =some r→r.1 ∈ z.2.1)∧(∀x ∈ z.2.1,∃r ∈ g.2.2.2.2,r.1=x)∧z.2.2.1= [] ∧z.2.2.2.1= [0] ∧z.2.2.2.2.1= [0] ∧z.2.2.2.2.2=z6) ?_ fun z hz=> ?_
  ·rcases ht with ⟨rfl,ht⟩ | ⟨j,rfl,ht⟩
   ·refine Cp rfl (AV hx (Bm (by simp only [List.length_cons,List.length_nil]; omega) (AD ⟨rfl,⟨fun x hx'=> ?_,?_⟩,by simp; omega,fun j r hj hr'=> ?_,fun x hx'=> ?_,rfl,rfl,rfl,rfl⟩)))
    ·rcases List.mem_append.1 hx' with h | h
     ·exact hV.names x h
     ·obtain rfl:=List.mem_singleton.1 h
      exact hr.left
    ·exact List.nodup_append.2 ⟨hV.once,by simp,fun x hx' y hy hxy=>ht (by
      have:y=g.2.2.2.2[k].1:=by simpa using hy
      rw [← this,← hxy]; exact hx')⟩
    ·rcases Nat.lt_succ_iff_lt_or_eq.1 hj with h | rfl
     ·exact List.mem_append_left _ (hall j r h hr')
     ·rw [hx] at hr'; cases hr'
      exact List.mem_append_right _ (List.mem_singleton.2 rfl)
    ·rcases List.mem_append.1 hx' with h | h
     ·exact hfr x h
     ·obtain rfl:=List.mem_singleton.1 h
      exact ⟨_,List.getElem_mem hk,rfl⟩
   ·refine An (decide_eq_false (by omega)) (AD ⟨rfl,hV,by dsimp only; omega,fun i r hi hr'=> ?_,hfr,rfl,rfl,rfl,rfl⟩)
    rcases Nat.lt_succ_iff_lt_or_eq.1 hi with h | rfl
    ·exact hall i r h hr'
    ·rw [hx] at hr'; cases hr'
     exact List.mem_of_getElem? ht
  ·obtain ⟨y1,y2,y3,y4,y5,y6⟩:=z
   obtain ⟨rfl,hV,hk2,hall,hfr,rfl,rfl,rfl,e6⟩:=hz
   have e6':y6=z6:=e6
   have hy6:y6.length=k+1:=by rw [e6']; exact h6
   exact AV hx (Bm (by simp only [List.length_cons,List.length_nil]; omega) (AD ⟨rfl,hV,hk2,hall,hfr,rfl,rfl,rfl,by simp [hy6]⟩))
 obtain ⟨z1,V,z3,z4,z5,acts⟩:=z
 obtain ⟨rfl,hV,hk2,hall,hfr,rfl,rfl,rfl,h6⟩:=hz
 dsimp only at hV hk2 hall hfr h6
 have hV16:V.length≤24:=by omega
 clear hk2
 have hVm: ∀v,v<nv→nm 83 v ∈ V:=fun v hv=>by
  obtain ⟨r,h1,h2⟩:=H.all v hv
  obtain ⟨j,hj⟩:=List.getElem?_of_mem h1
  rw [← h2]
  exact hall j r (List.getElem?_eq_some_iff.1 hj).1 hj
 have hVpos:1≤V.length:=List.length_pos_of_mem (hVm 0 (by omega))
 refine Eb (fun k (z:Ay×Ay)=>TT k z.2.1∧z.2.2.1=V∧z.2.2.2.1= [] ∧z.2.2.2.2.1.length=k+1∧(∀x ∈ z.2.2.2.2.1,0≤x∧x≤nl)∧z.2.2.2.2.2.1= [0]) (by omega) ⟨⟨rfl,rfl,fun j h=>by omega⟩,rfl,rfl,rfl,by simp,rfl⟩ (fun k z hk h=> ?_) fun z hz=> ?_
 ·obtain ⟨w,z1,z2,z3,z4,z5,z6⟩:=z
  obtain ⟨hT,e2,e3,h4,h4',e5⟩:=h
  dsimp only at hT h4 h4' e2 e3 e5 ⊢
  have hz16:z2.length≤24:=by rw [e2]; exact hV16
  subst e2 e3 e5
  have hx:=H.toks.2 k (by omega)
  have hTl:=hT.len
  refine AV hx (AM (GG (by omega)) fun t ht=> ?_)
  rcases ht with ⟨rfl,ht⟩ | ⟨j,rfl,ht⟩
  ·refine An rfl (AV hx (Bm (by simp only [List.length_cons,List.length_nil]; omega) (AV hx (AM (PU H _) fun t ht=>Bm (by simp only [List.length_cons,List.length_nil]; omega) (E7 ⟨⟨by simp [hTl],?_,fun j hj=> ?_⟩,rfl,rfl,by simp [h4],fun x hx'=> ?_,rfl⟩)))))
   ·rw [List.getElem?_append_left (by omega)]; exact hT.zero
   ·rcases Nat.lt_succ_iff_lt_or_eq.1 hj with h | rfl
    ·rw [List.getElem?_append_left (by omega)]; exact hT.tok j h
    ·rw [List.getElem?_append_right (by omega),show j+1 - z1.length=0 by omega]; rfl
   ·rcases List.mem_append.1 hx' with h | h
    ·exact h4' x h
    ·obtain rfl:=List.mem_singleton.1 h
     exact ⟨ht.1,ht.2.1⟩
  ·obtain ⟨i,h1,h2⟩:=hV.names _ (List.mem_of_getElem? ht)
   have:=KY (by omega) (by omega) h2
   omega
 obtain ⟨w,T,z2,z3,levels,z5,z6⟩:=z
 obtain ⟨hT,e2,e3,h4,h4',e5⟩:=hz
 dsimp only at hT h4 h4' e2 e3 e5 ⊢
 subst e2 e3 e5
 rw [htl] at hT h4
 have hTl:=hT.len
 refine B5 (fun k (z:Ay)=>z.1=T∧z.2.1=z2∧z.2.2.1= [] ∧z.2.2.2.1=levels∧z.2.2.2.2.1.length=k+1) (by omega) ⟨rfl,rfl,rfl,rfl,rfl⟩ (fun k z hk h=> ?_) fun z hz=> ?_
 ·obtain ⟨y1,y2,y3,y4,y5,y6⟩:=z
  obtain ⟨rfl,rfl,rfl,rfl,h5⟩:=h
  exact AV (List.getElem?_eq_getElem hk) (Bm (by dsimp only at h5 ⊢; simp only [List.length_cons,List.length_nil]; omega) (AD ⟨rfl,rfl,rfl,rfl,by dsimp only at h5 ⊢; simp [h5]⟩))
 obtain ⟨y1,y2,y3,y4,assocs,y6⟩:=z
 obtain ⟨e1,e2,e3,e4,h5⟩:=hz
 dsimp only at h5 e1 e2 e3 e4 ⊢
 subst e1 e2 e3 e4
 rw [hll] at h5
 rw [H.start]
 refine AM (OT (nv:=nv) hT hnt hnv (by omega) (by omega) (hVm 0 (by omega))) fun st hst=> ?_
 obtain ⟨sj,rfl,hsj⟩:=hst
 have hsjl:=(List.getElem?_eq_some_iff.1 hsj).1
 rw [wr (show -1000000≤((y1.length:Nat):Int) +((y2.length:Nat):Int)∧((y1.length:Nat):Int) +((y2.length:Nat):Int) ≤1000000 by omega)]
 refine Eb (fun k (z:Ay×Ay)=>z.2.1=y1∧z.2.2.1=y2∧z.2.2.2.1.length=k+1∧z.2.2.2.1[0]? =some (((nt+1+y2.length:Nat):Int), [((nt+1+sj:Nat):Int)],0)∧(∀(j:Nat) r,1≤j→z.2.2.2.1[j]? =some r→Pr nt y2.length nl r∧ ∃r' ∈ g.2.2.2.2,g.2.2.2.2[j - 1]? =some r'∧y2[r.1.toNat - (nt+1)]? =some r'.1)∧z.2.2.2.2.1=y4∧z.2.2.2.2.2.1=assocs) (by omega) ⟨rfl,rfl,rfl,by dsimp only; rw [hTl]; simp [Int.natCast_add],fun j r hj hr=>by
  have:=(List.getElem?_eq_some_iff.1 hr).1
  simp at this
  omega,rfl,rfl⟩ (fun k z hk h=> ?_) fun z hz=> ?_
 ·obtain ⟨w,x1,x2,x3,x4,x5,x6⟩:=z
  obtain ⟨e1,e2,hlen,h0,hrs,e4,e5⟩:=h
  dsimp only at hlen h0 hrs e1 e2 e4 e5 ⊢
  subst e1 e2 e4 e5
  have hx:=List.getElem?_eq_getElem hk
  have hr:=H.rules _ (List.getElem_mem hk)
  obtain ⟨vi,hvi,hvl⟩:=hr.left
  refine AV hx ?_
  rw [hvl]
  refine AM (OT (nv:=nv) hT hnt hnv (by omega) hvi (hVm vi hvi)) fun t ht=> ?_
  obtain ⟨tj,rfl,htj⟩:=ht
  have htjl:=(List.getElem?_eq_some_iff.1 htj).1
  have hrf:=hr.few
  refine Eb (fun i (z:Ay×BC)=>z.2.1=((nt+1+tj:Nat):Int)∧z.2.2.1.length=i∧(∀x ∈ z.2.2.1,0<x∧x< ((nt+1+x2.length:Nat):Int))∧0≤z.2.2.2∧z.2.2.2≤nl) (by omega) ⟨rfl,rfl,by simp,by simp,by simp⟩ (fun i z hi h=> ?_) fun z hz=> ?_
  ·obtain ⟨w,u1,u2,u3⟩:=z
   obtain ⟨rfl,hu,hus,hu3,hu3'⟩:=h
   dsimp only at hu hus hu3 hu3' ⊢
   have hy:=List.getElem?_eq_getElem hi
   have hym:=hr.right _ (List.getElem_mem hi)
   refine AV hy (AM (Q:=fun t=>0<t∧t< ((nt+1+x2.length:Nat):Int)) ?_ fun t ht=> ?_)
   ·rcases hym with ⟨q,hq,e⟩ | ⟨q,hq,e⟩
    ·rw [e]
     exact (Uw hT hnt hq).mono fun k hk=>by subst hk; omega
    ·rw [e]
     refine (OT (nv:=nv) hT hnt hnv (by omega) hq (hVm q hq)).mono fun k hk=> ?_
     obtain ⟨j,rfl,hj⟩:=hk
     have:=(List.getElem?_eq_some_iff.1 hj).1
     omega
   ·refine An (decide_eq_false (by omega)) (Bm (by simp only [List.length_cons,List.length_nil]; omega) ?_)
    refine AM (Q:=fun (z:BC)=>z.1=((nt+1+tj:Nat):Int)∧z.2.1=u2++ [t] ∧0≤z.2.2∧z.2.2≤nl) (Ac (fun hc=> ?_) fun _=>AD ⟨rfl,rfl,hu3,hu3'⟩) fun z hz=> ?_
    ·have hc:=of_decide_eq_true hc
     have hq:t.toNat<x4.length:=by omega
     refine Dt (by omega) (List.getElem?_eq_getElem hq) (AD ⟨rfl,rfl,h4' _ (List.getElem_mem hq)⟩)
    ·obtain ⟨z1,z2,z3⟩:=z
     obtain ⟨rfl,rfl,a,b⟩:=hz
     refine E7 ⟨rfl,by simp [hu],fun x hx'=> ?_,a,b⟩
     rcases List.mem_append.1 hx' with h | h
     ·exact hus x h
     ·obtain rfl:=List.mem_singleton.1 h
      exact ht
  ·obtain ⟨w2,u1,u2,u3⟩:=z
   obtain ⟨rfl,hu,hus,hu3,hu3'⟩:=hz
   dsimp only at hu hus hu3 hu3' ⊢
   refine AM (Q:=fun e=> ∃(y:BC×Ay),e=AU.next y∧y.1.1=((nt+1+tj:Nat):Int)∧y.1.2.1=u2∧0≤y.1.2.2∧y.1.2.2≤nl) (Ac (fun hc=> ?_) fun hc=>AD ⟨_,rfl,rfl,rfl,hu3,hu3'⟩) fun e he=> ?_
   ·refine AM (PU H _) fun t ht=> ?_
    rcases hr.prec with h | ⟨i,hi,h⟩
    ·rw [h,DY] at hc; simp at hc
    ·refine An (beq_eq_false_iff_ne.2 (ht.2.2 i hi h)) (AD ⟨_,rfl,rfl,rfl,ht.1,ht.2.1⟩)
   ·obtain ⟨⟨⟨v1,v2,v3⟩,v4⟩,rfl,ev1,ev2,hv3,hv3'⟩:=he
    dsimp only at hv3 hv3' ev1 ev2 ⊢
    subst ev1 ev2
    refine Bm (by simp only [List.length_cons,List.length_nil]; omega) (E7 ⟨rfl,rfl,by simp [hlen],?_,fun j r hj hr'=> ?_,rfl,rfl⟩)
    ·rw [List.getElem?_append_left (by omega)]; exact h0
    ·rcases Nat.lt_or_ge j x3.length with gj | gj
     ·rw [List.getElem?_append_left gj] at hr'; exact hrs j r hj hr'
     ·have hjl:=(List.getElem?_eq_some_iff.1 hr').1
      simp at hjl
      have:j=x3.length:=by omega
      subst this
      rw [List.getElem?_append_right (Nat.le_refl _),Nat.sub_self] at hr'
      cases hr'
      refine ⟨⟨⟨by dsimp only; omega,by dsimp only; omega⟩,by dsimp only; omega,hus,hv3,hv3'⟩,g.2.2.2.2[k],List.getElem_mem hk,by rw [hlen]; exact hx,?_⟩
      dsimp only
      rw [show ((nt+1+tj:Nat):Int).toNat - (nt+1)=tj by omega,htj,hvl]
 obtain ⟨w,x1,x2,rules,x4,x5,x6⟩:=z
 obtain ⟨e1,e2,hlen,h0,hrs,e4,e5⟩:=hz
 dsimp only at hlen h0 hrs e1 e2 e4 e5 ⊢
 subst e1 e2 e4 e5
 refine AM (GG (by omega)) fun t ht=> ?_
 rcases ht with ⟨rfl,ht⟩ | ⟨j,rfl,ht⟩
 ·exact absurd (hVm 0 (by omega)) ht
 refine An (decide_eq_false (by omega)) (AD ⟨⟨hnt1,hnt⟩,hnl,hT,⟨hVpos,by dsimp only; omega⟩,⟨((nt+1+sj:Nat):Int),by omega,by dsimp only; omega,h0⟩,fun k r hk hr=>(hrs k r hk hr).1,⟨by dsimp only; omega,by dsimp only; omega⟩,fun v hv=> ?_,⟨h4,h4'⟩,h5⟩)
 dsimp only at hv ⊢
 have hvx:=List.getElem?_eq_getElem hv
 obtain ⟨r,hr1,hr2⟩:=hfr _ (List.getElem_mem hv)
 obtain ⟨i,hi⟩:=List.getElem?_of_mem hr1
 have hil:=(List.getElem?_eq_some_iff.1 hi).1
 have hri:=List.getElem?_eq_getElem (show i+1<rules.length by omega)
 obtain ⟨hp,r',_,h1,h2⟩:=hrs (i+1) _ (by omega) hri
 rw [Nat.add_sub_cancel,hi] at h1
 cases h1
 refine ⟨_,List.getElem_mem (show i+1<rules.length by omega),?_⟩
 have hl:=hp.left
 rw [hr2] at h2
 obtain ⟨hq,h2⟩:=List.getElem?_eq_some_iff.1 h2
 have:=Ti hV.once hq hv h2
 omega
theorem Ux {s:KQ} (G:SmG s) (F:SmF 20 8 s):Ok (Bh s) fun p=> ∃nt nl,Pl nt nl p:=by
 unfold Bh
 exact AM (QO G F) fun g hg=>AM (of_ok hg) fun p hp=>AD ⟨_,_,hp⟩
abbrev Rl:Type:=List BC
def beh (R:Rl) (x:Item):Int:=match R[x.1.toNat]? with
 | some r=>(r.2.1[x.2.toNat]?).getD (-1)
 | none=> -1
def OkI (R:Rl) (x:Item):Prop:=0≤x.1∧0≤x.2∧ ∃r,R[x.1.toNat]? =some r∧x.2.toNat≤r.2.1.length
structure VP (nT:Int) (R:Rl):Prop where
 t0:0≤nT
 left: ∀r ∈ R,nT≤r.1
 right: ∀r ∈ R,∀s ∈ r.2.1,0≤s
 few:R.length≤100
 short: ∀r ∈ R,r.2.1.length≤100
theorem LZ {p:Ay} {x:Item} (h:OkI p.2.2.1 x):Bd (qA p FP 0) x=some (beh p.2.2.1 x):=by
 obtain ⟨h0,h1,r,h2,h3⟩:=h
 refine Ok.eq ?_
 unfold Bd
 refine Dt h0 h2 ?_
 have e:beh p.2.2.1 x=(r.2.1[x.2.toNat]?).getD (-1):=by unfold beh; rw [h2]
 refine Ac (fun hc=> ?_) fun hc=> ?_
 ·have hc:=of_decide_eq_true hc
  refine AD ?_
  rw [e,List.getElem?_eq_none (by omega)]
  rfl
 ·have hc:=of_decide_eq_false hc
  have hl:x.2.toNat<r.2.1.length:=by omega
  refine Dt h1 (List.getElem?_eq_getElem hl) (AD ?_)
  rw [e,List.getElem?_eq_getElem hl]
  rfl
theorem WE {nT:Int} {R:Rl} (V:VP nT R) {x:Item} (h:OkI R x):beh R x= -1∨0≤beh R x:=by
 obtain ⟨h0,h1,r,h2,h3⟩:=h
 unfold beh
 rw [h2]
 dsimp only
 cases e:r.2.1[x.2.toNat]? with
 | none=>exact .inl rfl
 | some s=>exact .inr (V.right r (List.mem_of_getElem? h2) s (List.mem_of_getElem? e))
theorem Hr (q:Ay) (s:Int):BZ q s=some (decide (0≤s) && decide (s< ((q.1.length:Nat):Int))):=by
 refine Ok.eq ?_
 unfold BZ
 refine AM (Q:=fun b=>b=(decide (0≤s) && decide (s< ((q.1.length:Nat):Int)))) (Ac (fun h=>AD ?_) fun h=>AD ?_) fun b hb=>AD hb
 ·rw [decide_eq_true (show 0≤s from of_decide_eq_true h),Bool.true_and]
 ·rw [decide_eq_false (show ¬0≤s from of_decide_eq_false h),Bool.false_and]
theorem JH {l:List Item} {x:Item} (h:l.length≤9223372036854775807):Ak l x=some (decide (x ∈ l)):=by
 refine Ok.eq ?_
 unfold Ak Aw
 refine AM (Q:=fun k=>(k= -1∧x ∉ l)∨(0≤k∧x ∈ l)) ?_ fun k hk=>AD ?_
 ·refine Ku l (fun _ y=>decide (x=y)) (fun k _=>k) h (fun j y hy=> ?_) (fun hn=>AD (.inl ⟨rfl,fun hm=> ?_⟩)) fun j y hy hq _=>AD (.inr ⟨by omega,?_⟩)
  ·rw [Cw,hy,Option.bind_some]
   have e:((x.1,x.2).1==y.1 && ((x.1,x.2).2==y.2 && true))=decide (x=y):=by
    obtain ⟨a,b⟩:=x; obtain ⟨c,d⟩:=y
    rw [Bool.and_true,Bool.eq_iff_iff]
    simp
   rw [e]
   cases decide (x=y) <;>rfl
  ·obtain ⟨j,hj⟩:=List.getElem?_of_mem hm
   have:=hn j x hj
   simp at this
  ·have:=of_decide_eq_true hq
   subst this
   exact List.mem_of_getElem? hy
 ·rcases hk with ⟨rfl,h⟩ | ⟨h0,h⟩
  ·rw [decide_eq_false h]; rfl
  ·rw [decide_eq_true h]; exact decide_eq_true h0
inductive Cl (R:Rl) (K:List Item):Item→Prop
 | base {x:Item} :x ∈ K→Cl R K x
 | step {y:Item} {k:Nat} {r:BC} :Cl R K y→R[k]? =some r→r.1=beh R y→Cl R K ((k:Int),0)
def Lt (x y:Item):Prop:=x.1<y.1∨x.1=y.1∧x.2<y.2
theorem Lt.irrefl (x:Item): ¬Lt x x:=by unfold Lt; omega
theorem Lt.trans {x y z:Item} (h1:Lt x y) (h2:Lt y z):Lt x z:=by unfold Lt at *; omega
theorem SG {l:List Item} (h:l.Nodup):(GM l).Pairwise Lt:=by
 have h1:=MZ LB LC l
 have h2:(GM l).Nodup:=(Cu _ l).nodup_iff.2 h
 refine ((List.pairwise_and_iff.2 ⟨h1,List.nodup_iff_pairwise_ne.1 h2⟩).imp fun {a b} h=> ?_)
 obtain ⟨h3,h4⟩:=h
 simp only [Dc,Bool.not_eq_true',decide_eq_false_iff_not] at h3
 have h5: ¬(a.1=b.1∧a.2=b.2):=fun e=>h4 (Prod.ext e.1 e.2)
 unfold Lt
 omega
theorem Qf {l:List Item} {x:Item} :x ∈ GM l ↔ x ∈ l:=(Cu _ l).mem_iff
theorem NM (l:List Item):(GM l).length=l.length:=(Cu _ l).length_eq
theorem Ms {R:Rl} {E:List Item} (hn:E.Nodup) (h: ∀x ∈ E,∃k:Nat,k<R.length∧x=((k:Int),0)):E.length≤R.length:=by
 have:=List.Nodup.length_le_of_subset (l₂:=(List.range R.length).map fun k:Nat=>((k:Int),(0:Int))) hn (fun x hx=>by
  obtain ⟨k,h1,h2⟩:=h x hx
  exact List.mem_map.2 ⟨k,List.mem_range.2 h1,h2.symm⟩)
 simpa using this
structure OU (R:Rl) (K C:List Item):Prop where
 up:C.Pairwise Lt
 mem: ∀x,x ∈ C ↔ Cl R K x
 len:C.length≤K.length+R.length
theorem Cl.ok {R:Rl} {K:List Item} (hK: ∀x ∈ K,OkI R x) {x:Item} (h:Cl R K x):OkI R x:=by
 induction h with
 | base h=>exact hK _ h
 | @step y k r _ h1 h2 _=>exact ⟨by dsimp only; omega,by dsimp only; omega,r,by simpa using h1,by simp⟩
set_option maxHeartbeats 1000000 in
theorem Qg {p:Ay} (V:VP ((p.1.length:Nat):Int) p.2.2.1) {K:List Item} (hK: ∀x ∈ K,OkI p.2.2.1 x) (hn:K.Nodup) (hl:K.length≤1000000):Ok (A9 (qA p FP 0) K) (OU p.2.2.1 K):=by
 unfold A9
 have hf:=V.few
 refine AN (x:=K) (by unfold cloneD; rw [if_pos (by omega)]) ?_
 generalize hR:p.2.2.1=R at *
 refine DL (fun (z:Int×List Item×List (Int×Bool))=>0≤z.1∧z.1≤(z.2.1.length:Int)∧(∃E:List Item,z.2.1=K++E∧E.Nodup∧ ∀x ∈ E,∃k:Nat,k<R.length∧x=((k:Int),0))∧z.2.1.Nodup∧(∀x ∈ z.2.1,Cl R K x)∧
  (∀s,BL s z.2.2=some true→ ∀(k:Nat) r,R[k]? =some r→r.1=s→((k:Int),(0:Int)) ∈ z.2.1)∧
  ∀(j:Nat) x,(j:Int) <z.1→z.2.1[j]? =some x→ ∀(k:Nat) r,R[k]? =some r→r.1=beh R x→((k:Int),(0:Int)) ∈ z.2.1)
  (fun z=>K.length+R.length - z.1.toNat) (fun b=>b.1.Nodup∧b.1.length≤K.length+R.length∧ ∀x,x ∈ b.1 ↔ Cl R K x)
  ⟨Int.le_refl _,by dsimp only; omega,⟨[],by simp,by simp,by simp⟩,hn,fun x hx=> .base hx,(fun s h=>by cases h),fun j x h=>absurd h (by dsimp only; omega)⟩ (fun z hz=> ?_) fun b hb=> ?_
 ·obtain ⟨i,out,come⟩:=z
  obtain ⟨h0,h1,hE,hno,hcl,hco,hdo⟩:=hz
  dsimp only at h0 h1 hE hno hcl hco hdo ⊢
  obtain ⟨E,eE,nE,mE⟩:=hE
  have lE:=Ms nE mE
  have lo:out.length≤K.length+R.length:=by rw [eE,List.length_append]; omega
  refine Ac (fun hc=> ?_) fun hc=>Bs ⟨hno,lo,fun x=>⟨hcl x,fun h=> ?_⟩⟩
  ·have hc:=of_decide_eq_true hc
   have hi:i.toNat<out.length:=by omega
   have hx:=List.getElem?_eq_getElem hi
   have hxm:=List.getElem_mem hi
   generalize out[i.toNat] =x at hx hxm
   have hox:=(hcl x hxm).ok hK
   refine AM (Q:=fun (y:List Item×List (Int×Bool))=>(∃E:List Item,y.1=K++E∧E.Nodup∧ ∀x ∈ E,∃k:Nat,k<R.length∧x=((k:Int),0))∧y.1.Nodup∧(∀x ∈ y.1,Cl R K x)∧(∃E2,y.1=out++E2)∧
    (∀s,BL s y.2=some true→ ∀(k:Nat) r,R[k]? =some r→r.1=s→((k:Int),(0:Int)) ∈ y.1)∧ ∀(k:Nat) r,R[k]? =some r→r.1=beh R x→((k:Int),(0:Int)) ∈ y.1) ?_ fun y hy=> ?_
   ·refine Dt h0 hx (AN (x:=beh R x) (by have:=LZ (p:=p) (x:=x) (by rw [hR]; exact hox); rw [hR] at this; exact this) ?_)
    have hb:=WE V hox
    generalize hs:beh R x=s at hb
    have no:s<0∨s< ((p.1.length:Nat):Int)→ ∀(k:Nat) r,R[k]? =some r→r.1=s→((k:Int),(0:Int)) ∈ out:=fun h k r hr e=>by
     have:=V.left r (List.mem_of_getElem? hr)
     omega
    refine AM (Q:=fun b=>(b=true→ ∀(k:Nat) r,R[k]? =some r→r.1=s→((k:Int),(0:Int)) ∈ out)) (Ac (fun hc=>AD fun _=>no (.inl (of_decide_eq_true hc))) fun hc=> ?_) fun b hb'=> ?_
    ·have hc:=of_decide_eq_false hc
     refine AN (Hr _ _) (Ac (fun ht=>AD fun _=>no (.inr ?_)) fun ht=> ?_)
     ·simp only [Bool.and_eq_true,decide_eq_true_eq] at ht
      exact ht.2
     ·refine AN rfl (AD fun h=>hco s ?_)
      cases hm:BL s come with
      | none=>rw [hm] at h; cases h
      | some b=>rw [hm] at h; exact congrArg some h
    ·refine Ac (fun hc=>AD ⟨⟨E,eE,nE,mE⟩,hno,hcl,⟨[],by simp⟩,hco,hb' hc⟩) fun hc=> ?_
     refine B5 (fun k (z:List Item)=>(∃E2:List Item,z=out++E2∧ ∀x ∈ E2,∃q:Nat,q<R.length∧x=((q:Int),0)∧ ∃r,R[q]? =some r∧r.1=s)∧z.Nodup∧ ∀(q:Nat) r,q<k→R[q]? =some r→r.1=s→((q:Int),(0:Int)) ∈ z) (by omega) ⟨⟨[],by simp,by simp⟩,hno,fun q r h=>by omega⟩ (fun k z hk hz=> ?_) fun z hz=> ?_
     ·obtain ⟨⟨E2,e2,m2⟩,n2,d2⟩:=hz
      have hr:=List.getElem?_eq_getElem hk
      have lz:z.length≤K.length+R.length:=by
       obtain ⟨n3,n4,n5⟩:=List.nodup_append.1 (show (K++(E++E2)).Nodup by rw [← List.append_assoc,← eE,← e2]; exact n2)
       have:=Ms (R:=R) n4 (fun x hx=>by
        rcases List.mem_append.1 hx with h | h
        ·exact mE x h
        ·obtain ⟨q,a,b,_⟩:=m2 x h; exact ⟨q,a,b⟩)
       rw [e2,eE,List.append_assoc,List.length_append]; omega
      refine AV hr (AM (Q:=fun b=>(b=true→R[k].1=s∧((k:Int),(0:Int)) ∉ z)∧(b=false→R[k].1=s→((k:Int),(0:Int)) ∈ z)) (Ac (fun hc=> ?_) fun hc=>AD ⟨by simp,fun _ e=> ?_⟩) fun b hb2=> ?_)
      ·refine AN (JH (by omega)) (AD ⟨fun h=>⟨eq_of_beq hc,?_⟩,fun h _=> ?_⟩)
       ·simpa using h
       ·simpa using h
      ·rw [e] at hc; simp at hc
      ·refine AM (Q:=fun (z':List Item)=>(∃E2:List Item,z'=out++E2∧ ∀x ∈ E2,∃q:Nat,q<R.length∧x=((q:Int),0)∧ ∃r,R[q]? =some r∧r.1=s)∧z'.Nodup∧ ∀(q:Nat) r,q<k+1→R[q]? =some r→r.1=s→((q:Int),(0:Int)) ∈ z') (Ac (fun hc=> ?_) fun hc=>AD ⟨⟨E2,e2,m2⟩,n2,fun q r hq hr' e=> ?_⟩) fun z' hz'=>AD hz'
       ·obtain ⟨g1,g2⟩:=hb2.1 hc
        refine Bm (by simp only [List.length_cons,List.length_nil]; omega) (AD ⟨⟨E2++ [((k:Int),0)],by rw [e2,List.append_assoc],fun x hx=> ?_⟩,?_,fun q r hq hr' e=> ?_⟩)
        ·rcases List.mem_append.1 hx with h | h
         ·exact m2 x h
         ·exact ⟨k,hk,List.mem_singleton.1 h,_,hr,g1⟩
        ·refine List.nodup_append.2 ⟨n2,by simp,fun x hx y hy hxy=>g2 ?_⟩
         rw [← List.mem_singleton.1 hy,← hxy]; exact hx
        ·rcases Nat.lt_succ_iff_lt_or_eq.1 hq with h | rfl
         ·exact List.mem_append_left _ (d2 q r h hr' e)
         ·exact List.mem_append_right _ (List.mem_singleton.2 rfl)
       ·rcases Nat.lt_succ_iff_lt_or_eq.1 hq with h | rfl
        ·exact d2 q r h hr' e
        ·rw [hr] at hr'; cases hr'; exact hb2.2 hc e
     ·obtain ⟨⟨E2,e2,m2⟩,n2,d2⟩:=hz
      have hall: ∀(k:Nat) r,R[k]? =some r→r.1=s→((k:Int),(0:Int)) ∈ z:=fun k r hr e=>d2 k r (List.getElem?_eq_some_iff.1 hr).1 hr e
      refine AD ⟨⟨E++E2,by rw [e2,eE,List.append_assoc],?_,fun x hx=> ?_⟩,n2,fun x hx=> ?_,⟨E2,e2⟩,fun s' hs' k r hr e=> ?_,hall⟩
      ·exact (List.nodup_append.1 (show (K++(E++E2)).Nodup by rw [← List.append_assoc,← eE,← e2]; exact n2)).2.1
      ·rcases List.mem_append.1 hx with h | h
       ·exact mE x h
       ·obtain ⟨q,a,b,_⟩:=m2 x h; exact ⟨q,a,b⟩
      ·dsimp only at hx
       rw [e2] at hx
       rcases List.mem_append.1 hx with h | h
       ·exact hcl x h
       ·obtain ⟨q,a,b,r,c,d⟩:=m2 x h
        rw [b]
        exact .step (hcl _ hxm) c (by rw [d,hs])
      ·dsimp only at hs' ⊢
       rw [Cg] at hs'
       split at hs'
       ·rename_i e'
        exact hall k r hr (by rw [e,e'])
       ·rw [e2]
        exact List.mem_append_left _ (hco s' hs' k r hr e)
   ·obtain ⟨out',come'⟩:=y
    obtain ⟨⟨E',eE',nE',mE'⟩,hno',hcl',⟨E2,e2⟩,hco',hx'⟩:=hy
    dsimp only at eE' hno' hcl' e2 hco' hx' ⊢
    have hw:IntKind.wrap .i64 (i+(1:Int))=i+1:=w64 (by omega) (by omega)
    have lo':out.length≤out'.length:=by rw [e2,List.length_append]; omega
    refine CQ ⟨⟨by dsimp only; rw [hw]; omega,by dsimp only; rw [hw]; omega,⟨E',eE',nE',mE'⟩,hno',hcl',hco',fun j y hj hy k r hr e=> ?_⟩,by dsimp only; rw [hw]; omega⟩
    dsimp only at hj hy ⊢
    rw [hw] at hj
    rcases Int.lt_or_le j i with g | g
    ·rw [e2,List.getElem?_append_left (by omega)] at hy
     rw [e2]
     exact List.mem_append_left _ (hdo j y g hy k r hr e)
    ·have:j=i.toNat:=by omega
     subst this
     rw [e2,List.getElem?_append_left (by omega),hx] at hy
     cases hy
     exact hx' k r hr e
  ·have hc:=of_decide_eq_false hc
   induction h with
   | base h=>rw [eE]; exact List.mem_append_left _ h
   | @step y k r _ g1 g2 ih=>
    obtain ⟨j,hj⟩:=List.getElem?_of_mem ih
    have:=(List.getElem?_eq_some_iff.1 hj).1
    dsimp only at this
    exact hdo j y (by omega) hj k r g1 g2
 ·obtain ⟨b1,b2,b3⟩:=hb
  refine AN (x:=GM b.1) (by unfold Hq; rw [if_pos (by omega)]) (AD ⟨SG b1,fun x=>Qf.trans (b3 x),by rw [NM]; exact b2⟩)
theorem La (u:Nat): ∀b ∈ Lib.decDigits u,48≤b.toNat∧b.toNat≤57:=by
 induction u using Nat.strongRecOn with
 | ind u ih=>
  intro b hb
  rw [Lib.decDigits] at hb
  split at hb
  ·rename_i h
   have hb:=List.mem_singleton.1 hb; subst hb
   have:(UInt8.ofNat (48+u)).toNat=48+u:=by simp; omega
   omega
  ·rename_i h
   rcases List.mem_append.1 hb with hb | hb
   ·exact ih (u / 10) (by omega) b hb
   ·have hb:=List.mem_singleton.1 hb; subst hb
    have:(UInt8.ofNat (48+u % 10)).toNat=48+u % 10:=by simp; omega
    omega
def WF (l:List UInt8):Nat:=l.foldl (fun a b=>a * 10+(b.toNat - 48)) 0
theorem PV (u:Nat):WF (Lib.decDigits u)=u:=by
 induction u using Nat.strongRecOn with
 | ind u ih=>
  rw [Lib.decDigits]
  split
  ·rename_i h
   have:(UInt8.ofNat (48+u)).toNat=48+u:=by simp; omega
   simp only [WF,List.foldl_cons,List.foldl_nil,this]
   omega
  ·rename_i h
   have e:(UInt8.ofNat (48+u % 10)).toNat=48+u % 10:=by simp; omega
   have:=ih (u / 10) (by omega)
   unfold WF at this ⊢
   rw [List.foldl_append,this]
   simp only [List.foldl_cons,List.foldl_nil,e]
   omega
theorem RI {u v:Nat} (h:Lib.decDigits u=Lib.decDigits v):u=v:=by rw [← PV u,h,PV]
theorem SH (i:Int): ∀b ∈ Lib.itoa i,b=45∨(48≤b.toNat∧b.toNat≤57):=by
 intro b hb
 unfold Lib.itoa at hb
 split at hb
 ·rcases List.mem_cons.1 hb with hb | hb
  ·exact .inl hb
  ·exact .inr (La _ b hb)
 ·exact .inr (La _ b hb)
theorem Tj {i j:Int} (h:Lib.itoa i=Lib.itoa j):i=j:=by
 have no45: ∀(u:Nat) (r:List UInt8),Lib.decDigits u ≠ 45::r:=fun u r e=>by
  have:=La u 45 (by rw [e]; simp)
  simp at this
 unfold Lib.itoa at h
 split at h<;>split at h
 ·have:=RI (List.cons.inj h).2; omega
 ·exact absurd h.symm (no45 _ _)
 ·exact absurd h (no45 _ _)
 ·have:=RI h; omega
theorem EL (i:Int): ∀x ∈ CT i,Iq x=true∧x ≠ 32∧x ≠ 46:=by
 intro x hx
 unfold CT at hx
 obtain ⟨b,hb,rfl⟩:=List.mem_map.1 hx
 unfold Iq
 simp only [Bool.and_eq_true,decide_eq_true_eq]
 rcases SH i b hb with rfl | h
 ·decide
 ·omega
theorem Mt {i j:Int} (h:CT i=CT j):i=j:=by
 unfold CT at h
 refine Tj ?_
 refine List.map_inj_right (f:=fun b:UInt8=>(b.toNat:Int)) ?_ |>.1 h
 intro a b hab
 have:a.toNat=b.toNat:=by omega
 exact UInt8.toNat_inj.1 this
theorem Hs {i:Int} (h0: -9223372036854775808≤i) (h1:i≤9223372036854775807):(CT i).length≤21:=by
 unfold CT
 rw [List.length_map]
 exact Lib.itoa_length_le i h0 h1
def FR:List Item→List Int
 | [] => []
 | x::l=>CT x.1++46::(CT x.2++32::FR l)
theorem PW (l m:List Item):FR (l++m)=FR l++FR m:=by
 induction l with
 | nil=>rfl
 | cons x l ih=>simp [FR,ih]
theorem PX {c:Int} : ∀ {a b r s:List Int},(∀x ∈ a,x ≠ c)→(∀x ∈ b,x ≠ c)→a++c::r=b++c::s→a=b∧r=s:=by
 intro a
 induction a with
 | nil=>
  intro b r s _ hb h
  cases b with
  | nil=>simpa using h
  | cons y b=>simp at h; exact absurd h.1.symm (hb y (by simp))
 | cons x a ih=>
  intro b r s ha hb h
  cases b with
  | nil=>simp at h; exact absurd h.1 (ha x (by simp))
  | cons y b=>
   simp at h
   obtain ⟨h1,h2⟩:=ih (fun z hz=>ha z (by simp [hz])) (fun z hz=>hb z (by simp [hz])) h.2
   exact ⟨by rw [h.1,h1],h2⟩
theorem Tl: ∀ {a b:List Item},FR a=FR b→a=b:=by
 intro a
 induction a with
 | nil=>
  intro b h
  cases b with
  | nil=>rfl
  | cons y b=>simp [FR] at h
 | cons x a ih=>
  intro b h
  cases b with
  | nil=>simp [FR] at h
  | cons y b=>
   obtain ⟨h1,h2⟩:=PX (fun z hz=>(EL x.1 z hz).2.2) (fun z hz=>(EL y.1 z hz).2.2) h
   obtain ⟨h3,h4⟩:=PX (fun z hz=>(EL x.2 z hz).2.1) (fun z hz=>(EL y.2 z hz).2.1) h2
   rw [Prod.ext (Mt h1) (Mt h3),ih h4]
theorem Lb (l:List Item): ∀x ∈ FR l,Iq x=true:=by
 induction l with
 | nil=>intro x hx; cases hx
 | cons y l ih=>
  intro x hx
  simp only [FR,List.mem_append,List.mem_cons] at hx
  rcases hx with h | rfl | h | rfl | h
  ·exact (EL _ x h).1
  ·decide
  ·exact (EL _ x h).1
  ·decide
  ·exact ih x h
def I64 (l:List Item):Prop:= ∀x ∈ l,0≤x.1∧x.1≤1000000∧0≤x.2∧x.2≤1000000
theorem Tm {l:List Item} (h:I64 l):(FR l).length≤l.length * 44:=by
 induction l with
 | nil=>simp [FR]
 | cons x l ih=>
  have a:=h x (by simp)
  have:=ih fun y hy=>h y (by simp [hy])
  have h1:=Hs (i:=x.1) (by omega) (by omega)
  have h2:=Hs (i:=x.2) (by omega) (by omega)
  simp only [FR,List.length_append,List.length_cons]
  omega
def Qi (l:List Item):ByteArray:=⟨((FR l).map fun x=>UInt8.ofNat x.toNat).toArray⟩
theorem Qj {x:Int} (h:Iq x=true):((UInt8.ofNat x.toNat).toNat:Int)=x:=by
 unfold Iq at h
 simp only [Bool.and_eq_true,decide_eq_true_eq] at h
 simp
 omega
theorem Tn {a b:List Item} (h:Qi a=Qi b):a=b:=by
 unfold Qi at h
 simp only [ByteArray.mk.injEq] at h
 have h1: ∀l:List Int,(∀x ∈ l,Iq x=true)→(l.map fun x=>UInt8.ofNat x.toNat).map (fun b=>(b.toNat:Int))=l:=fun l hl=>by
  rw [List.map_map]
  conv=>rhs; rw [← List.map_id l]
  refine List.map_congr_left fun x hx=> ?_
  exact Qj (hl x hx)
 refine Tl ?_
 rw [← h1 (FR a) (Lb a),← h1 (FR b) (Lb b)]
 rw [List.toArray_inj h]
theorem WG {l:List Item} (h:I64 l) (hl:l.length≤20000):Dj l=some (Qi l):=by
 refine Ok.eq ?_
 unfold Dj
 refine B5 (fun k (z:List Int)=>z=FR (l.take k)) (by omega) rfl (fun k z hk hz=> ?_) fun z hz=> ?_
 ·subst hz
  have hx:=List.getElem?_eq_getElem hk
  have a:=h _ (List.getElem_mem hk)
  have e:FR (l.take (k+1))=FR (l.take k) ++FR [l[k]] :=by rw [List.take_add_one,hx,PW]; rfl
  have hlen:=Tm (l:=l.take k) fun y hy=>h y (List.mem_of_mem_take hy)
  have:(l.take k).length≤k:=by rw [List.length_take]; omega
  have h1:=Hs (i:=l[k].1) (by omega) (by omega)
  have h2:=Hs (i:=l[k].2) (by omega) (by omega)
  have c1:Da (FR (l.take k)) l[k].1 10=some (FR (l.take k) ++CT l[k].1):=by unfold Da; rw [if_pos ⟨rfl,by omega,by omega,by omega⟩]
  refine AV hx (AN c1 (Bm (by simp; omega) ?_))
  have c2:Da (FR (l.take k) ++CT l[k].1++ [46]) l[k].2 10=some (FR (l.take k) ++CT l[k].1++ [46] ++CT l[k].2):=by unfold Da; rw [if_pos ⟨rfl,by omega,by omega,by simp; omega⟩]
  refine AN c2 (Bm (by simp; omega) (AD ?_))
  rw [e]
  simp [FR]
 ·subst hz
  rw [List.take_of_length_le (Nat.le_refl _)]
  refine AN (x:=Qi l) ?_ (AD rfl)
  unfold Q5 Qi
  rw [if_pos (List.all_eq_true.2 (Lb l))]
def nx (R:Rl) (l:List Item) (s:Int):List Item:=(l.filter fun x=>beh R x==s).map fun x=>(x.1,x.2+1)
theorem OkI.dot {nT:Int} {R:Rl} (V:VP nT R) {x:Item} (h:OkI R x):x.1≤1000∧x.2≤1000:=by
 obtain ⟨h0,h1,r,h2,h3⟩:=h
 have:=V.short r (List.mem_of_getElem? h2)
 have:=(List.getElem?_eq_some_iff.1 h2).1
 have:=V.few
 omega
theorem OkI.i64 {nT:Int} {R:Rl} (V:VP nT R) {l:List Item} (h: ∀x ∈ l,OkI R x):I64 l:=fun x hx=>by
 have:=(h x hx).dot V
 have:=(h x hx).1
 have:=(h x hx).2.1
 omega
theorem Uy {p:Ay} {nT:Int} (V:VP nT p.2.2.1) {l:List Item} (h: ∀x ∈ l,OkI p.2.2.1 x) (hl:l.length≤1000000) (s:Int):Bp (qA p FP 0) l s=some (nx p.2.2.1 l s):=by
 refine Ok.eq ?_
 unfold Bp
 refine B5 (fun k (z:List Item)=>z=nx p.2.2.1 (l.take k) s) (by omega) rfl (fun k z hk hz=> ?_) fun z hz=>AD (by rw [hz,List.take_of_length_le (Nat.le_refl _)])
 subst hz
 have hx:=List.getElem?_eq_getElem hk
 have a:=h _ (List.getElem_mem hk)
 have ad:=a.dot V
 have a2:=a.2.1
 have e:nx p.2.2.1 (l.take (k+1)) s=nx p.2.2.1 (l.take k) s++nx p.2.2.1 [l[k]] s:=by
  rw [List.take_add_one,hx]
  unfold nx
  rw [List.filter_append,List.map_append]
  rfl
 have hlen:(nx p.2.2.1 (l.take k) s).length≤k:=by
  unfold nx
  rw [List.length_map]
  have:=List.length_filter_le (fun x=>beh p.2.2.1 x==s) (l.take k)
  rw [List.length_take] at this
  omega
 refine AV hx (AN (LZ a) ?_)
 refine AM (Q:=fun z=>z=nx p.2.2.1 (l.take (k+1)) s) (Ac (fun hc=> ?_) fun hc=>AD ?_) fun z hz=>AD hz
 ·refine Bm (by simp; omega) (AD ?_)
  rw [e,w64 (by omega) (by omega)]
  unfold nx
  rw [List.filter_cons,if_pos hc]
  rfl
 ·rw [e]
  unfold nx
  rw [List.filter_cons,if_neg (by rw [hc]; decide)]
  simp
theorem Qk {R:Rl} {l:List Item} {s:Int} {y:Item} :y ∈ nx R l s ↔ ∃x ∈ l,beh R x=s∧y=(x.1,x.2+1):=by
 unfold nx
 simp only [List.mem_map,List.mem_filter,beq_iff_eq]
 constructor
 ·rintro ⟨x,⟨h1,h2⟩,h3⟩; exact ⟨x,h1,h2,h3.symm⟩
 ·rintro ⟨x,h1,h2,h3⟩; exact ⟨x,⟨h1,h2⟩,h3.symm⟩
theorem Vg {R:Rl} {l:List Item} (h:l.Pairwise Lt) (s:Int):(nx R l s).Pairwise Lt:=by
 unfold nx
 rw [List.pairwise_map]
 exact (h.filter _).imp fun {a b} h=>by unfold Lt at *; dsimp only; omega
theorem RJ {nT:Int} {R:Rl} (V:VP nT R) {l:List Item} (h: ∀x ∈ l,OkI R x) {s:Int} (hs:0≤s): ∀y ∈ nx R l s,OkI R y∧1≤y.2:=fun y hy=>by
 obtain ⟨x,h1,h2,rfl⟩:=Qk.1 hy
 obtain ⟨g0,g1,r,g2,g3⟩:=h x h1
 refine ⟨⟨g0,by dsimp only; omega,r,g2,?_⟩,by dsimp only; omega⟩
 unfold beh at h2
 rw [g2] at h2
 dsimp only at h2 ⊢
 rcases Nat.lt_or_ge x.2.toNat r.2.1.length with g | g
 ·omega
 ·rw [List.getElem?_eq_none g] at h2
  simp at h2
  omega
def syr (R:Rl) (l:List Item):List Int:=(l.map (beh R)).filter fun s=>decide (0≤s)
def sy (R:Rl) (l:List Item):List Int:=Lib.compact (I9 (syr R l))
theorem Ql {p:Ay} {l:List Item} (h: ∀x ∈ l,OkI p.2.2.1 x) (hl:l.length≤1000000):BY (qA p FP 0) l=some (sy p.2.2.1 l):=by
 refine Ok.eq ?_
 unfold BY
 have hlen: ∀k,(syr p.2.2.1 (l.take k)).length≤l.length:=fun k=>by
  unfold syr
  have:=List.length_filter_le (fun s=>decide (0≤s)) ((l.take k).map (beh p.2.2.1))
  rw [List.length_map,List.length_take] at this
  omega
 refine B5 (fun k (z:List Int)=>z=syr p.2.2.1 (l.take k)) (by omega) rfl (fun k z hk hz=> ?_) fun z hz=> ?_
 ·subst hz
  have hx:=List.getElem?_eq_getElem hk
  have a:=h _ (List.getElem_mem hk)
  have e:syr p.2.2.1 (l.take (k+1))=syr p.2.2.1 (l.take k) ++syr p.2.2.1 [l[k]] :=by
   rw [List.take_add_one,hx]
   unfold syr
   rw [List.map_append,List.filter_append]
   rfl
  have:=hlen k
  refine AV hx (AN (LZ a) ?_)
  refine AM (Q:=fun z=>z=syr p.2.2.1 (l.take (k+1))) (Ac (fun hc=> ?_) fun hc=>AD ?_) fun z hz=>AD hz
  ·refine Bm (by simp; omega) (AD ?_)
   rw [e]
   unfold syr
   rw [List.map_cons,List.filter_cons,if_pos (by simpa using hc)]
   rfl
  ·rw [e]
   unfold syr
   rw [List.map_cons,List.filter_cons,if_neg (by simpa using hc)]
   simp
 ·subst hz
  have:=hlen l.length
  rw [List.take_of_length_le (Nat.le_refl _)] at this ⊢
  refine AN (x:=I9 (syr p.2.2.1 l)) (by unfold Q9; rw [if_pos (by omega)]) ?_
  refine AN (x:=sy p.2.2.1 l) (by unfold K0; rw [if_pos (by unfold I9; rw [(Cu _ _).length_eq]; omega)]; rfl) (AD rfl)
theorem PY (l:List Int):(I9 l).Pairwise (· ≤ ·):=by
 have h1:=MZ (le:=fun x y:Int=>decide (x≤y)) (by
  intro a b c h1 h2
  simp only [decide_eq_true_eq] at *
  omega) (by
  intro a b
  simp only [Bool.or_eq_true,decide_eq_true_eq]
  omega) l
 exact h1.imp fun {a b} h=>of_decide_eq_true h
theorem Nn {l:List Int} (h:l.Pairwise (· ≤ ·)): ∀m,m≤l.length→(Lib.compactUpTo l.toArray m).Pairwise (· < ·)∧(∀x,x ∈ Lib.compactUpTo l.toArray m ↔ x ∈ l.take m):=by
 intro m
 induction m with
 | zero=>intro _; exact ⟨.nil,fun x=>by simp [Lib.compactUpTo]⟩
 | succ m ih=>
  intro hm
  obtain ⟨h1,h2⟩:=ih (by omega)
  rw [Lib.compactUpTo_succ]
  have hx:=List.getElem?_eq_getElem (show m<l.length by omega)
  have e0:l.toArray[m]! =l[m] :=by rw [getElem!_pos _ m (by simp; omega)]; simp
  have et:l.take (m+1)=l.take m++ [l[m]] :=by rw [List.take_add_one,hx]; rfl
  have le: ∀x ∈ l.take m,x≤l[m] :=fun x hx=>by
   obtain ⟨j,hj,rfl⟩:=List.getElem_of_mem hx
   rw [List.length_take] at hj
   rw [List.getElem_take]
   exact List.pairwise_iff_getElem.1 h j m (by omega) (by omega) (by omega)
  cases hk:Lib.keeps l.toArray m with
  | true=>
   rw [if_pos rfl,e0,et]
   refine ⟨List.pairwise_append.2 ⟨h1,by simp,fun x hx y hy=> ?_⟩,fun x=>by rw [List.mem_append,List.mem_append,h2]⟩
   obtain rfl:=List.mem_singleton.1 hy
   have hx':=(h2 x).1 hx
   have:=le x hx'
   unfold Lib.keeps at hk
   have hk:=of_decide_eq_true hk
   rcases hk with rfl | hk
   ·simp at hx'
   ·have e1:l.toArray[m - 1]! =l[m - 1] :=by rw [getElem!_pos _ (m - 1) (by simp; omega)]; simp
    rw [e0,e1] at hk
    have hm0:m ≠ 0:=fun h0=>by subst h0; simp at hx'
    have hle:x≤l[m - 1] :=by
     obtain ⟨j,hj,rfl⟩:=List.getElem_of_mem hx'
     rw [List.length_take] at hj
     rw [List.getElem_take]
     rcases Nat.lt_or_ge j (m - 1) with g | g
     ·exact List.pairwise_iff_getElem.1 h j (m - 1) (by omega) (by omega) (by omega)
     ·have:j=m - 1:=by omega
      subst this
      exact Int.le_refl _
    have:=List.pairwise_iff_getElem.1 h (m - 1) m (by omega) (by omega) (by omega)
    omega
  | false=>
   rw [if_neg (by decide),List.append_nil,et]
   refine ⟨h1,fun x=> ?_⟩
   rw [h2,List.mem_append,List.mem_singleton]
   unfold Lib.keeps at hk
   have hk:=of_decide_eq_false hk
   have hm0:m ≠ 0:=fun h0=>hk (.inl h0)
   have e1:l.toArray[m - 1]! =l[m - 1] :=by rw [getElem!_pos _ (m - 1) (by simp; omega)]; simp
   have heq:l[m] =l[m - 1] :=by
    by_cases q:l[m] =l[m - 1]
    ·exact q
    ·exact absurd (.inr (by rw [e0,e1]; exact q)) hk
   constructor
   ·exact .inl
   ·rintro (h | rfl)
    ·exact h
    ·rw [heq]
     refine List.mem_of_getElem? (i:=m - 1) ?_
     rw [List.getElem?_take,if_pos (by omega),List.getElem?_eq_getElem (by omega)]
theorem Vh (R:Rl) (l:List Item):(sy R l).Pairwise (· < ·):=(Nn (PY _) _ (Nat.le_refl _)).1
theorem Lc {R:Rl} {l:List Item} {s:Int} :s ∈ sy R l ↔ 0≤s∧ ∃x ∈ l,beh R x=s:=by
 unfold sy Lib.compact
 rw [(Nn (PY _) _ (Nat.le_refl _)).2,List.take_of_length_le (Nat.le_refl _)]
 unfold I9
 rw [(Cu _ _).mem_iff]
 unfold syr
 simp only [List.mem_filter,List.mem_map,decide_eq_true_eq]
 constructor
 ·rintro ⟨⟨x,h1,h2⟩,h3⟩; exact ⟨h3,x,h1,h2⟩
 ·rintro ⟨h3,x,h1,h2⟩; exact ⟨⟨x,h1,h2⟩,h3⟩
theorem To (R:Rl) (l:List Item):(sy R l).length≤l.length:=by
 have h1:=Ma (I9 (syr R l))
 have h2:(I9 (syr R l)).length=(syr R l).length:=(Cu _ _).length_eq
 have h3:(syr R l).length≤(l.map (beh R)).length:=List.length_filter_le _ _
 rw [List.length_map] at h3
 unfold sy
 omega
abbrev k0:List Item:= [((0:Int),(0:Int))]
noncomputable def clo (p:Ay) (K:List Item):List Item:=(A9 (qA p FP 0) K).getD []
abbrev VPp (p:Ay):Prop:=VP ((p.1.length:Nat):Int) p.2.2.1
structure Mu (R:Rl) (k:List Item):Prop where
 ok: ∀x ∈ k,OkI R x
 up:k.Pairwise Lt
theorem Lt.nodup {l:List Item} (h:l.Pairwise Lt):l.Nodup:=List.nodup_iff_pairwise_ne.2 (h.imp fun {a b} h e=>by subst e; exact Lt.irrefl _ h)
theorem Jf {nT:Int} {R:Rl} (V:VP nT R) {l:List Item} (h: ∀x ∈ l,OkI R x) (hn:l.Nodup):l.length≤10100:=by
 have:=List.Nodup.length_le_of_subset (l₂:=(List.range 100).flatMap fun a=>(List.range 101).map fun b=>(((a:Nat):Int),((b:Nat):Int))) hn (fun x hx=>by
  obtain ⟨h0,h1,r,h2,h3⟩:=h x hx
  have:=V.short r (List.mem_of_getElem? h2)
  have:=(List.getElem?_eq_some_iff.1 h2).1
  have:=V.few
  refine List.mem_flatMap.2 ⟨x.1.toNat,List.mem_range.2 (by omega),List.mem_map.2 ⟨x.2.toNat,List.mem_range.2 (by omega),?_⟩⟩
  exact Prod.ext (by dsimp only; omega) (by dsimp only; omega))
 refine Nat.le_trans this ?_
 rw [List.length_flatMap]
 simp only [List.length_map,List.length_range]
 decide
theorem Mv {p:Ay} (V:VPp p) {K:List Item} (h:Mu p.2.2.1 K):A9 (qA p FP 0) K=some (clo p K)∧OU p.2.2.1 K (clo p K)∧Mu p.2.2.1 (clo p K)∧(clo p K).length≤10100:=by
 have hl:=Jf V h.ok (Lt.nodup h.up)
 obtain ⟨C,h1,h2⟩:=Qg V h.ok (Lt.nodup h.up) (by omega)
 have e:clo p K=C:=by unfold clo; rw [h1]; rfl
 rw [e]
 have hg:Mu p.2.2.1 C:=⟨fun x hx=>((h2.mem x).1 hx).ok h.ok,h2.up⟩
 exact ⟨h1,h2,hg,Jf V hg.ok (Lt.nodup hg.up)⟩
noncomputable def Fg (p:Ay) (B:List dtK) (k:List Item) (fr wi:Int):Nat×List dtK:=
 match B.findIdx? (fun b=>decide (b.1=k)) with
 | some i=>(i,B)
 | none=>(B.length,B++ [(k,clo p k,fr,wi)])
abbrev BE:Type:=List dtK×List (List Edge)
noncomputable def Gl (p:Ay) (b:dtK) (i:Nat) (y:BE) (s:Int):BE:=
 ((Fg p y.1 (nx p.2.2.1 b.2.1 s) (i:Int) s).2,(FQ y.2 y.1.length (Fg p y.1 (nx p.2.2.1 b.2.1 s) (i:Int) s).2.length).set i ((((FQ y.2 y.1.length (Fg p y.1 (nx p.2.2.1 b.2.1 s) (i:Int) s).2.length))[i]?).getD [] ++ [(s,(((Fg p y.1 (nx p.2.2.1 b.2.1 s) (i:Int) s).1:Nat):Int))]))
noncomputable def Mw (p:Ay) (b:dtK) (i:Nat) (l:List Int) (y:BE):BE:=l.foldl (Gl p b i) y
noncomputable def stM (p:Ay):Nat→BE
 | 0=>([(k0,clo p k0, -1, -1)], [[]])
 | n+1=>match (stM p n).1[n]? with
  | some b=>Mw p b n (sy p.2.2.1 b.2.1) (stM p n)
  | none=>stM p n
noncomputable def mid (p:Ay) (n m:Nat):BE:=match (stM p n).1[n]? with
 | some b=>Mw p b n ((sy p.2.2.1 b.2.1).take m) (stM p n)
 | none=>stM p n
theorem L7 (p:Ay) (B:List dtK) (k:List Item) (fr wi:Int):
 (∃i b,Fg p B k fr wi=(i,B)∧B[i]? =some b∧b.1=k)∨(Fg p B k fr wi=(B.length,B++ [(k,clo p k,fr,wi)])∧ ∀b ∈ B,b.1 ≠ k):=by
 unfold Fg
 cases h:B.findIdx? (fun b=>decide (b.1=k)) with
 | none=>
  right
  refine ⟨rfl,fun b hb e=> ?_⟩
  have:=List.findIdx?_eq_none_iff.1 h b hb
  simp [e] at this
 | some i=>
  left
  obtain ⟨hi,h1,_⟩:=List.findIdx?_eq_some_iff_getElem.1 h
  exact ⟨i,B[i],rfl,List.getElem?_eq_getElem hi,of_decide_eq_true h1⟩
def Gm (R:Rl) (B:List dtK) (b:dtK) (syms:List Int) (e:List Edge):Prop:=
 e.map (·.1)=syms∧ ∀x ∈ e,∃(t:Nat) (bt:dtK),x.2=(t:Int)∧1≤t∧B[t]? =some bt∧bt.1=nx R b.2.1 x.1
structure Inv (p:Ay) (n:Nat) (syms:List Int) (y:BE):Prop where
 wf: ∀b ∈ y.1,Mu p.2.2.1 b.1∧b.2.1=clo p b.1
 len:y.2.length=y.1.length
 zero:y.1[0]? =some (k0,clo p k0, -1, -1)
 from_: ∀(j:Nat) b,1≤j→y.1[j]? =some b→ ∃(f:Nat) (bf:dtK) (e:List Edge),f<j∧b.2.2.1=(f:Int)∧y.1[f]? =some bf∧b.1=nx p.2.2.1 bf.2.1 b.2.2.2∧b.2.2.2 ∈ sy p.2.2.1 bf.2.1∧y.2[f]? =some e∧(b.2.2.2,(j:Int)) ∈ e
 apart: ∀(i j:Nat) bi bj,y.1[i]? =some bi→y.1[j]? =some bj→bi.1=bj.1→i=j
 done: ∀(j:Nat) b e,j<n→y.1[j]? =some b→y.2[j]? =some e→Gm p.2.2.1 y.1 b (sy p.2.2.1 b.2.1) e
 cur: ∀b e,y.1[n]? =some b→y.2[n]? =some e→Gm p.2.2.1 y.1 b syms e
 fresh: ∀(j:Nat) e,n<j→y.2[j]? =some e→e= []
theorem Gm.up {R:Rl} {B B':List dtK} {b:dtK} {syms:List Int} {e:List Edge} (H:Gm R B b syms e) (hB: ∀(j:Nat) x,B[j]? =some x→B'[j]? =some x):Gm R B' b syms e:=
 ⟨H.1,fun x hx=>by obtain ⟨t,bt,h1,h2,h3,h4⟩:=H.2 x hx; exact ⟨t,bt,h1,h2,hB t bt h3,h4⟩⟩
theorem Dk {α:Type} {l:List α} {x y:α} {j:Nat} (h:l[j]? =some y):(l++ [x])[j]? =some y:=by
 rw [List.getElem?_append_left (List.getElem?_eq_some_iff.1 h).1]; exact h
theorem BM {α:Type} {l:List α} {y:α} {j:Nat} (h:l[j]? =some y):j<l.length:=(List.getElem?_eq_some_iff.1 h).1
theorem Inv.grow {p:Ay} {n:Nat} {syms:List Int} {B:List dtK} {E:List (List Edge)} (H:Inv p n syms (B,E)) (hn:n<B.length) {x:dtK} :(E++ [[]]).length=(B++ [x]).length∧(B++ [x])[0]? =some (k0,clo p k0, -1, -1)∧
 (∀(j:Nat) b e,j<n→(B++ [x])[j]? =some b→(E++ [[]])[j]? =some e→Gm p.2.2.1 (B++ [x]) b (sy p.2.2.1 b.2.1) e)∧
 (∀b e,(B++ [x])[n]? =some b→(E++ [[]])[n]? =some e→Gm p.2.2.1 (B++ [x]) b syms e)∧(∀(j:Nat) e,n<j→(E++ [[]])[j]? =some e→e= []):=by
 have hl:=H.len
 dsimp only at hl
 refine ⟨by simp [hl],Dk H.zero,fun j b e hj hb he=> ?_,fun b e hb he=> ?_,fun j e hj he=> ?_⟩
 ·rw [List.getElem?_append_left (by omega)] at hb he
  exact (H.done j b e hj hb he).up fun _ _ h=>Dk h
 ·rw [List.getElem?_append_left (by omega)] at hb he
  exact (H.cur b e hb he).up fun _ _ h=>Dk h
 ·rcases Ef he with h | ⟨_,h⟩
  ·exact H.fresh j e hj h
  ·exact h
theorem Inv.edge {p:Ay} (V:VPp p) {n:Nat} {syms:List Int} {B:List dtK} {E:List (List Edge)} (H:Inv p n syms (B,E)) {b:dtK} (hb:B[n]? =some b) {s:Int} (hs:s ∈ sy p.2.2.1 b.2.1):Inv p n (syms++ [s]) (Gl p b n (B,E) s):=by
 have hnl:=BM hb
 have hl:=H.len
 dsimp only at hl
 obtain ⟨e,he⟩: ∃e,E[n]? =some e:=⟨_,List.getElem?_eq_getElem (by omega)⟩
 obtain ⟨hg,hc⟩:=H.wf b (List.mem_of_getElem? hb)
 obtain ⟨_,_,hgc,_⟩:=Mv V hg
 obtain ⟨s0,xs,hxs,hxe⟩:=Lc.1 hs
 have hne: ∀y ∈ nx p.2.2.1 b.2.1 s,1≤y.2:=fun y hy=>(RJ V (l:=b.2.1) (by rw [hc]; exact hgc.ok) s0 y hy).2
 have hnn: ∃y,y ∈ nx p.2.2.1 b.2.1 s:=⟨_,Qk.2 ⟨xs,hxs,hxe,rfl⟩⟩
 have hzero:nx p.2.2.1 b.2.1 s ≠ k0:=fun h=>by
  obtain ⟨y,hy⟩:=hnn
  have:=hne y hy
  rw [h] at hy
  have:=List.mem_singleton.1 hy
  subst this
  dsimp only at *
  omega
 have hcur:=H.cur b e hb he
 unfold Gl
 rcases L7 p B (nx p.2.2.1 b.2.1 s) (n:Int) s with ⟨i,bi,h1,h2,h3⟩ | ⟨h1,h2⟩
 ·dsimp only
  rw [h1]
  dsimp only
  have hgE:FQ E B.length B.length=E:=by unfold FQ; rw [if_pos rfl]
  rw [hgE,he,Option.getD_some]
  have hi1:1≤i:=by
   rcases Nat.eq_zero_or_pos i with h | h
   ·subst h
    have:=H.zero
    dsimp only at this
    rw [h2] at this
    cases this
    exact absurd h3.symm hzero
   ·exact h
  refine ⟨H.wf,by simp [hl],H.zero,fun j b' hj hb'=> ?_,H.apart,fun j b' e' hj hb' he'=> ?_,fun b' e' hb' he'=> ?_,fun j e' hj he'=> ?_⟩
  ·obtain ⟨f,bf,ef,g1,g2,g3,g4,g5,g6,g7⟩:=H.from_ j b' hj hb'
   dsimp only at g3 g6 ⊢
   by_cases hf:f=n
   ·subst hf
    rw [he] at g6
    cases g6
    exact ⟨f,bf,_,g1,g2,g3,g4,g5,List.getElem?_set_self (by omega),List.mem_append_left _ g7⟩
   ·exact ⟨f,bf,ef,g1,g2,g3,g4,g5,by rw [List.getElem?_set_ne (fun h=>hf h.symm)]; exact g6,g7⟩
  ·dsimp only at he'
   rw [List.getElem?_set_ne (by omega)] at he'
   exact H.done j b' e' hj hb' he'
  ·dsimp only at he' hb'
   rw [List.getElem?_set_self (by omega)] at he'
   rw [hb] at hb'
   cases he'; cases hb'
   refine ⟨by rw [List.map_append,hcur.1]; rfl,fun x hx=> ?_⟩
   rcases List.mem_append.1 hx with h | h
   ·exact hcur.2 x h
   ·obtain rfl:=List.mem_singleton.1 h
    exact ⟨i,bi,rfl,hi1,h2,h3⟩
  ·dsimp only at he'
   rw [List.getElem?_set_ne (by omega)] at he'
   exact H.fresh j e' hj he'
 ·dsimp only
  rw [h1]
  dsimp only
  have hgE:FQ E B.length (B++ [(nx p.2.2.1 b.2.1 s,clo p (nx p.2.2.1 b.2.1 s),(n:Int),s)]).length=E++ [[]] :=by unfold FQ; rw [if_neg (by simp)]
  have he1:(E++ [[]])[n]? =some e:=Dk he
  rw [hgE,he1,Option.getD_some]
  obtain ⟨q1,q2,q3,q4,q5⟩:=H.grow hnl (x:=(nx p.2.2.1 b.2.1 s,clo p (nx p.2.2.1 b.2.1 s),(n:Int),s))
  have hgk:Mu p.2.2.1 (nx p.2.2.1 b.2.1 s):=⟨fun y hy=>(RJ V (l:=b.2.1) (by rw [hc]; exact hgc.ok) s0 y hy).1,Vg (by rw [hc]; exact hgc.up) s⟩
  generalize hX:(nx p.2.2.1 b.2.1 s,clo p (nx p.2.2.1 b.2.1 s),(n:Int),s)=X at *
  have X1:X.1=nx p.2.2.1 b.2.1 s:=by rw [← hX]
  have hlast:(B++ [X])[B.length]? =some X:=by rw [List.getElem?_append_right (Nat.le_refl _),Nat.sub_self]; rfl
  refine ⟨fun b' hb'=> ?_,by simp [hl],q2,fun j b' hj hb'=> ?_,fun i j bi bj hi hj hij=> ?_,fun j b' e' hj hb' he'=> ?_,fun b' e' hb' he'=> ?_,fun j e' hj he'=> ?_⟩
  ·rcases List.mem_append.1 hb' with h | h
   ·exact H.wf b' h
   ·obtain rfl:=List.mem_singleton.1 h
    rw [← hX]
    exact ⟨hgk,rfl⟩
  ·dsimp only at hb' ⊢
   rcases Ef hb' with h | ⟨hj',rfl⟩
   ·obtain ⟨f,bf,ef,g1,g2,g3,g4,g5,g6,g7⟩:=H.from_ j b' hj h
    dsimp only at g3 g6 ⊢
    by_cases hf:f=n
    ·subst hf
     rw [he] at g6
     cases g6
     exact ⟨f,bf,_,g1,g2,Dk g3,g4,g5,List.getElem?_set_self (by simp; omega),List.mem_append_left _ g7⟩
    ·exact ⟨f,bf,ef,g1,g2,Dk g3,g4,g5,by rw [List.getElem?_set_ne (fun h=>hf h.symm)]; exact Dk g6,g7⟩
   ·subst hj'
    refine ⟨n,b,_,hnl,by rw [← hX],Dk hb,by rw [← hX],by rw [← hX]; exact hs,List.getElem?_set_self (by simp; omega),List.mem_append_right _ ?_⟩
    rw [← hX]
    exact List.mem_singleton.2 rfl
  ·dsimp only at hi hj
   rcases Ef hi with a | ⟨a,a'⟩ <;>rcases Ef hj with c | ⟨c,c'⟩
   ·exact H.apart i j bi bj a c hij
   ·rw [c',X1] at hij
    exact absurd hij (h2 bi (List.mem_of_getElem? a))
   ·rw [a',X1] at hij
    exact absurd hij.symm (h2 bj (List.mem_of_getElem? c))
   ·omega
  ·dsimp only at he' hb'
   rw [List.getElem?_set_ne (by omega)] at he'
   exact q3 j b' e' hj hb' he'
  ·dsimp only at he' hb'
   rw [List.getElem?_set_self (by simp; omega)] at he'
   rw [Dk hb] at hb'
   cases he'; cases hb'
   have hc2:=q4 b e (Dk hb) he1
   refine ⟨by rw [List.map_append,hc2.1]; rfl,fun x hx=> ?_⟩
   rcases List.mem_append.1 hx with h | h
   ·exact hc2.2 x h
   ·obtain rfl:=List.mem_singleton.1 h
    exact ⟨B.length,X,rfl,by omega,hlast,X1⟩
  ·dsimp only at he'
   rw [List.getElem?_set_ne (by omega)] at he'
   exact q5 j e' hj he'
theorem No {p:Ay} {b:dtK} {n:Nat} {s:Int} (y:BE): ∃l,(Gl p b n y s).1=y.1++l:=by
 unfold Gl
 rcases L7 p y.1 (nx p.2.2.1 b.2.1 s) (n:Int) s with ⟨i,bi,h1,_⟩ | ⟨h1,_⟩
 ·rw [h1]; exact ⟨[],by simp⟩
 ·rw [h1]; exact ⟨_,rfl⟩
theorem Ld {p:Ay} {b:dtK} {n:Nat} : ∀(l:List Int) (y:BE),∃m,(Mw p b n l y).1=y.1++m:=by
 intro l
 induction l with
 | nil=>intro y; exact ⟨[],by simp [Mw]⟩
 | cons s l ih=>
  intro y
  obtain ⟨m1,h1⟩:=No (p:=p) (b:=b) (n:=n) (s:=s) y
  obtain ⟨m2,h2⟩:=ih (Gl p b n y s)
  exact ⟨m1++m2,by rw [← List.append_assoc,← h1]; exact h2⟩
theorem Inv.fold {p:Ay} (V:VPp p) {n:Nat} {b:dtK} : ∀(l:List Int) {syms:List Int} {y:BE},Inv p n syms y→y.1[n]? =some b→(∀s ∈ l,s ∈ sy p.2.2.1 b.2.1)→Inv p n (syms++l) (Mw p b n l y):=by
 intro l
 induction l with
 | nil=>intro syms y H hb _; rw [List.append_nil]; exact H
 | cons s l ih=>
  intro syms y H hb hl
  obtain ⟨B,E⟩:=y
  have h1:=H.edge V hb (hl s (by simp))
  obtain ⟨m,hm⟩:=No (p:=p) (b:=b) (n:=n) (s:=s) (B,E)
  have h2:=ih h1 (by rw [hm,List.getElem?_append_left (BM hb)]; exact hb) (fun x hx=>hl x (by simp [hx]))
  rw [List.append_assoc] at h2
  exact h2
theorem Inv.next {p:Ay} {n:Nat} {y:BE} {b:dtK} (hb:y.1[n]? =some b) (H:Inv p n (sy p.2.2.1 b.2.1) y):Inv p (n+1) [] y:=by
 refine ⟨H.wf,H.len,H.zero,H.from_,H.apart,fun j b' e hj hb' he=> ?_,fun b' e hb' he=> ?_,fun j e hj he=>H.fresh j e (by omega) he⟩
 ·rcases Nat.lt_succ_iff_lt_or_eq.1 hj with h | rfl
  ·exact H.done j b' e h hb' he
  ·rw [hb] at hb'
   cases hb'
   exact H.cur b e hb he
 ·have:=H.fresh (n+1) e (by omega) he
  subst this
  exact ⟨rfl,by simp⟩
theorem Inv.skip {p:Ay} {n:Nat} {syms:List Int} {y:BE} (hn:y.1.length≤n) (H:Inv p n syms y) (m:Nat) (hm:n≤m):Inv p m [] y:=by
 have hl:=H.len
 refine ⟨H.wf,H.len,H.zero,H.from_,H.apart,fun j b e hj hb he=>H.done j b e (by have:=BM hb; omega) hb he,fun b e hb he=> ?_,fun j e hj he=> ?_⟩
 ·have:=BM hb; omega
 ·have:=BM he; omega
theorem OV {p:Ay} (V:VPp p) (hp:1≤p.2.2.1.length): ∀n,Inv p n [] (stM p n):=by
 intro n
 induction n with
 | zero=>
  have hg:Mu p.2.2.1 k0:=⟨fun x hx=>by
   obtain rfl:=List.mem_singleton.1 hx
   exact ⟨by decide,by decide,p.2.2.1[0],List.getElem?_eq_getElem (by omega),by simp⟩,by simp⟩
  have one: ∀(j:Nat) b,(stM p 0).1[j]? =some b→j=0:=fun j b h=>by
   have:=BM h
   simp [stM] at this
   exact this
  refine ⟨fun b hb=> ?_,rfl,rfl,fun j b hj hb=> ?_,fun i j bi bj hi hj _=>by rw [one i bi hi,one j bj hj],fun j b e hj=>by omega,fun b e hb he=> ?_,fun j e hj he=> ?_⟩
  ·have:b=(k0,clo p k0, -1, -1):=List.mem_singleton.1 hb
   subst this
   exact ⟨hg,rfl⟩
  ·have:=one j b hb; omega
  ·have:e= [] :=by simpa [stM] using he.symm
   subst this
   exact ⟨rfl,by simp⟩
  ·have:=BM he
   simp [stM] at this
   omega
 | succ n ih=>
  unfold stM
  cases h:(stM p n).1[n]? with
  | none=>exact ih.skip (List.getElem?_eq_none_iff.1 h) (n+1) (by omega)
  | some b=>
   have h2:=ih.fold V (sy p.2.2.1 b.2.1) h (fun s hs=>hs)
   refine Inv.next (b:=b) ?_ h2
   obtain ⟨m,hm⟩:=Ld (p:=p) (b:=b) (n:=n) (sy p.2.2.1 b.2.1) (stM p n)
   rw [hm,List.getElem?_append_left (BM h)]
   exact h
theorem Uz {p:Ay} (V:VPp p) (hp:1≤p.2.2.1.length) {n m:Nat} {b:dtK} (hb:(stM p n).1[n]? =some b):Inv p n ((sy p.2.2.1 b.2.1).take m) (mid p n m)∧(mid p n m).1[n]? =some b:=by
 have H:=(OV V hp n).fold V ((sy p.2.2.1 b.2.1).take m) hb (fun s hs=>List.mem_of_mem_take hs)
 obtain ⟨l,hl⟩:=Ld (p:=p) (b:=b) (n:=n) ((sy p.2.2.1 b.2.1).take m) (stM p n)
 unfold mid
 rw [hb]
 exact ⟨H,by rw [hl,List.getElem?_append_left (BM hb)]; exact hb⟩
theorem Tp {p:Ay} {n m:Nat} {b:dtK} {s:Int} (hb:(stM p n).1[n]? =some b) (hs:(sy p.2.2.1 b.2.1)[m]? =some s):mid p n (m+1)=Gl p b n (mid p n m) s:=by
 unfold mid
 rw [hb]
 dsimp only
 rw [List.take_add_one,hs]
 unfold Mw
 rw [List.foldl_append]
 rfl
theorem RK {p:Ay} {n:Nat} {b:dtK} (hb:(stM p n).1[n]? =some b):mid p n (sy p.2.2.1 b.2.1).length=stM p (n+1):=by
 unfold mid
 rw [stM]
 rw [hb]
 dsimp only
 rw [List.take_of_length_le (Nat.le_refl _)]
theorem RL {α:Type} {o:Option α} {P:α→Prop} (h:Ok (o.bind some) P):Ok o P:=by
 cases o with
 | none=>exact h
 | some x=>exact h
def tot (B:List dtK):Nat:=(B.map (·.2.1.length)).sum
theorem RM (B C:List dtK):tot (B++C)=tot B+tot C:=by unfold tot; rw [List.map_append,List.sum_append]
def Fit (L M:Int) (B:List dtK):Prop:=((B.length:Nat):Int) ≤L∧((tot B:Nat):Int) ≤M
theorem Fit.of_app {L M:Int} {B C:List dtK} (h:Fit L M (B++C)):Fit L M B:=by
 unfold Fit at *
 rw [RM,List.length_append] at h
 omega
structure MB (L M:Int) (fd:Fd) (rm cl:CX) (B:List dtK):Prop where
 map: ∀k,I64 k→BL (Qi k) fd=(B.findIdx? (fun b=>decide (b.1=k))).map (fun n:Nat=>(n:Int))
 rlim:rm.1=L
 rused:rm.2.1=((B.length:Nat):Int)
 clim:cl.1=M
 cused:cl.2.1=((tot B:Nat):Int)
theorem RN {m:CX} {n:Int} (h0:0≤n) (h1:n≤1000000) (h2:0≤m.2.1) (h3:m.2.1≤m.1) (h4:m.1≤1099511627776):
 Ok (CC m n) fun t=>(n≤m.1 - m.2.1→t.1=0∧t.2.1=m.1∧t.2.2.1=m.2.1+n)∧(m.1 - m.2.1<n→t.1=5∧t.2=m):=by
 unfold CC C5
 refine An (decide_eq_false (by omega)) (AN rfl ?_)
 rw [w64 (show -9223372036854775808≤m.1 - m.2.1 by omega) (by omega),w64 (show -9223372036854775808≤m.2.1+n by omega) (by omega)]
 refine Ac (fun hc=>AD ?_) fun hc=>AD ?_
 ·have:=of_decide_eq_true hc
  exact ⟨fun h=>by omega,fun _=>⟨rfl,rfl⟩⟩
 ·have:=of_decide_eq_false hc
  exact ⟨fun _=>⟨rfl,rfl,rfl⟩,fun h=>by omega⟩
theorem SI {B:List dtK} {x:dtK} {k:List Item} (h: ∀b ∈ B,b.1 ≠ x.1):(B++ [x]).findIdx? (fun b=>decide (b.1=k))=if k=x.1 then some B.length else B.findIdx? (fun b=>decide (b.1=k)):=by
 rw [List.findIdx?_append]
 by_cases e:k=x.1
 ·rw [if_pos e]
  have:B.findIdx? (fun b=>decide (b.1=k))=none:=List.findIdx?_eq_none_iff.2 fun b hb=>decide_eq_false (by rw [e]; exact h b hb)
  rw [this]
  simp [e]
 ·rw [if_neg e]
  have: [x].findIdx? (fun b=>decide (b.1=k))=none:=List.findIdx?_eq_none_iff.2 fun b hb=>decide_eq_false (by
   obtain rfl:=List.mem_singleton.1 hb
   exact fun h=>e h.symm)
  rw [this]
  simp
theorem add_ok {p:Ay} (V:VPp p) {L M:Int} {fd:Fd} {rm cl:CX} {B:List dtK} {k:List Item} {fr wi:Int} (C:MB L M fd rm cl B) (F:Fit L M B) (hL:L≤1099511627776) (hM:M≤1099511627776) (g:Mu p.2.2.1 k) (hB:B.length<1073741824):
 Ok (SE p fd B rm cl k fr wi) fun r=>r.1=(((Fg p B k fr wi).1:Nat):Int)∧r.2.2.2.1=(Fg p B k fr wi).2∧(Fit L M (Fg p B k fr wi).2→r.2.1=0∧MB L M r.2.2.1 r.2.2.2.2.1 r.2.2.2.2.2 (Fg p B k fr wi).2)∧(¬Fit L M (Fg p B k fr wi).2→r.2.1=5):=by
 have hi:=OkI.i64 V g.ok
 have hkl:=Jf V g.ok (Lt.nodup g.up)
 obtain ⟨c1,c2,c3,c4⟩:=Mv V g
 have hm:=C.map k hi
 unfold SE
 refine AN (WG hi (by omega)) ?_
 unfold Fg
 cases hf:B.findIdx? (fun b=>decide (b.1=k)) with
 | some i=>
  rw [hf] at hm
  rw [hm]
  exact Cp rfl (AD ⟨rfl,rfl,fun _=>⟨rfl,C⟩,fun h=>absurd F h⟩)
 | none=>
  rw [hf] at hm
  have hno: ∀b ∈ B,b.1 ≠ k:=fun b hb=>of_decide_eq_false (List.findIdx?_eq_none_iff.1 hf b hb)
  rw [hm]
  have hLB:=F.1
  have hMB:=F.2
  refine An rfl (AN c1 ?_)
  refine AM (RN (m:=rm) (n:=1) (by decide) (by decide) (by rw [C.rused]; omega) (by rw [C.rused,C.rlim]; exact hLB) (by rw [C.rlim]; exact hL)) fun t ht=> ?_
  rw [C.rused,C.rlim] at ht
  have htot:tot (B++ [(k,clo p k,fr,wi)])=tot B+(clo p k).length:=by rw [RM]; unfold tot; simp
  have hlen:(B++ [(k,clo p k,fr,wi)]).length=B.length+1:=by simp
  refine AM (Q:=fun (z:Int×CX)=>(Fit L M (B++ [(k,clo p k,fr,wi)])→t.1=0∧z.1=0∧z.2.1=M∧z.2.2.1=((tot B+(clo p k).length:Nat):Int))∧(¬Fit L M (B++ [(k,clo p k,fr,wi)])→z.1=5)) (Ac (fun hc=> ?_) fun hc=>AD ?_) fun z hz=> ?_
  ·refine AM (RN (m:=cl) (n:=(((clo p k).length:Nat):Int)) (by omega) (by omega) (by rw [C.cused]; omega) (by rw [C.cused,C.clim]; exact hMB) (by rw [C.clim]; exact hM)) fun u hu=>AD ?_
   rw [C.cused,C.clim] at hu
   unfold Fit
   rw [htot,hlen]
   refine ⟨fun h=>⟨eq_of_beq hc,(hu.1 (by omega)).1,(hu.1 (by omega)).2.1,by rw [(hu.1 (by omega)).2.2]; omega⟩,fun h=> ?_⟩
   rcases Int.lt_or_le (M - (tot B:Int)) ((clo p k).length:Int) with q | q
   ·exact (hu.2 q).1
   ·exfalso
    refine h ⟨?_,by omega⟩
    rcases Int.lt_or_le (L - (B.length:Int)) 1 with w | w
    ·have:=(ht.2 w).1
     rw [this] at hc
     simp at hc
    ·omega
  ·unfold Fit
   rw [htot,hlen]
   have hc: ¬t.1=0:=by simpa using hc
   have hw:L - (B.length:Int) <1:=by
    rcases Int.lt_or_le (L - (B.length:Int)) 1 with w | w
    ·exact w
    ·exact absurd (ht.1 w).1 hc
   exact ⟨fun h=>by omega,fun _=>(ht.2 hw).1⟩
  ·refine Bm (by simp; omega) (AD ⟨?_,rfl,fun hF=> ?_,fun hF=>hz.2 hF⟩)
   ·dsimp only
    rw [hlen,w64 (by omega) (by omega)]
    omega
   ·obtain ⟨z1,z2,z3,z4⟩:=hz.1 hF
    have hF1:1≤L - (B.length:Int):=by unfold Fit at hF; rw [hlen] at hF; omega
    obtain ⟨t1,t2,t3⟩:=ht.1 hF1
    refine ⟨z2,fun k' hk'=> ?_,t2,by rw [t3,hlen]; omega,z3,by rw [z4,htot]⟩
    rw [Cg,SI (x:=(k,clo p k,fr,wi)) hno]
    by_cases e:k'=k
    ·rw [if_pos (by rw [e]),if_pos e]; rfl
    ·rw [if_neg (fun h=>e (Tn h)),if_neg e]
     exact C.map k' hk'
theorem U0 {p:Ay} (V:VPp p) {L M:Int} {fd:Fd} {rm cl:CX} {B:List dtK} {E:List (List Edge)} {n:Nat} {syms:List Int} {b:dtK} {s:Int} (H:Inv p n syms (B,E)) (hb:B[n]? =some b) (hs:s ∈ sy p.2.2.1 b.2.1) (hsl:syms.length≤1000000)
 (C:MB L M fd rm cl B) (F:Fit L M B) (hL:L≤1099511627776) (hM:M≤1099511627776) (hB:B.length<1073741824):
 Ok (RH p b (n:Int) s (fd,B,E,rm,cl)) fun e=>(Fit L M (Gl p b n (B,E) s).1→ ∃fd' rm' cl',e= .next (fd',(Gl p b n (B,E) s).1,(Gl p b n (B,E) s).2,rm',cl')∧MB L M fd' rm' cl' (Gl p b n (B,E) s).1)∧(¬Fit L M (Gl p b n (B,E) s).1→e= .done 5):=by
 obtain ⟨hg,hc⟩:=H.wf b (List.mem_of_getElem? hb)
 obtain ⟨_,_,hgc,hlc⟩:=Mv V hg
 rw [← hc] at hgc hlc
 have s0:=(Lc.1 hs).1
 have hgk:Mu p.2.2.1 (nx p.2.2.1 b.2.1 s):=⟨fun y hy=>(RJ V hgc.ok s0 y hy).1,Vg hgc.up s⟩
 have hl:=H.len
 dsimp only at hl
 have hnl:=BM hb
 obtain ⟨e,he⟩: ∃e,E[n]? =some e:=⟨_,List.getElem?_eq_getElem (by omega)⟩
 have hel:e.length=syms.length:=by rw [← (H.cur b e hb he).1,List.length_map]
 unfold RH
 refine AN (Uy V hgc.ok (by omega) s) ?_
 refine AM (add_ok V C F hL hM hgk hB (fr:=(n:Int)) (wi:=s)) fun r hr=> ?_
 obtain ⟨r1,r2,r3,r4⟩:=hr
 obtain ⟨ri,re,rfd,rB,rrm,rcl⟩:=r
 dsimp only at r1 r2 r3 r4 ⊢
 subst r1 r2
 unfold Gl
 dsimp only
 by_cases hF:Fit L M (Fg p B (nx p.2.2.1 b.2.1 s) (n:Int) s).2
 ·obtain ⟨h1,h2⟩:=r3 hF
  subst h1
  have hgr:(FQ E B.length (Fg p B (nx p.2.2.1 b.2.1 s) (n:Int) s).2.length)[n]? =some e:=by
   unfold FQ
   split
   ·exact he
   ·exact Dk he
  refine An rfl (AV hgr (Bm (by simp; omega) (Hm (by omega) (by have:=BM hgr; omega) (AD ⟨fun _=>⟨rfd,rrm,rcl,?_,h2⟩,fun h=>absurd hF h⟩))))
  rw [hgr,Int.toNat_natCast]
  rfl
 ·have h1:=r4 hF
  subst h1
  exact Cp rfl (AD ⟨fun h=>absurd h hF,fun _=>rfl⟩)
def WH (p:Ay) (L:Int):Prop:= ∀n m,(((mid p n m).1.length:Nat):Int) ≤L→(mid p n m).1.length<1073741824
theorem Tq (p:Ay) (n m:Nat) {b:dtK} (hb:(stM p n).1[n]? =some b): ∃l,(stM p (n+1)).1=(mid p n m).1++l:=by
 rw [← RK hb]
 unfold mid
 rw [hb]
 dsimp only
 rw [List.take_of_length_le (Nat.le_refl _)]
 conv=>rhs; intro l; lhs; rw [← List.take_append_drop m (sy p.2.2.1 b.2.1)]
 unfold Mw
 rw [List.foldl_append]
 exact Ld _ _
theorem Ts {p:Ay} (V:VPp p) (hp:1≤p.2.2.1.length) {L M:Int} {fd:Fd} {rm cl:CX} {n:Nat} {b:dtK} (hb:(stM p n).1[n]? =some b) (C:MB L M fd rm cl (stM p n).1) (F:Fit L M (stM p n).1) (hL:L≤1099511627776) (hM:M≤1099511627776) (hR:WH p L):
 Ok (OS p b (n:Int) (fd,(stM p n).1,(stM p n).2,rm,cl)) fun e=>(Fit L M (stM p (n+1)).1→ ∃fd' rm' cl',e= .next (fd',(stM p (n+1)).1,(stM p (n+1)).2,rm',cl')∧MB L M fd' rm' cl' (stM p (n+1)).1)∧(¬Fit L M (stM p (n+1)).1→e= .done 5):=by
 have H:=OV V hp n
 obtain ⟨hg,hc⟩:=H.wf b (List.mem_of_getElem? hb)
 obtain ⟨_,_,hgc,hlc⟩:=Mv V hg
 rw [← hc] at hgc hlc
 have hsl:=To p.2.2.1 b.2.1
 unfold OS
 refine AN (Ql hgc.ok (by omega)) (RL ?_)
 have hm0:mid p n 0=stM p n:=by unfold mid; rw [hb]; rfl
 refine HJ (fun m (y:BSt)=>y.2.1=(mid p n m).1∧y.2.2.1=(mid p n m).2∧Fit L M (mid p n m).1∧MB L M y.1 y.2.2.2.1 y.2.2.2.2 (mid p n m).1) (fun q=>q=5∧ ¬Fit L M (stM p (n+1)).1) (by omega) ⟨by rw [hm0],by rw [hm0],by rw [hm0]; exact F,by rw [hm0]; exact C⟩ (fun m y hm hy=> ?_) (fun y hy=>AD ?_) fun q hq=>AD ⟨fun h=>absurd h hq.2,fun _=>by rw [hq.1]⟩
 ·obtain ⟨fd,B,E,rm,cl⟩:=y
  obtain ⟨e1,e2,hF,hC⟩:=hy
  dsimp only at e1 e2 hC ⊢
  obtain ⟨hI,hbm⟩:=Uz V hp hb (m:=m)
  have hs:=List.getElem?_eq_getElem hm
  have hsm:=List.getElem_mem hm
  have hsucc:=Tp hb hs
  have hroom:=hR n m hF.1
  refine AV hs ?_
  subst e1 e2
  refine (U0 (B:=(mid p n m).1) (E:=(mid p n m).2) V hI hbm hsm (by rw [List.length_take]; omega) hC hF hL hM hroom).mono fun e he=> ?_
  have e3:Gl p b n ((mid p n m).1,(mid p n m).2) (sy p.2.2.1 b.2.1)[m] =mid p n (m+1):=hsucc.symm
  rw [e3] at he
  by_cases hF2:Fit L M (mid p n (m+1)).1
  ·obtain ⟨fd',rm',cl',h1,h2⟩:=he.1 hF2
   exact .inl ⟨_,h1,rfl,rfl,hF2,h2⟩
  ·refine .inr ⟨5,he.2 hF2,rfl,fun h=>hF2 ?_⟩
   obtain ⟨l,hl⟩:=Tq p n (m+1) hb
   rw [hl] at h
   exact h.of_app
 ·obtain ⟨fd,B,E,rm,cl⟩:=y
  obtain ⟨e1,e2,hF,hC⟩:=hy
  dsimp only at e1 e2 hC
  rw [RK hb] at e1 e2 hF hC
  subst e1 e2
  exact ⟨fun _=>⟨fd,rm,cl,rfl,hC⟩,fun h=>absurd hF h⟩
theorem SJ {p:Ay} (V:VPp p) (hp:1≤p.2.2.1.length) {L M:Int} {fd:Fd} {rm cl:CX} (C:MB L M fd rm cl (stM p 0).1) (F:Fit L M (stM p 0).1) (hL:L≤1099511627776) (hM:M≤1099511627776) (hR:WH p L):
 Ok (MG p (fd,(stM p 0).1,(stM p 0).2,rm,cl)) fun e=>(∃n fd' rm' cl',e= .next (fd',(stM p n).1,(stM p n).2,rm',cl')∧(stM p n).1.length≤n∧Fit L M (stM p n).1∧MB L M fd' rm' cl' (stM p n).1)∨(e= .done 5∧ ∃n,¬Fit L M (stM p n).1):=by
 unfold MG
 refine RL (DL (fun (z:Int×BSt)=> ∃n:Nat,z.1=(n:Int)∧z.2.2.1=(stM p n).1∧z.2.2.2.1=(stM p n).2∧Fit L M (stM p n).1∧MB L M z.2.1 z.2.2.2.2.1 z.2.2.2.2.2 (stM p n).1) (fun z=>(L+1 - z.1).toNat) (fun e=>(∃n fd' rm' cl',e= .next (fd',(stM p n).1,(stM p n).2,rm',cl')∧(stM p n).1.length≤n∧Fit L M (stM p n).1∧MB L M fd' rm' cl' (stM p n).1)∨(e= .done 5∧ ∃n,¬Fit L M (stM p n).1)) ⟨0,rfl,rfl,rfl,F,C⟩ (fun z hz=> ?_) fun e he=>AD he)
 obtain ⟨i,fd,B,E,rm,cl⟩:=z
 obtain ⟨n,e0,e1,e2,hF,hC⟩:=hz
 dsimp only at e0 e1 e2 hC ⊢
 subst e0 e1 e2
 refine Ac (fun hc=> ?_) fun hc=>Bs (.inl ⟨n,fd,rm,cl,rfl,?_,hF,hC⟩)
 ·have hc:=of_decide_eq_true hc
  have hn:n< (stM p n).1.length:=by omega
  have hb:=List.getElem?_eq_getElem hn
  refine AV hb (AM (Ts V hp hb hC hF hL hM hR) fun e he=> ?_)
  have hFL:=hF.1
  by_cases hF2:Fit L M (stM p (n+1)).1
  ·obtain ⟨fd',rm',cl',h1,h2⟩:=he.1 hF2
   subst h1
   have hw:IntKind.wrap .i64 ((n:Int) +1)=((n+1:Nat):Int):=by rw [w64 (by omega) (by omega)]; omega
   refine CQ ⟨⟨n+1,hw,rfl,rfl,hF2,h2⟩,?_⟩
   dsimp only
   rw [hw]
   omega
  ·have:=he.2 hF2
   subst this
   exact Bs (.inr ⟨rfl,n+1,hF2⟩)
 ·have:=of_decide_eq_false hc
  omega
def held (n:Int):Int:=if n<0 then 0 else if n>1099511627776 then 1099511627776 else n
theorem new_ok (n:Int):EI n=some (held n,0,0):=by
 refine Ok.eq ?_
 unfold EI Fv
 refine AN rfl (AD ?_)
 refine Prod.ext ?_ rfl
 dsimp only
 unfold held
 split<;>split<;>(try split) <;>(try split) <;>omega
theorem RO (n:Int):0≤held n∧held n≤1099511627776:=by unfold held; split<;>(try split) <;>omega
noncomputable def WI (p:Ay) (n:Nat):C1:=(p.1,p.2.1,p.2.2.1,p.2.2.2.1,p.2.2.2.2.1,p.2.2.2.2.2,EG (stM p n).1 (stM p n).2,((tot (stM p n).1:Nat):Int))
theorem Tt {p:Ay} (V:VPp p) (hp:1≤p.2.2.1.length) {st it:Int} (hR:WH p (held st)):
 Ok (Mq p st it) fun r=>(∃n,(stM p n).1.length≤n∧Fit (held st) (held it) (stM p n).1∧r=(some (WI p n),0))∨(r=(none,5)∧ ∃n,¬Fit (held st) (held it) (stM p n).1):=by
 unfold Mq
 have hs:=RO st
 have hi:=RO it
 have hg:=(OV V hp 0).wf (k0,clo p k0, -1, -1) (List.mem_singleton.2 rfl)
 have C0:MB (held st) (held it) [] (held st,0,0) (held it,0,0) [] :=⟨fun k _=>rfl,rfl,rfl,rfl,rfl⟩
 refine AN (new_ok st) (AN (new_ok it) (AM (add_ok V C0 ⟨hs.1,hi.1⟩ hs.2 hi.2 hg.1 (by simp)) fun r hr=> ?_))
 obtain ⟨r1,r2,r3,r4⟩:=hr
 have e:Fg p [] k0 (-1) (-1)=(0,(stM p 0).1):=rfl
 rw [e] at r1 r2 r3 r4
 obtain ⟨ri,re,rfd,rB,rrm,rcl⟩:=r
 dsimp only at r1 r2 r3 r4 ⊢
 subst r2
 by_cases hF:Fit (held st) (held it) (stM p 0).1
 ·obtain ⟨h1,h2⟩:=r3 hF
  subst h1
  refine An rfl (AM (SJ V hp h2 hF hs.2 hi.2 hR) fun e he=> ?_)
  rcases he with ⟨n,fd',rm',cl',rfl,h3,h4,h5⟩ | ⟨rfl,n,hn⟩
  ·refine AN (x:=((tot (stM p n).1:Nat):Int)) (by unfold C6; exact congrArg some h5.cused) (AD (.inl ⟨n,h3,h4,rfl⟩))
  ·exact AD (.inr ⟨rfl,n,hn⟩)
 ·have:=r4 hF
  subst this
  exact Cp rfl (AD (.inr ⟨rfl,0,hF⟩))
theorem Pl.vp {nt nl:Nat} {p:Ay} (H:Pl nt nl p):VPp p:=by
 have hT:=H.terms.len
 obtain ⟨st,s1,s2,s3⟩:=H.first
 have each: ∀r ∈ p.2.2.1,((nt+1:Nat):Int) ≤r.1∧r.2.1.length≤8∧ ∀s ∈ r.2.1,0≤s:=fun r hr=>by
  obtain ⟨k,hk⟩:=List.getElem?_of_mem hr
  rcases Nat.eq_zero_or_pos k with rfl | h
  ·rw [s3] at hk
   cases hk
   refine ⟨by dsimp only; omega,by simp,fun s hs=> ?_⟩
   have:s=st:=by simpa using hs
   omega
  ·have:=H.rules k r h hk
   exact ⟨this.left.1,this.few,fun s hs=>by have:=this.right s hs; omega⟩
 have:=H.room
 exact ⟨by omega,fun r hr=>by rw [hT]; exact (each r hr).1,fun r hr=>(each r hr).2.2,by omega,fun r hr=>by have:=(each r hr).2.1; omega⟩
theorem Pl.pos {nt nl:Nat} {p:Ay} (H:Pl nt nl p):1≤p.2.2.1.length:=H.room.1
structure Fin (p:Ay) (B:List dtK) (E:List (List Edge)):Prop where
 wf: ∀b ∈ B,Mu p.2.2.1 b.1∧b.2.1=clo p b.1
 len:E.length=B.length
 zero:B[0]? =some (k0,clo p k0, -1, -1)
 from_: ∀(j:Nat) b,1≤j→B[j]? =some b→ ∃(f:Nat) (bf:dtK) (e:List Edge),f<j∧b.2.2.1=(f:Int)∧B[f]? =some bf∧b.1=nx p.2.2.1 bf.2.1 b.2.2.2∧b.2.2.2 ∈ sy p.2.2.1 bf.2.1∧E[f]? =some e∧(b.2.2.2,(j:Int)) ∈ e
 apart: ∀(i j:Nat) bi bj,B[i]? =some bi→B[j]? =some bj→bi.1=bj.1→i=j
 done: ∀(j:Nat) b e,B[j]? =some b→E[j]? =some e→Gm p.2.2.1 B b (sy p.2.2.1 b.2.1) e
theorem WJ {p:Ay} (V:VPp p) (hp:1≤p.2.2.1.length) {n:Nat} (h:(stM p n).1.length≤n):Fin p (stM p n).1 (stM p n).2:=by
 have H:=OV V hp n
 exact ⟨H.wf,H.len,H.zero,H.from_,H.apart,fun j b e hb he=>H.done j b e (by have:=BM hb; omega) hb he⟩
abbrev C4 (p:Ay) (B:List dtK) (E:List (List Edge)) (t:Int):C1:=(p.1,p.2.1,p.2.2.1,p.2.2.2.1,p.2.2.2.2.1,p.2.2.2.2.2,EG B E,t)
section
variable {p:Ay} {B:List dtK} {E:List (List Edge)} {t:Int}
theorem Ht (H:Fin p B E):BF (C4 p B E t)=some ((B.length:Nat):Int):=by
 unfold BF
 rw [D4 H.len]
theorem WK {j:Nat} {b:dtK} {e:List Edge} (hb:B[j]? =some b) (he:E[j]? =some e):(EG B E)[j]? =some (LE b e):=by
 unfold EG
 rw [List.getElem?_zipWith,hb,he]
theorem Tu (H:Fin p B E) {j:Nat} {b:dtK} {e:List Edge} (hb:B[j]? =some b) (he:E[j]? =some e):CE (C4 p B E t) (j:Int)=some (LE b e):=by
 refine Ok.eq ?_
 have:=BM hb
 unfold CE
 refine AM (Q:=fun c=>c=false) (An (decide_eq_false (by omega)) (AD (decide_eq_false (by rw [D4 H.len]; omega)))) fun c hc=> ?_
 subst hc
 exact An rfl (AV (WK hb he) (AD rfl))
theorem Fin.edge (H:Fin p B E) {j:Nat} {b:dtK} (hb:B[j]? =some b): ∃e,E[j]? =some e:=⟨_,List.getElem?_eq_getElem (by have:=BM hb; have:=H.len; omega)⟩
theorem Fin.good (V:VPp p) (H:Fin p B E) {j:Nat} {b:dtK} (hb:B[j]? =some b):Mu p.2.2.1 b.1∧Mu p.2.2.1 b.2.1∧OU p.2.2.1 b.1 b.2.1∧b.1.length≤10100∧b.2.1.length≤10100:=by
 obtain ⟨h1,h2⟩:=H.wf b (List.mem_of_getElem? hb)
 obtain ⟨_,c1,c2,c3⟩:=Mv V h1
 rw [← h2] at c1 c2 c3
 exact ⟨h1,c2,c1,Jf V h1.ok (Lt.nodup h1.up),c3⟩
theorem PZ (V:VPp p) (H:Fin p B E) {j:Nat} {b:dtK} (hb:B[j]? =some b):B1 (C4 p B E t) (j:Int)=some b.2.1:=by
 obtain ⟨e,he⟩:=H.edge hb
 have:=(H.good V hb).2.2.2.2
 refine Ok.eq ?_
 unfold B1
 exact AN (Tu H hb he) (AN (x:=b.2.1) (by unfold cloneD; rw [if_pos (by dsimp only; omega)]) (AD rfl))
theorem Fin.edges_len (V:VPp p) (H:Fin p B E) {j:Nat} {b:dtK} {e:List Edge} (hb:B[j]? =some b) (he:E[j]? =some e):e.length≤10100:=by
 have h1:=(H.done j b e hb he).1
 have h2:=To p.2.2.1 b.2.1
 have h3:=(H.good V hb).2.2.2.2
 rw [← h1,List.length_map] at h2
 omega
theorem JI (V:VPp p) (H:Fin p B E) {j:Nat} {b:dtK} {e:List Edge} (hb:B[j]? =some b) (he:E[j]? =some e):BK (C4 p B E t) (j:Int)=some e:=by
 have:=H.edges_len V hb he
 refine Ok.eq ?_
 unfold BK
 exact AN (Tu H hb he) (AN (x:=e) (by unfold cloneD; rw [if_pos (by dsimp only; omega)]) (AD rfl))
def IU (R:Rl) (B:List dtK) (b:dtK) (e:List Edge) (s t:Int):Prop:=
 (s ∈ sy R b.2.1∧ ∃(q:Nat) (bt:dtK),t=(q:Int)∧1≤q∧B[q]? =some bt∧bt.1=nx R b.2.1 s∧(s,t) ∈ e)∨(s ∉ sy R b.2.1∧t= -1)
theorem Tv (V:VPp p) (H:Fin p B E) {j:Nat} {b:dtK} {e:List Edge} (hb:B[j]? =some b) (he:E[j]? =some e) (s:Int):Ok (BT (C4 p B E t) (j:Int) s) (IU p.2.2.1 B b e s):=by
 have hl:=H.edges_len V hb he
 have hd:=H.done j b e hb he
 unfold BT
 refine AN (Tu H hb he) ?_
 refine Ku e (fun _ x=>x.1==s) (fun _ x=>x.2) (by omega) (fun k x hx=> ?_) (fun hn=>AD (.inr ⟨fun hs=> ?_,rfl⟩)) fun k x hx hq _=>AD (.inl ?_)
 ·rw [Cw,hx,Option.bind_some]
  cases x.1==s<;>rfl
 ·rw [← hd.1] at hs
  obtain ⟨x,hx,hxs⟩:=List.mem_map.1 hs
  obtain ⟨k,hk⟩:=List.getElem?_of_mem hx
  have:=hn k x hk
  rw [hxs] at this
  simp at this
 ·have hxs:x.1=s:=eq_of_beq hq
  have hm:=List.mem_of_getElem? hx
  obtain ⟨q,bt,h1,h2,h3,h4⟩:=hd.2 x hm
  rw [hxs] at h4
  refine ⟨by rw [← hd.1,← hxs]; exact List.mem_map.2 ⟨x,hm,rfl⟩,q,bt,h1,h2,h3,h4,?_⟩
  rw [← hxs]
  exact hm
theorem IU.unique (H:Fin p B E) {b:dtK} {e:List Edge} {s t1 t2:Int} (h1:IU p.2.2.1 B b e s t1) (h2:IU p.2.2.1 B b e s t2):t1=t2:=by
 rcases h1 with ⟨a1,q1,b1,c1,d1,e1,f1,_⟩ | ⟨a1,c1⟩ <;>rcases h2 with ⟨a2,q2,b2,c2,d2,e2,f2,_⟩ | ⟨a2,c2⟩
 ·rw [c1,c2,H.apart q1 q2 b1 b2 e1 e2 (by rw [f1,f2])]
 ·exact absurd a1 a2
 ·exact absurd a2 a1
 ·rw [c1,c2]
inductive Walk (R:Rl) (B:List dtK) (E:List (List Edge)):Int→List Int→Int→Prop
 | nil (j:Int):Walk R B E j [] j
 | stop {j:Nat} {b:dtK} {e:List Edge} {s:Int} {l:List Int} :B[j]? =some b→E[j]? =some e→IU R B b e s (-1)→Walk R B E j (s::l) (-1)
 | step {j q:Nat} {b:dtK} {e:List Edge} {s:Int} {l:List Int} {t:Int} :B[j]? =some b→E[j]? =some e→IU R B b e s (q:Int)→q<B.length→Walk R B E (q:Int) l t→Walk R B E j (s::l) t
theorem Walk.unique (H:Fin p B E): ∀ {l:List Int} {j t1 t2:Int},Walk p.2.2.1 B E j l t1→Walk p.2.2.1 B E j l t2→t1=t2:=by
 intro l
 induction l with
 | nil=>intro j t1 t2 h1 h2; cases h1; cases h2; rfl
 | cons s l ih=>
  intro j t1 t2 h1 h2
  cases h1 with
  | @stop j b e _ _ a1 a2 a3=>
   generalize hj:(j:Int)=j' at h2
   cases h2 with
   | stop=>rfl
   | @step j2 q b2 e2 _ _ _ c1 c2 c3 c4 c5=>
    have:j2=j:=by omega
    subst this
    rw [a1] at c1; rw [a2] at c2; cases c1; cases c2
    have:=IU.unique H a3 c3
    omega
  | @step j q b e _ _ _ a1 a2 a3 a4 a5=>
   generalize hj:(j:Int)=j' at h2
   cases h2 with
   | @stop j2 b2 e2 _ _ c1 c2 c3=>
    have:j2=j:=by omega
    subst this
    rw [a1] at c1; rw [a2] at c2; cases c1; cases c2
    have:=IU.unique H a3 c3
    omega
   | @step j2 q2 b2 e2 _ _ _ c1 c2 c3 c4 c5=>
    have:j2=j:=by omega
    subst this
    rw [a1] at c1; rw [a2] at c2; cases c1; cases c2
    have:=IU.unique H a3 c3
    have:q2=q:=by omega
    subst this
    exact ih a5 c5
theorem Walk.snoc {l:List Int} : ∀ {j:Int} {q r:Nat} {b:dtK} {e:List Edge} {s:Int},Walk p.2.2.1 B E j l (q:Int)→B[q]? =some b→E[q]? =some e→IU p.2.2.1 B b e s (r:Int)→r<B.length→Walk p.2.2.1 B E j (l++ [s]) (r:Int):=by
 induction l with
 | nil=>
  intro j q r b e s h hb he hg hr
  generalize hq:(q:Int)=q' at h
  cases h
  subst hq
  exact .step hb he hg hr (.nil _)
 | cons x l ih=>
  intro j q r b e s h hb he hg hr
  generalize hq:(q:Int)=q' at h
  cases h with
  | stop=>omega
  | step a1 a2 a3 a4 a5=>
   subst hq
   exact .step a1 a2 a3 a4 (ih a5 hb he hg hr)
theorem Walk.stops {l:List Int} : ∀ {j:Int} {q:Nat} {b:dtK} {e:List Edge} {s:Int},Walk p.2.2.1 B E j l (q:Int)→B[q]? =some b→E[q]? =some e→IU p.2.2.1 B b e s (-1)→ ∀m,Walk p.2.2.1 B E j (l++s::m) (-1):=by
 induction l with
 | nil=>
  intro j q b e s h hb he hg m
  generalize hq:(q:Int)=q' at h
  cases h
  subst hq
  exact .stop hb he hg
 | cons x l ih=>
  intro j q b e s h hb he hg m
  generalize hq:(q:Int)=q' at h
  cases h with
  | stop=>omega
  | step a1 a2 a3 a4 a5=>
   subst hq
   exact .step a1 a2 a3 a4 (ih a5 hb he hg m)
theorem RP (V:VPp p) (H:Fin p B E) {j:Nat} (hj:j<B.length) {l:List Int} (hl:l.length≤1000000):Ok (Bq (C4 p B E t) (j:Int) l) fun r=>Walk p.2.2.1 B E (j:Int) l r∧(r= -1∨ ∃q:Nat,r=(q:Int)∧q<B.length):=by
 unfold Bq
 refine AM (Q:=fun c=>c=false) (An (decide_eq_false (by omega)) (AD (decide_eq_false (by rw [D4 H.len]; omega)))) fun c hc=> ?_
 subst hc
 refine An rfl ?_
 have key:Ok ((Cf (σ:=Int) (β:=Int) (0:Int) (((List.length l):Nat):Int) (j:Int) fun i_z5 z5=>
  (idx l i_z5).bind fun e59=>
  (BT (C4 p B E t) z5 e59).bind fun t8=>
  cond (decide (t8< (0:Int)))
  (some (AU.done t8))
  (some (AU.next t8))).bind some) (fun r=>Walk p.2.2.1 B E (j:Int) l (AU.get r)∧(AU.get r= -1∨ ∃q:Nat,AU.get r=(q:Int)∧q<B.length)):=by
  refine HJ (fun k (z:Int)=> ∃q:Nat,z=(q:Int)∧q<B.length∧Walk p.2.2.1 B E (j:Int) (l.take k) (q:Int)) (fun r=>r= -1∧Walk p.2.2.1 B E (j:Int) l (-1)) (by omega) ⟨j,rfl,hj, .nil _⟩ (fun k z hk hz=> ?_) (fun z hz=>AD ?_) fun r hr=>AD ⟨by show Walk p.2.2.1 B E (j:Int) l r; rw [hr.1]; exact hr.2, .inl hr.1⟩
  ·obtain ⟨q,rfl,hq,hw⟩:=hz
   have hx:=List.getElem?_eq_getElem hk
   have hb:=List.getElem?_eq_getElem hq
   obtain ⟨e,he⟩:=H.edge hb
   refine AV hx (AM (Tv V H hb he l[k]) fun t ht=> ?_)
   have htt:=ht
   rcases ht with ⟨_,r,bt,h1,h2,h3,_⟩ | ⟨_,h1⟩
   ·subst h1
    have hr:=BM h3
    refine An (decide_eq_false (by omega)) (CQ ⟨r,rfl,hr,?_⟩)
    rw [List.take_add_one,hx]
    exact hw.snoc hb he htt hr
   ·subst h1
    refine Cp rfl (Bs ⟨rfl,?_⟩)
    have:=hw.stops hb he htt (l.drop (k+1))
    rw [show l[k] ::l.drop (k+1)=l.drop k from (List.drop_eq_getElem_cons hk).symm,List.take_append_drop] at this
    exact this
  ·obtain ⟨q,rfl,hq,hw⟩:=hz
   rw [List.take_of_length_le (Nat.le_refl _)] at hw
   exact ⟨hw, .inr ⟨q,rfl,hq⟩⟩
 obtain ⟨r,h1,h2⟩:=key
 rw [show ∀o:Option (AU Int Int),o.bind some=o from fun o=>by cases o<;>rfl] at h1
 refine AM (Q:=fun r=>Walk p.2.2.1 B E (j:Int) l r∧(r= -1∨ ∃q:Nat,r=(q:Int)∧q<B.length)) ⟨AU.get r,?_,h2⟩ fun x hx=>AD hx
 rw [h1]
 rfl
end
inductive Nul (R:Rl):Int→Prop
 | rule {r:BC} :r ∈ R→(∀s ∈ r.2.1,Nul R s)→Nul R r.1
inductive Pro (nT:Int) (R:Rl):Int→Prop
 | term {s:Int} :0≤s→s<nT→Pro nT R s
 | rule {r:BC} :r ∈ R→(∀s ∈ r.2.1,Pro nT R s)→Pro nT R r.1
structure Gr (nT:Int) (R:Rl):Prop where
 pos:0<nT
 zero: ∃r st,R[0]? =some r∧r.2.1= [st] ∧nT≤st∧(∀r' ∈ R,r.1 ∉ r'.2.1)∧ ∀k r',R[k]? =some r'→r'.1=r.1→k=0
 left: ∀r ∈ R,nT≤r.1
 right: ∀r ∈ R,∀s ∈ r.2.1,0<s
 pro: ∀r ∈ R,∀s ∈ r.2.1,Pro nT R s
def Pth (Tr:Nat→Int→Nat→Prop):Nat→List Int→Nat→Prop
 | n, [],m=>n=m
 | n,s::l,m=> ∃q,Tr n s q∧Pth Tr q l m
theorem Pth.app {Tr:Nat→Int→Nat→Prop} : ∀ {l l':List Int} {n m:Nat},Pth Tr n (l++l') m ↔ ∃q,Pth Tr n l q∧Pth Tr q l' m:=by
 intro l
 induction l with
 | nil=>intro l' n m; exact ⟨fun h=>⟨n,rfl,h⟩,fun ⟨q,h1,h2⟩=>by cases h1; exact h2⟩
 | cons s l ih=>
  intro l' n m
  constructor
  ·rintro ⟨q,h1,h2⟩
   obtain ⟨p,h3,h4⟩:=ih.1 h2
   exact ⟨p,⟨q,h1,h3⟩,h4⟩
  ·rintro ⟨p,⟨q,h1,h3⟩,h4⟩
   exact ⟨q,h1,ih.2 ⟨p,h3,h4⟩⟩
structure Aut (R:Rl) (S:Nat→Prop) (K:Nat→List Item) (Tr:Nat→Int→Nat→Prop):Prop where
 ok: ∀ {n x},S n→x ∈ K n→OkI R x
 kern: ∀ {n x},S n→x ∈ K n→(x=(0,0)∧n=0)∨1≤x.2
 zero: ∀x,x ∈ K 0 ↔ x=(0,0)
 s0:S 0
 st: ∀ {n s m},Tr n s m→S n∧S m∧1≤m∧0≤s
 go: ∀ {n x},S n→Cl R (K n) x→0≤beh R x→ ∃m,Tr n (beh R x) m
 into: ∀ {n s m x},Tr n s m→(x ∈ K m ↔ ∃y,Cl R (K n) y∧beh R y=s∧x=(y.1,y.2+1))
 some_: ∀ {n s m},Tr n s m→ ∃y,Cl R (K n) y∧beh R y=s
 fn: ∀ {n s m m'},Tr n s m→Tr n s m'→m=m'
 reach: ∀ {n},S n→ ∃l,Pth Tr 0 l n
def It (R:Rl) (K:Nat→List Item) (n k d:Nat):Prop:=Cl R (K n) ((k:Int),(d:Int))
theorem OW (R:Rl) (k d:Nat) {r:BC} (h:R[k]? =some r):beh R ((k:Int),(d:Int))=(r.2.1[d]?).getD (-1):=by
 unfold beh
 dsimp only
 rw [Int.toNat_natCast,Int.toNat_natCast,h]
theorem OX {nT:Int} {R:Rl} (G:Gr nT R) {k d:Nat} {s:Int} (h:beh R ((k:Int),(d:Int))=s) (hs:0≤s): ∃r,R[k]? =some r∧r.2.1[d]? =some s:=by
 cases hr:R[k]? with
 | none=>unfold beh at h; dsimp only at h; rw [Int.toNat_natCast,hr] at h; dsimp only at h; omega
 | some r=>
  rw [OW R k d hr] at h
  refine ⟨r,rfl,?_⟩
  cases hd:r.2.1[d]? with
  | none=>rw [hd] at h; simp at h; omega
  | some x=>rw [hd] at h; simp at h; rw [h]
section
variable {nT:Int} {R:Rl} {S:Nat→Prop} {K:Nat→List Item} {Tr:Nat→Int→Nat→Prop}
theorem Aut.form (A:Aut R S K Tr) {n:Nat} (hn:S n) {x:Item} (h:Cl R (K n) x): ∃k d:Nat,x=((k:Int),(d:Int))∧It R K n k d∧ ∃r,R[k]? =some r∧d≤r.2.1.length:=by
 obtain ⟨h0,h1,r,h2,h3⟩:=Cl.ok (fun x hx=>A.ok hn hx) h
 have e:x=((x.1.toNat:Int),(x.2.toNat:Int)):=Prod.ext (by simp only; omega) (by simp only; omega)
 exact ⟨x.1.toNat,x.2.toNat,e,by unfold It; rw [← e]; exact h,r,h2,h3⟩
theorem Aut.step (G:Gr nT R) (A:Aut R S K Tr) {n k d:Nat} {r:BC} {s:Int} (hn:S n) (h:It R K n k d) (hr:R[k]? =some r) (hs:r.2.1[d]? =some s): ∃m,Tr n s m∧It R K m k (d+1):=by
 have hb:beh R ((k:Int),(d:Int))=s:=by rw [OW R k d hr,hs]; rfl
 have h0:0<s:=G.right r (List.mem_of_getElem? hr) s (List.mem_of_getElem? hs)
 obtain ⟨m,hm⟩:=A.go hn h (by rw [hb]; omega)
 rw [hb] at hm
 exact ⟨m,hm, .base ((A.into hm).2 ⟨_,h,hb,rfl⟩)⟩
theorem Aut.clos {n k d j:Nat} {r r':BC} {s:Int} (h:It R K n k d) (hr:R[k]? =some r) (hs:r.2.1[d]? =some s) (hj:R[j]? =some r') (hl:r'.1=s):It R K n j 0:=
 .step h hj (by rw [OW R k d hr,hs,hl]; rfl)
theorem Aut.back (G:Gr nT R) (A:Aut R S K Tr) {n m k d:Nat} {s:Int} (hm:Tr n s m) (h:It R K m k (d+1)):It R K n k d∧ ∃r,R[k]? =some r∧r.2.1[d]? =some s:=by
 unfold It at h
 generalize hx:(((k:Int),((d+1:Nat):Int)):Item)=x at h
 cases h with
 | base h=>
  obtain ⟨y,h1,h2,h3⟩:=(A.into hm).1 h
  subst hx
  obtain ⟨e1,e2⟩:=Prod.mk.inj h3
  have e:y=((k:Int),(d:Int)):=Prod.ext (by simp only; omega) (by simp only; omega)
  subst e
  exact ⟨h1,OX G h2 (A.st hm).2.2.2⟩
 | step _ _ _=>have:=(Prod.mk.inj hx).2; omega
theorem Aut.at0 (A:Aut R S K Tr) {l:List Int} {n m:Nat} (hn:S n) (h:Pth Tr n l m):S m:=by
 induction l generalizing n with
 | nil=>cases h; exact hn
 | cons s l ih=>obtain ⟨q,h1,h2⟩:=h; exact ih (A.st h1).2.1 h2
theorem Pth.fn (A:Aut R S K Tr) {l:List Int} {n m m':Nat} (h:Pth Tr n l m) (h':Pth Tr n l m'):m=m':=by
 induction l generalizing n with
 | nil=>cases h; cases h'; rfl
 | cons s l ih=>obtain ⟨q,h1,h2⟩:=h; obtain ⟨q',h1',h2'⟩:=h'; cases A.fn h1 h1'; exact ih h2 h2'
theorem Aut.along (G:Gr nT R) (A:Aut R S K Tr) {k:Nat} {r:BC} (hr:R[k]? =some r): ∀ {l:List Int} {n d:Nat},S n→It R K n k d→r.2.1.drop d=l→ ∃m,Pth Tr n l m∧It R K m k (d+l.length):=by
 intro l
 induction l with
 | nil=>intro n d _ h _; exact ⟨n,rfl,h⟩
 | cons s l ih=>
  intro n d hn h hd
  have hs:r.2.1[d]? =some s:=by
   have:=congrArg (fun l=>l[0]?) hd
   simpa using this
  obtain ⟨q,h1,h2⟩:=A.step G hn h hr hs
  obtain ⟨m,h3,h4⟩:=ih (d:=d+1) (A.st h1).2.1 h2 (by
   have:=congrArg (List.drop 1) hd
   simpa using this)
  exact ⟨m,⟨q,h1,h3⟩,by rw [List.length_cons,show d+(l.length+1)=d+1+l.length by omega]; exact h4⟩
theorem Aut.part (G:Gr nT R) (A:Aut R S K Tr) {n m k:Nat} {r:BC} (hn:S n) (hr:R[k]? =some r) (h:It R K n k 0) {l l':List Int} (hl:r.2.1=l++l') (hp:Pth Tr n l m):It R K m k l.length:=by
 obtain ⟨q,h1,h2⟩:=A.along G hr hn h (l:=r.2.1) rfl
 rw [hl] at h1
 obtain ⟨m',h3,_⟩:=Pth.app.1 h1
 have key: ∀(l:List Int) (n d m:Nat),S n→It R K n k d→(∃l',r.2.1.drop d=l++l')→Pth Tr n l m→It R K m k (d+l.length):=by
  intro l
  induction l with
  | nil=>intro n d m _ h _ hp; cases hp; exact h
  | cons s l ih=>
   intro n d m hn h ⟨l',hd⟩ ⟨q,h1,h2⟩
   have hs:r.2.1[d]? =some s:=by
    have:=congrArg (fun l=>l[0]?) hd
    simpa using this
   obtain ⟨q',h3,h4⟩:=A.step G hn h hr hs
   cases A.fn h1 h3
   have:=ih q (d+1) m (A.st h1).2.1 h4 ⟨l',by
    have:=congrArg (List.drop 1) hd
    simpa using this⟩ h2
   rw [List.length_cons,show d+(l.length+1)=d+1+l.length by omega]
   exact this
 have:=key l n 0 m hn h ⟨l',hl⟩ hp
 rwa [Nat.zero_add] at this
inductive Rdd (nT:Int) (R:Rl) (K:Nat→List Item) (Tr:Nat→Int→Nat→Prop):Nat→Int→Prop
 | term {m q:Nat} {t:Int} :Tr m t q→t<nT→Rdd nT R K Tr m t
 | fin {m:Nat} :It R K m 0 1→Rdd nT R K Tr m 0
 | next {m q:Nat} {c t:Int} :Tr m c q→nT≤c→Nul R c→Rdd nT R K Tr q t→Rdd nT R K Tr m t
inductive Fol (nT:Int) (R:Rl) (K:Nat→List Item) (Tr:Nat→Int→Nat→Prop):Nat→Int→Int→Prop
 | read {n m:Nat} {a t:Int} :Tr n a m→Rdd nT R K Tr m t→Fol nT R K Tr n a t
 | incl {n m q k:Nat} {a t:Int} {r:BC} {b g:List Int} :Tr n a m→R[k]? =some r→r.2.1=b++a::g→(∀s ∈ g,Nul R s)→It R K q k 0→Pth Tr q b n→Fol nT R K Tr q r.1 t→Fol nT R K Tr n a t
def Lk (nT:Int) (R:Rl) (K:Nat→List Item) (Tr:Nat→Int→Nat→Prop) (s k:Nat) (t:Int):Prop:=
 (k=0∧t=0∧It R K s 0 1)∨(0<k∧ ∃(n m:Nat) (r:BC),R[k]? =some r∧Tr n r.1 m∧Pth Tr n r.2.1 s∧Fol nT R K Tr n r.1 t)
theorem Nul.var (G:Gr nT R) {s:Int} (h:Nul R s):nT≤s:=by
 cases h with
 | rule h _=>exact G.left _ h
theorem Tw (G:Gr nT R) {k d:Nat} {r r0:BC} (h0:R[0]? =some r0) (hr:R[k]? =some r):r.2.1[d]? ≠ some r0.1:=by
 obtain ⟨z,st,e1,e2,e3,e4,e5⟩:=G.zero
 rw [e1] at h0
 cases h0
 exact fun h=>e4 r (List.mem_of_getElem? hr) (List.mem_of_getElem? h)
theorem Aut.top (G:Gr nT R) (A:Aut R S K Tr) {n k:Nat} (hn:S n) (hk:0<k) (h:It R K n k 0): ∃(j d:Nat) (r r':BC),It R K n j d∧R[k]? =some r∧R[j]? =some r'∧r'.2.1[d]? =some r.1:=by
 unfold It at h
 generalize hx:(((k:Int),((0:Nat):Int)):Item)=x at h
 cases h with
 | base h=>
  subst hx
  rcases A.kern hn h with ⟨e,_⟩ | e
  ·have:=(Prod.mk.inj e).1; omega
  ·dsimp only at e; omega
 | @step y k' r h h2 h3=>
  have e:=(Prod.mk.inj hx).1
  have e:k=k':=by omega
  subst e
  obtain ⟨j,d,rfl,h4,_⟩:=A.form hn h
  have h0:=G.left r (List.mem_of_getElem? h2)
  have hp:=G.pos
  obtain ⟨r',h5,h6⟩:=OX G h3.symm (by omega)
  exact ⟨j,d,r,r',h4,h2,h5,h6⟩
theorem Aut.starts (G:Gr nT R) (A:Aut R S K Tr) {n m k:Nat} {r:BC} (hr:R[k]? =some r) (h:Tr n r.1 m):0<k∧It R K n k 0:=by
 obtain ⟨y,h1,h2⟩:=A.some_ h
 obtain ⟨j,d,rfl,h3,_⟩:=A.form (A.st h).1 h1
 obtain ⟨r',h4,h5⟩:=OX G h2 (A.st h).2.2.2
 refine ⟨Nat.pos_of_ne_zero fun e=> ?_,Aut.clos h3 h4 h5 hr rfl⟩
 subst e
 exact Tw G hr h4 h5
theorem HQ {l:List Int} {d:Nat} {s:Int} (h:l[d]? =some s):l=l.take d++s::l.drop (d+1):=by
 have hlt:=(List.getElem?_eq_some_iff.1 h).1
 have e:=(List.getElem?_eq_some_iff.1 h).2
 conv=>lhs; rw [← List.take_append_drop d l,List.drop_eq_getElem_cons hlt,e]
def Nx (nT:Int) (R:Rl) (K:Nat→List Item) (Tr:Nat→Int→Nat→Prop) (m:Nat) (t:Int):Prop:=
 (t<nT∧ ∃q,Tr m t q)∨ ∃(j:Nat) (r:BC),R[j]? =some r∧It R K m j r.2.1.length∧Lk nT R K Tr m j t
theorem Tx (G:Gr nT R) (A:Aut R S K Tr) {c:Int} (h:Nul R c): ∀ {m q:Nat} {t:Int},Tr m c q→Fol nT R K Tr m c t→Nx nT R K Tr m t:=by
 induction h with
 | @rule r hr hn ih=>
  intro m q t h1 h2
  obtain ⟨j,hj⟩:=List.getElem?_of_mem hr
  obtain ⟨hk,h3⟩:=A.starts G hj h1
  rcases hl:r.2.1 with _ | ⟨s,l⟩
  ·exact .inr ⟨j,r,hj,by rw [hl]; exact h3, .inr ⟨hk,m,q,r,hj,h1,by rw [hl]; rfl,h2⟩⟩
  ·have hs:r.2.1[0]? =some s:=by rw [hl]; rfl
   obtain ⟨p,h4,h5⟩:=A.step G (A.st h1).1 h3 hj hs
   exact ih s (by rw [hl]; exact List.mem_cons_self) h4 (.incl (b:= []) (g:=l) h4 hj hl (fun x hx=>hn x (by rw [hl]; exact List.mem_cons_of_mem _ hx)) h3 rfl h2)
theorem Fol.tr {n:Nat} {a t:Int} (h:Fol nT R K Tr n a t): ∃m,Tr n a m:=by
 cases h with
 | read h _=>exact ⟨_,h⟩
 | incl h _ _ _ _ _ _=>exact ⟨_,h⟩
theorem WL (G:Gr nT R) (A:Aut R S K Tr) {n m:Nat} {a t:Int} (hm:Tr n a m) (h:Fol nT R K Tr n a t):Nx nT R K Tr m t:=by
 cases h with
 | @read _ m' _ _ h1 h2=>
  cases A.fn hm h1
  cases h2 with
  | term h3 h4=>exact .inl ⟨h4,_,h3⟩
  | fin h3=>
   obtain ⟨z,st,e1,e2,_⟩:=G.zero
   exact .inr ⟨0,z,e1,by rw [e2]; exact h3, .inl ⟨rfl,rfl,h3⟩⟩
  | next h3 h4 h5 h6=>exact Tx G A h5 h3 (.read h3 h6)
 | @incl _ m' q k _ _ r b g h1 h2 h3 h4 h5 h6 h7=>
  cases A.fn hm h1
  obtain ⟨m2,h8⟩:=h7.tr
  have hS:S q:=(A.st h8).1
  have hk:=(A.starts G h2 h8).1
  have hi:=A.part G hS h2 h5 h3 h6
  have hd:r.2.1[b.length]? =some a:=by rw [h3]; simp
  obtain ⟨m',g1,g2⟩:=A.step G (A.st hm).1 hi h2 hd
  cases A.fn hm g1
  have hp:Pth Tr q (b++ [a]) m:=Pth.app.2 ⟨n,h6,m,hm,rfl⟩
  rcases g with _ | ⟨c,g⟩
  ·exact .inr ⟨k,r,h2,by rw [h3,List.length_append,List.length_singleton]; exact g2, .inr ⟨hk,q,m2,r,h2,h8,by rw [h3]; exact hp,h7⟩⟩
  ·have hd2:r.2.1[b.length+1]? =some c:=by rw [h3]; simp
   obtain ⟨p,g3,g4⟩:=A.step G (A.st hm).2.1 g2 h2 hd2
   exact Tx G A (h4 c List.mem_cons_self) g3 (.incl (b:=b++ [a]) (g:=g) g3 h2 (by rw [h3]; simp) (fun x hx=>h4 x (List.mem_cons_of_mem _ hx)) h5 hp h7)
theorem U1 (G:Gr nT R) (A:Aut R S K Tr) {s k:Nat} {t:Int} (hk:0<k) (h:Lk nT R K Tr s k t): ∃(n m:Nat) (r:BC),R[k]? =some r∧Tr n r.1 m∧Pth Tr n r.2.1 s∧Nx nT R K Tr m t:=by
 rcases h with ⟨e,_⟩ | ⟨_,n,m,r,h1,h2,h3,h4⟩
 ·omega
 ·exact ⟨n,m,r,h1,h2,h3,WL G A h2 h4⟩
theorem Tz {s k n m q:Nat} {r:BC} {t:Int} (hk:0<k) (hr:R[k]? =some r) (h1:Tr n r.1 m) (h2:Pth Tr n r.2.1 s) (h3:Tr m t q) (h4:t<nT):Lk nT R K Tr s k t:=
 .inr ⟨hk,n,m,r,hr,h1,h2, .read h1 (.term h3 h4)⟩
theorem WM (A:Aut R S K Tr) {m:Nat} {d t:Int} (h:Fol nT R K Tr m d t): ∀ {n:Nat} {a:Int},Nul R d→nT≤d→(∀r ∈ R,nT≤r.1)→Tr n a m→(∀n' a',Tr n' a' m→n'=n∧a'=a)→Fol nT R K Tr n a t:=by
 induction h with
 | read h1 h2=>intro n a hn hv _ hm _; exact .read hm (.next h1 hv hn h2)
 | @incl m m' q k d t r b g h1 h2 h3 h4 h5 h6 h7 ih=>
  intro n a hn hv hL hm hu
  rcases List.eq_nil_or_concat b with rfl | ⟨b',a',rfl⟩
  ·cases h6
   have hr:r ∈ R:=List.mem_of_getElem? h2
   refine ih (.rule hr fun x hx=> ?_) (hL r hr) hL hm hu
   rw [h3,List.nil_append] at hx
   rcases List.mem_cons.1 hx with rfl | hx
   ·exact hn
   ·exact h4 x hx
  ·rw [List.concat_eq_append] at h3 h6
   obtain ⟨p,g1,p',g2,g3⟩:=Pth.app.1 h6
   cases g3
   obtain ⟨e1,e2⟩:=hu _ _ g2
   subst e1 e2
   exact .incl (b:=b') (g:=d::g) hm h2 (by rw [h3]; simp) (fun x hx=>by
    rcases List.mem_cons.1 hx with rfl | hx
    ·exact hn
    ·exact h4 x hx) h5 g1 h7
theorem Wq (G:Gr nT R) (A:Aut R S K Tr) {s k n m j:Nat} {r r':BC} {t:Int} (hk:0<k) (hr:R[k]? =some r) (h1:Tr n r.1 m) (h2:Pth Tr n r.2.1 s) (hu: ∀n' a',Tr n' a' m→n'=n∧a'=r.1) (hj:R[j]? =some r') (he:r'.2.1= []) (h:Lk nT R K Tr m j t):Lk nT R K Tr s k t:=by
 obtain ⟨z,st,e1,e2,_⟩:=G.zero
 rcases h with ⟨rfl,_,_⟩ | ⟨_,n',m',r2,g1,g2,g3,g4⟩
 ·rw [hj] at e1; cases e1; rw [he] at e2; cases e2
 ·rw [hj] at g1
  cases g1
  rw [he] at g3
  cases g3
  have hn:Nul R r'.1:= .rule (List.mem_of_getElem? hj) fun x hx=>by rw [he] at hx; cases hx
  exact .inr ⟨hk,n,m,r,hr,h1,h2,WM A g4 hn (hn.var G) G.left h1 hu⟩
inductive Fs (nT:Int) (R:Rl):List Int→Int→Prop
 | term {s:Int} {l:List Int} :s<nT→Fs nT R (s::l) s
 | var {s t:Int} {l:List Int} {r:BC} :r ∈ R→r.1=s→Fs nT R r.2.1 t→Fs nT R (s::l) t
 | skip {s t:Int} {l:List Int} :Nul R s→Fs nT R l t→Fs nT R (s::l) t
inductive Fw (nT:Int) (R:Rl):Int→Int→Prop
 | zero {r:BC} :R[0]? =some r→Fw nT R r.1 0
 | first {r:BC} {b g:List Int} {a t:Int} :r ∈ R→r.2.1=b++a::g→Fs nT R g t→Fw nT R a t
 | left {r:BC} {b g:List Int} {a t:Int} :r ∈ R→r.2.1=b++a::g→(∀s ∈ g,Nul R s)→Fw nT R r.1 t→Fw nT R a t
theorem U2 {s:Nat} {t:Int} (h:Lk nT R K Tr s 0 t):t=0:=by
 rcases h with ⟨_,h,_⟩ | ⟨h,_⟩
 ·exact h
 ·omega
end
def KB (B:List dtK) (n:Nat):List Item:=match B[n]? with
 | some b=>b.1
 | none=> []
def SB (B:List dtK) (n:Nat):Prop:=n<B.length
def TrB (p:Ay) (B:List dtK) (E:List (List Edge)) (n:Nat) (s:Int) (m:Nat):Prop:= ∃b e,B[n]? =some b∧E[n]? =some e∧IU p.2.2.1 B b e s (m:Int)
section
variable {p:Ay} {B:List dtK} {E:List (List Edge)}
theorem Pa {n:Nat} {b:dtK} (h:B[n]? =some b):KB B n=b.1:=by unfold KB; rw [h]
theorem IU.to {b:dtK} {e:List Edge} {s:Int} {m:Nat} (h:IU p.2.2.1 B b e s (m:Int)):s ∈ sy p.2.2.1 b.2.1∧1≤m∧ ∃bt,B[m]? =some bt∧bt.1=nx p.2.2.1 b.2.1 s∧(s,(m:Int)) ∈ e:=by
 rcases h with ⟨h1,q,bt,h2,h3,h4,h5,h6⟩ | ⟨_,h⟩
 ·have e:m=q:=by omega
  subst e
  exact ⟨h1,h3,bt,h4,h5,h6⟩
 ·omega
theorem E5 (V:VPp p) (H:Fin p B E) {n:Nat} {b:dtK} (hb:B[n]? =some b) (x:Item):x ∈ b.2.1 ↔ Cl p.2.2.1 (KB B n) x:=by
 rw [Pa hb]
 exact (H.good V hb).2.2.1.mem x
theorem LF (V:VPp p) (H:Fin p B E):Aut p.2.2.1 (SB B) (KB B) (TrB p B E) where
 ok {n x} hn hx:=by
  have hb:=List.getElem?_eq_getElem (l:=B) hn
  rw [Pa hb] at hx
  exact (H.good V hb).1.ok x hx
 kern {n x} hn hx:=by
  have hb:=List.getElem?_eq_getElem (l:=B) hn
  rw [Pa hb] at hx
  rcases Nat.eq_zero_or_pos n with rfl | h
  ·have:=H.zero
   rw [hb] at this
   rw [Option.some.inj this] at hx
   exact .inl ⟨by simpa [k0] using hx,rfl⟩
  ·obtain ⟨f,bf,e,h1,h2,h3,h4,h5,h6,h7⟩:=H.from_ n _ h hb
   rw [h4] at hx
   exact .inr (RJ V (H.good V h3).2.1.ok (Lc.1 h5).1 x hx).2
 zero x:=by rw [Pa H.zero]; simp [k0]
 s0:=BM H.zero
 st {n s m} h:=by
  obtain ⟨b,e,hb,he,hg⟩:=h
  obtain ⟨h1,h2,bt,h3,_⟩:=hg.to
  exact ⟨BM hb,BM h3,h2,(Lc.1 h1).1⟩
 go {n x} hn hx h0:=by
  have hb:=List.getElem?_eq_getElem (l:=B) hn
  obtain ⟨e,he⟩:=H.edge hb
  have hs:beh p.2.2.1 x ∈ sy p.2.2.1 B[n].2.1:=Lc.2 ⟨h0,x,(E5 V H hb x).2 hx,rfl⟩
  have hd:=H.done n _ e hb he
  rw [← hd.1] at hs
  obtain ⟨y,hy,hy'⟩:=List.mem_map.1 hs
  obtain ⟨t,bt,h1,h2,h3,h4⟩:=hd.2 y hy
  refine ⟨t,_,e,hb,he, .inl ⟨?_,t,bt,rfl,h2,h3,?_,?_⟩⟩
  ·rw [← hd.1]; exact hs
  ·rw [← hy']; exact h4
  ·rw [← hy',← h1]; exact hy
 into {n s m x} h:=by
  obtain ⟨b,e,hb,he,hg⟩:=h
  obtain ⟨h1,h2,bt,h3,h4,_⟩:=hg.to
  rw [Pa h3,h4,Qk]
  constructor
  ·rintro ⟨y,g1,g2,g3⟩; exact ⟨y,(E5 V H hb y).1 g1,g2,g3⟩
  ·rintro ⟨y,g1,g2,g3⟩; exact ⟨y,(E5 V H hb y).2 g1,g2,g3⟩
 some_ {n s m} h:=by
  obtain ⟨b,e,hb,he,hg⟩:=h
  obtain ⟨y,g1,g2⟩:=(Lc.1 hg.to.1).2
  exact ⟨y,(E5 V H hb y).1 g1,g2⟩
 fn {n s m m'} h h':=by
  obtain ⟨b,e,hb,he,hg⟩:=h
  obtain ⟨b',e',hb',he',hg'⟩:=h'
  rw [hb] at hb'
  rw [he] at he'
  cases hb'
  cases he'
  have:=IU.unique H hg hg'
  omega
 reach {n} hn:=by
  induction n using Nat.strongRecOn with
  | _ n ih=>
   rcases Nat.eq_zero_or_pos n with rfl | h
   ·exact ⟨[],rfl⟩
   ·have hb:=List.getElem?_eq_getElem (l:=B) hn
    obtain ⟨f,bf,e,h1,h2,h3,h4,h5,h6,h7⟩:=H.from_ n _ h hb
    obtain ⟨l,hl⟩:=ih f h1 (BM h3)
    exact ⟨l++ [B[n].2.2.2],Pth.app.2 ⟨f,hl,n,⟨bf,e,h3,h6, .inl ⟨h5,n,_,rfl,h,hb,h4,h7⟩⟩,rfl⟩⟩
theorem Pb (H:Fin p B E): ∀ {l:List Int} {n m:Nat},n<B.length→(Walk p.2.2.1 B E (n:Int) l (m:Int) ↔ Pth (TrB p B E) n l m):=by
 intro l
 induction l with
 | nil=>
  intro n m hn
  constructor
  ·intro h
   generalize hq:(n:Int)=n' at h
   generalize hr:(m:Int)=m' at h
   cases h
   have:n=m:=by omega
   exact this
  ·rintro rfl
   exact .nil _
 | cons s l ih=>
  intro n m hn
  constructor
  ·intro h
   generalize hq:(n:Int)=n' at h
   generalize hr:(m:Int)=m' at h
   cases h with
   | stop _ _ _=>omega
   | @step j q b e _ _ _ hb he hg hql hw=>
    have e:n=j:=by omega
    subst e
    subst hr
    exact ⟨q,⟨b,_,hb,he,hg⟩,(ih hql).1 hw⟩
  ·rintro ⟨q,⟨b,e,hb,he,hg⟩,hp⟩
   obtain ⟨_,_,bt,h3,_⟩:=hg.to
   exact .step hb he hg (BM h3) ((ih (BM h3)).2 hp)
theorem Wr {nt nl:Nat} (G:Pl nt nl p) (hp: ∀v:Nat,v<p.2.1.length→Pro ((p.1.length:Nat):Int) p.2.2.1 ((p.1.length+v:Nat):Int)):Gr ((p.1.length:Nat):Int) p.2.2.1:=by
 have hT:=G.terms.len
 obtain ⟨st,s1,s2,s3⟩:=G.first
 have each: ∀(k:Nat) r,p.2.2.1[k]? =some r→(k=0∧r=(((nt+1+p.2.1.length:Nat):Int), [st],0))∨(1≤k∧Pr nt p.2.1.length nl r):=fun k r hk=>by
  rcases Nat.eq_zero_or_pos k with rfl | h
  ·rw [s3] at hk; exact .inl ⟨rfl,(Option.some.inj hk).symm⟩
  ·exact .inr ⟨h,G.rules k r h hk⟩
 have syms: ∀r ∈ p.2.2.1,∀s ∈ r.2.1,0<s∧s< ((nt+1+p.2.1.length:Nat):Int):=fun r hr s hs=>by
  obtain ⟨k,hk⟩:=List.getElem?_of_mem hr
  rcases each k r hk with ⟨_,rfl⟩ | ⟨_,h⟩
  ·simp at hs; subst hs; omega
  ·exact h.right s hs
 refine ⟨by omega,⟨_,st,s3,rfl,by omega,fun r' hr' hm=> ?_,fun k r' hk he=> ?_⟩,fun r hr=> ?_,fun r hr s hs=>(syms r hr s hs).1,fun r hr s hs=> ?_⟩
 ·have:=syms r' hr' _ hm
  dsimp only at this
  omega
 ·rcases each k r' hk with ⟨h,_⟩ | ⟨_,h⟩
  ·exact h
  ·have:=h.left
   dsimp only at he
   omega
 ·obtain ⟨k,hk⟩:=List.getElem?_of_mem hr
  rcases each k r hk with ⟨_,rfl⟩ | ⟨_,h⟩
  ·dsimp only; omega
  ·have:=h.left; omega
 ·have:=syms r hr s hs
  by_cases h:s< ((p.1.length:Nat):Int)
  ·exact .term (by omega) h
  ·have e:s=((p.1.length+(s.toNat - p.1.length):Nat):Int):=by omega
   rw [e]
   exact hp _ (by omega)
end
end Go.Proofs.YteolcjbobmpdiaaGreatDoor
namespace Go.Proofs.YteolcjbobmpdiaaGreatDoor
open Go Go.Eng Dg
set_option linter.unusedVariables false
abbrev dtP:Type:=Ay
abbrev dtA:Type:=C1
noncomputable def SK (ss:List AW) (x y:Int):Option (Bool×List AW):=
 (idx ss x).bind fun s=>(idx ss y).bind fun o=>need (OkS s∧OkS o) <| some (Ee s o,ss.set x.toNat (BB s o))
noncomputable def U3 (ss:List AW) (x:Int) (o:AW):Option (Bool×List AW):=
 (idx ss x).bind fun s=>need (OkS s∧OkS o) <| some (Ee s o,ss.set x.toNat (BB s o))
def nT (p:dtP):Int:=((p.1.length:Nat):Int)
noncomputable def Jg (p:dtP) (m:Int) (null:List Bool) (x:Int) (ss:List AW) (seq:List Int):Option (Bool×Bool×List AW):=
 (Cf (σ:=Bool×List AW) (β:=Bool×Bool×List AW) 0 ((seq.length:Nat):Int) (false,ss) fun i z=>
  (idx seq i).bind fun sym=>(BZ p sym).bind fun t=>
  cond t
   ((CZ (nT p) [sym]).bind fun o=>(U3 z.2 x o).bind fun u=>some (.done (u.1 || z.1,false,u.2)))
   (need (IntKind.wrap .i64 (sym - nT p) <m) <| (SK z.2 x (IntKind.wrap .i64 (sym - nT p))).bind fun u=>(idx null (IntKind.wrap .i64 (sym - nT p))).bind fun b=>
    cond b (some (.next (u.1 || z.1,u.2))) (some (.done (u.1 || z.1,false,u.2))))).bind fun e=>match e with
 | .next z=>some (z.1,true,z.2)
 | .done r=>some r
noncomputable def Mx (p:dtP) (m:Int) (null:List Bool) (ss:List AW):Option (Bool×List Bool×List AW):=
 forS (σ:=Bool×List Bool×List AW) 0 ((p.2.2.1.length:Nat):Int) (false,null,ss) fun i z=>
  (idx p.2.2.1 i).bind fun r=>need (0≤IntKind.wrap .i64 (r.1 - nT p)∧IntKind.wrap .i64 (r.1 - nT p) <m) <|
  (Jg p m z.2.1 (IntKind.wrap .i64 (r.1 - nT p)) z.2.2 r.2.1).bind fun g=>
  (idx z.2.1 (IntKind.wrap .i64 (r.1 - nT p))).bind fun b=>
  (Dq z.2.1 (IntKind.wrap .i64 (r.1 - nT p)) (b || g.2.1)).bind fun null'=>
  some (z.1 || g.1 || (g.2.1 && !b),null',g.2.2)
noncomputable def LG (p:dtP) (m:Int) (null:List Bool) (ss:List AW):Option (Bool×List AW):=
 forS (σ:=Bool×List AW) 0 ((p.2.2.1.length:Nat):Int) (false,ss) fun i z=>
  (idx p.2.2.1 i).bind fun r=>
  forS (σ:=Bool×List AW) 0 ((r.2.1.length:Nat):Int) z fun j z=>
   (idx r.2.1 j).bind fun sym=>(BZ p sym).bind fun t=>cond t (some z)
   (need (0≤IntKind.wrap .i64 (sym - nT p)∧IntKind.wrap .i64 (sym - nT p) <m) <|
    (Jg p m null (m+IntKind.wrap .i64 (sym - nT p)) z.2 (r.2.1.drop (j+1).toNat)).bind fun g=>
    (cond g.2.1 (need (0≤IntKind.wrap .i64 (r.1 - nT p)∧IntKind.wrap .i64 (r.1 - nT p) <m) <| (SK g.2.2 (m+IntKind.wrap .i64 (sym - nT p)) (m+IntKind.wrap .i64 (r.1 - nT p))).bind fun u=>some (u.1 || g.1,u.2)) (some (g.1,g.2.2))).bind fun h=>
    some (z.1 || h.1,h.2))
noncomputable def Le (p:dtP):Option (List AW):=
 forS (σ:=List AW) 0 (IntKind.wrap .i64 (((p.2.1.length:Nat):Int) +1)) [] fun _ acc=>(Bo (nT p)).bind fun s=>app acc [s]
noncomputable def JJ (ss:List AW):Option (List (List Int)):=
 forS (σ:=List (List Int)) 0 ((ss.length:Nat):Int) [] fun i acc=>(idx ss i).bind fun s=>(IG s).bind fun l=>app acc [l]
abbrev dtF:Type:=Va
noncomputable def My (p:dtP):Option dtF:=
 (FB (IntKind.wrap .i64 (((p.2.1.length:Nat):Int) +1)) false).bind fun null=>
 (Le p).bind fun f=>(Le p).bind fun g=>
 (loop (σ:=Int×List Bool×List AW) (β:=Int×List Bool×List AW) (1,null,f++g) fun z=>
  (Mx p ((f.length:Nat):Int) z.2.1 z.2.2).bind fun r=>cond r.1 (some (.next (IntKind.wrap .i64 (z.1+1),r.2))) (some (.done (z.1,r.2)))).bind fun z=>
 (idx (z.2.2.drop f.length) ((p.2.1.length:Nat):Int)).bind fun s=>(Aq s 0).bind fun a=>
 (loop (σ:=List AW) (β:=List AW) (z.2.2.set (f.length+p.2.1.length) a.2) fun ss=>
  (LG p ((f.length:Nat):Int) z.2.1 ss).bind fun r=>cond r.1 (some (.next r.2)) (some (.done r.2))).bind fun ss=>
 (JJ (ss.take f.length)).bind fun a=>(JJ (ss.drop f.length)).bind fun b=>some (z.2.1,a,b,z.1)
end Go.Proofs.YteolcjbobmpdiaaGreatDoor
namespace Go.Proofs.YteolcjbobmpdiaaGreatDoor.Dg
open Go Go.Eng
set_option linter.unusedVariables false
abbrev Dl:Int:=9223372036854775807
def lv (low:List Int) (v:Int):Int:=(idx low v).getD 0
theorem Lf {low:List Int} {v:Int} (h0:0≤v) (h1:v< (low.length:Int)):idx low v=some (lv low v):=by
 have:idx low v=some low[v.toNat] :=JZ h0 (by omega)
 unfold lv
 rw [this]; rfl
theorem T0 {low:List Int} {v:Int} (h:v<0∨(low.length:Int) ≤v):lv low v=0:=by
 unfold lv idx
 split
 ·rw [List.getElem?_eq_none (by omega)]; rfl
 ·rfl
theorem OY {low:List Int} {x e:Int} (h0:0≤x) (h1:x< (low.length:Int)) (v:Int):lv (low.set x.toNat e) v=if v=x then e else lv low v:=by
 by_cases hv:v=x
 ·subst hv
  rw [if_pos rfl]
  unfold lv idx
  rw [if_pos h0,List.getElem?_set,if_pos rfl,if_pos (by omega)]
  rfl
 ·rw [if_neg hv]
  unfold lv idx
  split
  ·rw [List.getElem?_set,if_neg (by omega)]
  ·rfl
inductive Reach (ll:List (List Int)) (n:Int):Int→Int→Prop where
 | refl (x:Int):Reach ll n x x
 | step {x y z:Int} :y ∈ Ce ll x n→Reach ll n y z→Reach ll n x z
theorem Reach.trans {ll:List (List Int)} {n x y z:Int} (h:Reach ll n x y) (k:Reach ll n y z):Reach ll n x z:=by
 induction h with
 | refl=>exact k
 | step e _ ih=>exact .step e (ih k)
theorem Reach.one {ll:List (List Int)} {n x y:Int} (h:y ∈ Ce ll x n):Reach ll n x y:= .step h (.refl _)
theorem Hu {ll:List (List Int)} {n x y:Int} (h:y ∈ Ce ll x n):0≤y∧y<n:=by
 unfold Ce at h
 split at h
 ·cases h
 ·have:=(List.mem_filter.1 h).2
  unfold JA at this
  simp at this
  omega
theorem Reach.closed {ll:List (List Int)} {n:Int} {D:Int→Prop} (hD: ∀v w,D v→w ∈ Ce ll v n→D w) {x y:Int} (h:Reach ll n x y):D x→D y:=by
 induction h with
 | refl=>exact id
 | step e _ ih=>exact fun hx=>ih (hD _ _ hx e)
structure WN (ll:List (List Int)) (n:Int) {A:Type} (ledA:A→Int→Int→Option A) (partA:A→List Int→Option A) where
 I:(Int→Prop)→A→Prop
 Q:A→Int→Int→Prop
 led: ∀ {D:Int→Prop} {a:A} {x to:Int},I D a→0≤x→x<n→to ∈ Ce ll x n→D to∨Reach ll n to x→ ¬D x→ ∃a',ledA a x to=some a'∧I D a'∧Q a' x to∧ ∀y z,Q a y z→Q a' y z
 part: ∀ {D:Int→Prop} {a:A} {l:List Int},I D a→l ≠ [] →l.Nodup→(∀v ∈ l,0≤v∧v<n∧ ¬D v)→(∀v ∈ l,∀w ∈ Ce ll v n,Q a v w∧(D w∨w ∈ l))→(∀v ∈ l,∀z,z ∈ l ↔ Reach ll n v z∧Reach ll n z v)→
  ∃a',partA a l=some a'∧I (fun v=>D v∨v ∈ l) a'∧ ∀y z,Q a y z→Q a' y z
section
variable (ll:List (List Int)) (n:Int)
structure Inv (low stk:List Int):Prop where
 len:(low.length:Int)=n
 on: ∀(i:Nat) (v:Int),stk[i]? =some v→0≤v∧v<n∧1≤lv low v∧lv low v≤(i:Int) +1
 off: ∀v:Int,0≤v→v<n→v ∉ stk→lv low v=0∨lv low v=Dl
 nodup:stk.Nodup
 back: ∀(i:Nat) (v:Int),stk[i]? =some v→ ∃(j:Nat) (u:Int),lv low v=(j:Int) +1∧stk[j]? =some u∧Reach ll n v u
 clo: ∀v w:Int,lv low v=Dl→w ∈ Ce ll v n→lv low w=Dl
variable {ll:List (List Int)} {n:Int}
theorem Inv.size {low stk:List Int} (H:Inv ll n low stk):stk.length≤low.length:=by
 have h:=List.Nodup.length_le_of_subset (l₂:=(List.range low.length).map fun k:Nat=>(k:Int)) H.nodup (fun v hv=>by
  obtain ⟨i,hi⟩:=List.getElem?_of_mem hv
  have:=H.on i v hi
  have hl:=H.len
  exact List.mem_map.2 ⟨v.toNat,List.mem_range.2 (by omega),by omega⟩)
 simpa using h
theorem Inv.mem {low stk:List Int} (H:Inv ll n low stk) (hn:n≤100000) {v:Int} (h0:0≤v) (h1:v<n) (hv:lv low v ≠ 0) (hm:lv low v ≠ Dl): ∃i:Nat,stk[i]? =some v:=by
 by_cases h:v ∈ stk
 ·exact List.getElem?_of_mem h
 ·rcases H.off v h0 h1 h with h | h
  ·exact absurd h hv
  ·exact absurd h hm
theorem Inv.notMax {low stk:List Int} (H:Inv ll n low stk) (hn:n≤100000) {i:Nat} {v:Int} (h:stk[i]? =some v):lv low v ≠ Dl:=by
 have h1:=(H.on i v h).2.2.2
 have h2:=H.size
 have h3:=H.len
 have h4:i<stk.length:=by
  rcases Nat.lt_or_ge i stk.length with g | g
  ·exact g
  ·rw [List.getElem?_eq_none g] at h; cases h
 intro h5
 rw [h5] at h1
 simp only [Dl] at h1
 omega
theorem Kb {α:Type} {l:List α} {i:Nat} {v:α} (h:l[i]? =some v):i<l.length:=by
 rcases Nat.lt_or_ge i l.length with g | g
 ·exact g
 ·rw [List.getElem?_eq_none g] at h; cases h
theorem Pc {low low':List Int} (hl:low'.length=low.length) (h: ∀v,lv low v ≠ 0→lv low' v ≠ 0):low'.count 0≤low.count 0:=by
 have key: ∀(l l':List Int),l'.length=l.length→(∀i:Nat,(l[i]?).getD 0 ≠ 0→(l'[i]?).getD 0 ≠ 0)→l'.count 0≤l.count 0:=by
  intro l
  induction l with
  | nil=>intro l' hl _; rw [List.eq_nil_of_length_eq_zero hl]; exact Nat.le_refl _
  | cons x l ih=>
   intro l' hl h
   cases l' with
   | nil=>simp
   | cons y l'=>
    have h1:=ih l' (by simpa using hl) fun i hi=>by simpa using h (i+1) (by simpa using hi)
    have h0:=h 0
    simp only [List.getElem?_cons_zero,Option.getD_some] at h0
    rw [List.count_cons,List.count_cons]
    by_cases hx:x=0
    ·subst hx
     simp only [beq_self_eq_true,if_true]
     split<;>omega
    ·have:=h0 hx
     rw [if_neg (by simpa using this),if_neg (by simpa using hx)]
     omega
 refine key low low' hl fun i hi=> ?_
 have:=h (i:Int)
 unfold lv at this
 rw [Cw,Cw] at this
 exact this hi
theorem HR {low:List Int} {x e:Int} (h0:0≤x) (h1:x< (low.length:Int)) (hx:lv low x=0) (he:e ≠ 0):(low.set x.toNat e).count 0+1≤low.count 0:=by
 have key: ∀(l:List Int) (i:Nat),l[i]? =some 0→(l.set i e).count 0+1≤l.count 0:=by
  intro l
  induction l with
  | nil=>intro i h; simp at h
  | cons y l ih=>
   intro i h
   cases i with
   | zero=>
    simp only [List.getElem?_cons_zero,Option.some.injEq] at h
    subst h
    rw [List.set_cons_zero,List.count_cons,List.count_cons]
    simp [he]
   | succ i=>
    have:=ih i (by simpa using h)
    rw [List.set_cons_succ,List.count_cons,List.count_cons]
    omega
 refine key low x.toNat ?_
 have:=Lf (low:=low) h0 h1
 unfold idx at this
 rw [if_pos h0,hx] at this
 exact this
end
section
variable {ll:List (List Int)} {n:Int} {A:Type} {ledA:A→Int→Int→Option A} {partA:A→List Int→Option A} (S:WN ll n ledA partA)
abbrev Dn (low:List Int) (v:Int):Prop:=lv low v=Dl
structure U4 (low stk:List Int) (x:Int) (a:A) (low' ext:List Int) (a':A):Prop where
 inv:Inv ll n low' (stk++ext)
 keep: ∀v:Int,lv low v ≠ 0→lv low' v=lv low v
 seen:lv low' x ≠ 0
 fresh: ∀v ∈ ext,lv low v=0
 reach: ∀v ∈ ext,Reach ll n x v
 strict: ∀(i:Nat) (v:Int),ext[i]? =some v→lv low' x≤lv low' v∧lv low' v< (stk.length:Int) +i+1
 edges: ∀v ∈ ext,∀w ∈ Ce ll v n,lv low' w ≠ 0∧S.Q a' v w∧ ∀i:Nat,stk[i]? =some w→lv low' v≤(i:Int) +1
 ok:S.I (Dn low') a'
 mono: ∀y z:Int,S.Q a y z→S.Q a' y z
structure Dd (low0 stk:List Int) (x:Int) (a0:A) (es:List Int) (q:Int) (low ext:List Int) (a:A):Prop where
 inv:Inv ll n low (stk++x::ext)
 keep: ∀v:Int,lv low0 v ≠ 0→lv low v=lv low0 v
 fresh: ∀v ∈ ext,lv low0 v=0
 reach: ∀v ∈ ext,Reach ll n x v
 strict: ∀(i:Nat) (v:Int),ext[i]? =some v→(lv low x≤lv low v∨q≤lv low v)∧lv low v< (stk.length:Int) +i+2
 edges: ∀v ∈ ext,∀w ∈ Ce ll v n,lv low w ≠ 0∧S.Q a v w∧ ∀i:Nat,stk[i]? =some w→lv low v≤(i:Int) +1
 own: ∀w ∈ es,lv low w ≠ 0∧S.Q a x w∧ ∀i:Nat,stk[i]? =some w→lv low x≤(i:Int) +1
 ok:S.I (Dn low) a
 mono: ∀y z:Int,S.Q a0 y z→S.Q a y z
theorem WO (stk:List Int) (x:Int) (ext:List Int):(stk++x::ext)[stk.length]? =some x:=by
 rw [List.getElem?_append_right (Nat.le_refl _),Nat.sub_self]; rfl
theorem Lg {stk:List Int} {i:Nat} {v:Int} (h:stk[i]? =some v) (r:List Int):(stk++r)[i]? =some v:=by
 rw [List.getElem?_append_left (Kb h)]; exact h
theorem WP {stk:List Int} {x:Int} {ext:List Int} {i:Nat} {v:Int} (h:ext[i]? =some v):(stk++x::ext)[stk.length+1+i]? =some v:=by
 rw [List.getElem?_append_right (by omega),show stk.length+1+i - stk.length=i+1 by omega]
 exact h
theorem HQ {stk:List Int} {x:Int} {ext:List Int} {i:Nat} {v:Int} (h:(stk++x::ext)[i]? =some v):(stk[i]? =some v)∨(i=stk.length∧v=x)∨ ∃k,i=stk.length+1+k∧ext[k]? =some v:=by
 rcases Nat.lt_trichotomy i stk.length with g | g | g
 ·left; rw [List.getElem?_append_left g] at h; exact h
 ·right; left
  subst g
  rw [WO] at h
  exact ⟨rfl,(Option.some.inj h).symm⟩
 ·right; right
  refine ⟨i - stk.length - 1,by omega,?_⟩
  rw [List.getElem?_append_right (by omega),show i - stk.length=(i - stk.length - 1) +1 by omega] at h
  exact h
theorem Dd.all {low0 stk:List Int} {x q:Int} {a0:A} {es low ext:List Int} {a:A} (R:Dd S low0 stk x a0 es q low ext a) (hx: ∀u ∈ stk,Reach ll n u x): ∀(i:Nat) (v:Int),(stk++x::ext)[i]? =some v→Reach ll n v x:=by
 intro i
 induction i using Nat.strongRecOn with
 | ind i ih=>
  intro v hv
  rcases HQ hv with h | ⟨_,rfl⟩ | ⟨k,rfl,hk⟩
  ·exact hx v (List.mem_of_getElem? h)
  ·exact .refl _
  ·obtain ⟨j,u,e1,e2,e3⟩:=R.inv.back _ v hv
   have:=(R.strict k v hk).2
   exact e3.trans (ih j (by omega) u e2)
variable {low0 stk:List Int} {x q:Int} {a0:A} {es low ext:List Int} {a:A}
theorem Dd.not_stk (R:Dd S low0 stk x a0 es q low ext a) {v:Int} (hv:v ∈ x::ext):v ∉ stk:=fun h=>by
 have:=(List.nodup_append.1 R.inv.nodup).2.2
 exact this v h v hv rfl
theorem Dd.not_x (R:Dd S low0 stk x a0 es q low ext a) {v:Int} (hv:v ∈ ext):v ≠ x:=fun h=>by
 have:=(List.nodup_append.1 R.inv.nodup).2.1
 rw [List.nodup_cons] at this
 subst h
 exact this.1 hv
theorem Dd.x_on (R:Dd S low0 stk x a0 es q low ext a):0≤x∧x<n∧1≤lv low x∧lv low x≤(stk.length:Int) +1:=R.inv.on _ _ (WO stk x ext)
theorem Dd.begin (hn:n≤100000) (H:Inv ll n low0 stk) (h0:0≤x) (h1:x<n) (hx:lv low0 x=0) (hI:S.I (Dn low0) a0):Dd S low0 stk x a0 [] (lv (low0.set x.toNat ((stk.length:Int) +1)) x) (low0.set x.toNat ((stk.length:Int) +1)) [] a0:=by
 have hlen:=H.len
 have hsz:=H.size
 have hs:=fun v=>OY (low:=low0) (x:=x) (e:=(stk.length:Int) +1) h0 (by omega) v
 have hxs:x ∉ stk:=fun h=>by
  obtain ⟨i,hi⟩:=List.getElem?_of_mem h
  have:=(H.on i x hi).2.2.1
  omega
 have hD:Dn (low0.set x.toNat ((stk.length:Int) +1))=Dn low0:=by
  funext v
  apply propext
  show lv _ v=Dl ↔ lv low0 v=Dl
  rw [hs]
  split
  ·rename_i e; subst e; rw [hx]; simp only [Dl]; omega
  ·exact Iff.rfl
 have hne: ∀ {v:Int},lv low0 v ≠ 0→v ≠ x:=fun h e=>by subst e; exact h hx
 refine ⟨⟨?_,?_,?_,?_,?_,?_⟩,?_,?_,?_,?_,?_,?_,?_,?_⟩
 ·rw [List.length_set]; exact hlen
 ·intro i v hv
  rcases HQ hv with h | ⟨rfl,rfl⟩ | ⟨k,_,hk⟩
  ·have h2:=H.on i v h
   rw [hs,if_neg (hne (by omega))]
   exact h2
  ·rw [hs,if_pos rfl]
   exact ⟨h0,h1,by omega,by omega⟩
  ·simp at hk
 ·intro v g0 g1 hv
  have hvx:v ≠ x:=fun e=>hv (by rw [e]; simp)
  rw [hs,if_neg hvx]
  exact H.off v g0 g1 fun h=>hv (List.mem_append_left _ h)
 ·rw [List.nodup_append]
  exact ⟨H.nodup,by simp,fun a ha b hb e=>by simp at hb; subst hb; subst e; exact hxs ha⟩
 ·intro i v hv
  rcases HQ hv with h | ⟨rfl,rfl⟩ | ⟨k,_,hk⟩
  ·obtain ⟨j,u,e1,e2,e3⟩:=H.back i v h
   have h2:=H.on i v h
   exact ⟨j,u,by rw [hs,if_neg (hne (by omega))]; exact e1,Lg e2 _,e3⟩
  ·exact ⟨stk.length,v,by rw [hs,if_pos rfl],WO _ _ _, .refl _⟩
  ·simp at hk
 ·intro v w hv hw
  have hv':Dn low0 v:=by rw [← hD]; exact hv
  have:=H.clo v w hv' hw
  show Dn _ w
  rw [hD]
  exact this
 ·intro v hv
  rw [hs,if_neg (hne hv)]
 ·intro v hv; cases hv
 ·intro v hv; cases hv
 ·intro i v hv; simp at hv
 ·intro v hv; cases hv
 ·intro w hw; cases hw
 ·rw [hD]; exact hI
 ·exact fun y z h=>h
theorem Dd.child (R:Dd S low0 stk x a0 es (lv low x) low ext a) {to:Int} {low' ext':List Int} {a':A} (hto:to ∈ Ce ll x n) (hz:lv low to=0) (Po:U4 S low (stk++x::ext) to a low' ext' a'):Dd S low0 stk x a0 es (lv low' to) low' (ext++ext') a':=by
 have hx:=R.x_on
 have hkx:lv low' x=lv low x:=Po.keep x (by omega)
 have hon: ∀v ∈ ext,lv low v ≠ 0:=fun v hv=>by
  obtain ⟨i,hi⟩:=List.getElem?_of_mem hv
  have:=(R.inv.on _ _ (WP (stk:=stk) (x:=x) hi)).2.2.1
  omega
 have hf0: ∀v,lv low v=0→lv low0 v=0:=fun v hv=>by
  by_cases h:lv low0 v=0
  ·exact h
  ·have:=R.keep v h
   omega
 refine ⟨?_,?_,?_,?_,?_,?_,?_,Po.ok,fun y z h=>Po.mono y z (R.mono y z h)⟩
 ·have:=Po.inv
  rwa [List.append_assoc,List.cons_append] at this
 ·intro v hv
  have h1:=R.keep v hv
  rw [Po.keep v (by rw [h1]; exact hv),h1]
 ·intro v hv
  rcases List.mem_append.1 hv with h | h
  ·exact R.fresh v h
  ·exact hf0 v (Po.fresh v h)
 ·intro v hv
  rcases List.mem_append.1 hv with h | h
  ·exact R.reach v h
  ·exact .step hto (Po.reach v h)
 ·intro i v hv
  rcases Nat.lt_or_ge i ext.length with g | g
  ·rw [List.getElem?_append_left g] at hv
   have h1:=R.strict i v hv
   rw [Po.keep v (hon v (List.mem_of_getElem? hv)),hkx]
   exact ⟨.inl (h1.1.elim id id),h1.2⟩
  ·rw [List.getElem?_append_right g] at hv
   have h1:=Po.strict _ v hv
   refine ⟨.inr h1.1,?_⟩
   have h2:=h1.2
   rw [List.length_append,List.length_cons] at h2
   omega
 ·intro v hv w hw
  rcases List.mem_append.1 hv with h | h
  ·obtain ⟨e1,e2,e3⟩:=R.edges v h w hw
   rw [Po.keep v (hon v h),Po.keep w e1]
   exact ⟨e1,Po.mono _ _ e2,e3⟩
  ·obtain ⟨e1,e2,e3⟩:=Po.edges v h w hw
   exact ⟨e1,e2,fun i hi=>e3 i (Lg hi _)⟩
 ·intro w hw
  obtain ⟨e1,e2,e3⟩:=R.own w hw
  rw [Po.keep w e1,hkx]
  exact ⟨e1,Po.mono _ _ e2,e3⟩
theorem Dd.upd (hn:n≤100000) {to:Int} (hx: ∀u ∈ stk,Reach ll n u x) (hz:lv low0 x=0) (R:Dd S low0 stk x a0 es (lv low to) low ext a) (hto:to ∈ Ce ll x n) (hne:lv low to ≠ 0):
 ∃a',ledA a x to=some a'∧Dd S low0 stk x a0 (es++ [to]) (lv (low.set x.toNat (if lv low to<lv low x then lv low to else lv low x)) x) (low.set x.toNat (if lv low to<lv low x then lv low to else lv low x)) ext a':=by
 have hxo:=R.x_on
 have hsz:=R.inv.size
 have hlen:=R.inv.len
 rw [List.length_append,List.length_cons] at hsz
 obtain ⟨t0,t1⟩:=Hu hto
 have hD0: ¬Dn low x:=fun h=>by have h:lv low x=Dl:=h; simp only [Dl] at h; omega
 have hto':Dn low to∨ ∃i:Nat,(stk++x::ext)[i]? =some to:=by
  by_cases h:lv low to=Dl
  ·exact .inl h
  ·exact .inr (R.inv.mem hn t0 t1 hne h)
 obtain ⟨a',h1,h2,h3,h4⟩:=S.led R.ok hxo.1 hxo.2.1 hto (hto'.imp id fun ⟨i,hi⟩=>R.all S hx i to hi) hD0
 refine ⟨a',h1,?_⟩
 obtain ⟨m,hm⟩: ∃m,(if lv low to<lv low x then lv low to else lv low x)=m:=⟨_,rfl⟩
 rw [hm]
 have hq1:1≤lv low to:=by
  rcases hto' with h | ⟨i,hi⟩
  ·have h:lv low to=Dl:=h
   rw [h]; decide
  ·exact (R.inv.on i to hi).2.2.1
 have hmp:m≤lv low x:=by rw [← hm]; split<;>omega
 have hmq:m≤lv low to:=by rw [← hm]; split<;>omega
 have hm1:1≤m:=by rw [← hm]; split<;>omega
 have hs:=fun v=>OY (low:=low) (x:=x) (e:=m) hxo.1 (by omega) v
 have hD:Dn (low.set x.toNat m)=Dn low:=by
  funext v
  apply propext
  show lv _ v=Dl ↔ lv low v=Dl
  rw [hs]
  split
  ·rename_i e; subst e; simp only [Dl]; omega
  ·exact Iff.rfl
 refine ⟨⟨?_,?_,?_,R.inv.nodup,?_,?_⟩,?_,R.fresh,R.reach,?_,?_,?_,?_,fun y z h=>h4 y z (R.mono y z h)⟩
 ·rw [List.length_set]; exact hlen
 ·intro i v hv
  obtain ⟨g1,g2,g3,g4⟩:=R.inv.on i v hv
  rw [hs]
  split
  ·rename_i e; subst e; exact ⟨g1,g2,hm1,by omega⟩
  ·exact ⟨g1,g2,g3,g4⟩
 ·intro v g0 g1 hv
  have hvx:v ≠ x:=fun e=>hv (by rw [e]; simp)
  rw [hs,if_neg hvx]
  exact R.inv.off v g0 g1 hv
 ·intro i v hv
  rw [hs]
  split
  ·rename_i e
   subst e
   by_cases hlt:lv low to<lv low v
   ·rw [if_pos hlt] at hm
    subst hm
    rcases hto' with h | ⟨k,hk⟩
    ·have h:lv low to=Dl:=h
     rw [h] at hlt
     simp only [Dl] at hlt
     omega
    ·obtain ⟨j,u,e1,e2,e3⟩:=R.inv.back k to hk
     exact ⟨j,u,e1,e2, .step hto e3⟩
   ·rw [if_neg hlt] at hm
    subst hm
    exact R.inv.back i v hv
  ·exact R.inv.back i v hv
 ·intro v w hv hw
  have hv':Dn low v:=by rw [← hD]; exact hv
  show Dn _ w
  rw [hD]
  exact R.inv.clo v w hv' hw
 ·intro v hv
  have hvx:v ≠ x:=fun e=>hv (by rw [e]; exact hz)
  rw [hs,if_neg hvx]
  exact R.keep v hv
 ·intro i v hv
  have hvx:=R.not_x S (List.mem_of_getElem? hv)
  obtain ⟨g1,g2⟩:=R.strict i v hv
  rw [hs x,if_pos rfl,hs v,if_neg hvx]
  refine ⟨.inl ?_,g2⟩
  rcases g1 with g | g<;>omega
 ·intro v hv w hw
  obtain ⟨e1,e2,e3⟩:=R.edges v hv w hw
  rw [hs v,if_neg (R.not_x S hv)]
  refine ⟨?_,h4 _ _ e2,e3⟩
  rw [hs]
  split<;>omega
 ·intro w hw
  rw [hs x,if_pos rfl]
  refine ⟨?_,?_,?_⟩
  ·rw [hs]
   split
   ·omega
   ·rcases List.mem_append.1 hw with h | h
    ·exact (R.own w h).1
    ·simp at h; subst h; exact hne
  ·rcases List.mem_append.1 hw with h | h
   ·exact h4 _ _ (R.own w h).2.1
   ·simp at h; subst h; exact h3
  ·intro i hi
   rcases List.mem_append.1 hw with h | h
   ·have:=(R.own w h).2.2 i hi; omega
   ·simp at h
    subst h
    have:=(R.inv.on i w (Lg hi _)).2.2.2
    omega
 ·rw [hD]; exact h2
theorem Dd.stay (hz:lv low0 x=0) (R:Dd S low0 stk x a0 (Ce ll x n) (lv low x) low ext a) (hne:lv low x ≠ (stk.length:Int) +1):U4 S low0 stk x a0 low (x::ext) a:=by
 have hx:=R.x_on
 refine ⟨R.inv,R.keep,by omega,?_,?_,?_,?_,R.ok,R.mono⟩
 ·intro v hv
  rcases List.mem_cons.1 hv with h | h
  ·rw [h]; exact hz
  ·exact R.fresh v h
 ·intro v hv
  rcases List.mem_cons.1 hv with h | h
  ·rw [h]; exact .refl _
  ·exact R.reach v h
 ·intro i v hv
  cases i with
  | zero=>
   simp only [List.getElem?_cons_zero,Option.some.injEq] at hv
   subst hv
   exact ⟨Int.le_refl _,by omega⟩
  | succ i=>
   have:=R.strict i v (by simpa using hv)
   exact ⟨this.1.elim id id,by omega⟩
 ·intro v hv w hw
  rcases List.mem_cons.1 hv with h | h
  ·subst h; exact R.own w hw
  ·exact R.edges v h w hw
theorem U5 {low:List Int} : ∀(l:List Int),(∀v ∈ l,0≤v∧v< (low.length:Int))→l.length≤9223372036854775807→ ∃low':List Int,(forS 0 (l.length:Int) low fun i low=>(idx l i).bind fun y=>Dq low y 9223372036854775807)=some low'∧low'.length=low.length∧ ∀v,lv low' v=if v ∈ l then Dl else lv low v:=by
 intro l hl hb
 obtain ⟨low',h1,h2,h3⟩:=CA (f:=fun i (low:List Int)=>(idx l i).bind fun y=>Dq low y 9223372036854775807) (n:=l.length) (fun k low'=>low'.length=low.length∧ ∀v,lv low' v=if v ∈ l.take k then Dl else lv low v) hb (s:=low) ⟨rfl,fun v=>by simp⟩ (fun k s hk ⟨g1,g2⟩=>by
  have hr:=hl _ (List.getElem_mem hk)
  refine ⟨s.set (l[k]).toNat Dl,by rw [E0 hk]; exact Gi hr.1 (by omega),by rw [List.length_set]; exact g1,fun v=> ?_⟩
  rw [OY hr.1 (by omega),g2,List.take_succ_eq_append_getElem hk]
  by_cases e:v=l[k]
  ·rw [if_pos e,if_pos (List.mem_append_right _ (by rw [e]; exact List.mem_singleton.2 rfl))]
  ·rw [if_neg e]
   by_cases h:v ∈ l.take k
   ·rw [if_pos h,if_pos (List.mem_append_left _ h)]
   ·rw [if_neg h,if_neg fun g=>(List.mem_append.1 g).elim h fun g=>e (List.mem_singleton.1 g)])
 refine ⟨low',h1,h2,fun v=> ?_⟩
 rw [h3,List.take_length]
theorem Dd.pop (hn:n≤100000) (hx: ∀u ∈ stk,Reach ll n u x) (hz:lv low0 x=0) (R:Dd S low0 stk x a0 (Ce ll x n) (lv low x) low ext a) (he:lv low x=(stk.length:Int) +1) {low':List Int} (hlen':low'.length=low.length) (hlow: ∀v,lv low' v=if v ∈ x::ext then Dl else lv low v):
 ∃a',partA a (x::ext)=some a'∧U4 S low0 stk x a0 low' [] a':=by
 have hxo:=R.x_on
 have hsz:=R.inv.size
 have hlen:=R.inv.len
 rw [List.length_append,List.length_cons] at hsz
 have hge: ∀v ∈ x::ext,(stk.length:Int) +1≤lv low v:=fun v hv=>by
  rcases List.mem_cons.1 hv with h | h
  ·subst h; omega
  ·obtain ⟨i,hi⟩:=List.getElem?_of_mem h
   have:=(R.strict i v hi).1.elim id id
   omega
 have hed: ∀v ∈ x::ext,∀w ∈ Ce ll v n,lv low w ≠ 0∧S.Q a v w∧ ∀i:Nat,stk[i]? =some w→lv low v≤(i:Int) +1:=fun v hv w hw=>by
  rcases List.mem_cons.1 hv with h | h
  ·subst h; exact R.own w hw
  ·exact R.edges v h w hw
 have hmem: ∀v ∈ x::ext,∃i:Nat,(stk++x::ext)[i]? =some v:=fun v hv=>List.getElem?_of_mem (List.mem_append_right _ hv)
 have hcl: ∀v ∈ x::ext,∀w ∈ Ce ll v n,lv low w=Dl∨w ∈ x::ext:=fun v hv w hw=>by
  obtain ⟨e1,e2,e3⟩:=hed v hv w hw
  obtain ⟨w0,w1⟩:=Hu hw
  by_cases hM:lv low w=Dl
  ·exact .inl hM
  ·obtain ⟨i,hi⟩:=R.inv.mem hn w0 w1 e1 hM
   rcases HQ hi with h | ⟨_,rfl⟩ | ⟨k,_,hk⟩
   ·have h1:=e3 i h
    have h2:=hge v hv
    have h3:=Kb h
    omega
   ·exact .inr (by simp)
   ·exact .inr (List.mem_cons_of_mem _ (List.mem_of_getElem? hk))
 have hnd: ∀v ∈ x::ext,¬lv low v=Dl:=fun v hv=>by
  obtain ⟨i,hi⟩:=hmem v hv
  exact R.inv.notMax hn hi
 have hto: ∀v ∈ x::ext,Reach ll n x v∧Reach ll n v x:=fun v hv=>by
  obtain ⟨i,hi⟩:=hmem v hv
  refine ⟨?_,R.all S hx i v hi⟩
  rcases List.mem_cons.1 hv with h | h
  ·rw [h]; exact .refl _
  ·exact R.reach v h
 have hD:Dn low'=fun v=>Dn low v∨v ∈ x::ext:=by
  funext v
  apply propext
  show lv low' v=Dl ↔ _
  rw [hlow]
  split
  ·exact ⟨fun _=> .inr (by assumption),fun _=>rfl⟩
  ·exact ⟨fun h=> .inl h,fun h=>h.elim id fun g=>absurd g (by assumption)⟩
 have hndp:=(List.nodup_append.1 R.inv.nodup).2.1
 obtain ⟨a',h1,h2,h3⟩:=S.part (l:=x::ext) R.ok (by simp) hndp (fun v hv=>by
  obtain ⟨i,hi⟩:=hmem v hv
  have:=R.inv.on i v hi
  exact ⟨this.1,this.2.1,hnd v hv⟩) (fun v hv w hw=>⟨(hed v hv w hw).2.1,hcl v hv w hw⟩) (fun v hv z=>by
  constructor
  ·intro hzl
   exact ⟨(hto v hv).2.trans (hto z hzl).1,(hto z hzl).2.trans (hto v hv).1⟩
  ·rintro ⟨g1,g2⟩
   rcases g1.closed (D:=fun v=>lv low v=Dl∨v ∈ x::ext) (fun v w hv hw=>by
    rcases hv with h | h
    ·exact .inl (R.inv.clo v w h hw)
    ·exact hcl v h w hw) (.inr hv) with h | h
   ·exact absurd (g2.closed (D:=fun v=>lv low v=Dl) (fun v w hv hw=>R.inv.clo v w hv hw) h) (hnd v hv)
   ·exact h)
 refine ⟨a',h1,⟨⟨?_,?_,?_,?_,?_,?_⟩,?_,?_,?_,?_,?_,?_,?_,fun y z h=>h3 y z (R.mono y z h)⟩⟩
 ·rw [hlen']; exact hlen
 ·intro i v hv
  rw [List.append_nil] at hv
  have hns:v ∉ x::ext:=fun h=>R.not_stk S h (List.mem_of_getElem? hv)
  rw [hlow,if_neg hns]
  exact R.inv.on i v (Lg hv _)
 ·intro v g0 g1 hv
  rw [List.append_nil] at hv
  rw [hlow]
  split
  ·exact .inr rfl
  ·rename_i h
   exact R.inv.off v g0 g1 fun g=>(List.mem_append.1 g).elim hv h
 ·rw [List.append_nil]
  exact (List.nodup_append.1 R.inv.nodup).1
 ·intro i v hv
  rw [List.append_nil] at hv ⊢
  have hns:v ∉ x::ext:=fun h=>R.not_stk S h (List.mem_of_getElem? hv)
  obtain ⟨j,u,e1,e2,e3⟩:=R.inv.back i v (Lg hv _)
  have h4:=(R.inv.on i v (Lg hv _)).2.2.2
  have h5:=Kb hv
  refine ⟨j,u,by rw [hlow,if_neg hns]; exact e1,?_,e3⟩
  rw [List.getElem?_append_left (by omega)] at e2
  exact e2
 ·intro v w hv hw
  have hv':Dn low v∨v ∈ x::ext:=by
   have:Dn low' v:=hv
   rwa [hD] at this
  show Dn low' w
  rw [hD]
  rcases hv' with h | h
  ·exact .inl (R.inv.clo v w h hw)
  ·exact hcl v h w hw
 ·intro v hv
  have hns:v ∉ x::ext:=fun h=>by
   rcases List.mem_cons.1 h with h | h
   ·rw [h] at hv; exact hv hz
   ·exact hv (R.fresh v h)
  rw [hlow,if_neg hns]
  exact R.keep v hv
 ·rw [hlow,if_pos (by simp)]; decide
 ·intro v hv; cases hv
 ·intro v hv; cases hv
 ·intro i v hv; simp at hv
 ·intro v hv; cases hv
 ·rw [hD]; exact h2
theorem Qm (hn:n≤100000) (hll: ∀l ∈ ll,l.length≤1073741824): ∀(fuel:Nat) (low stk:List Int) (a:A) (x:Int),Inv ll n low stk→0≤x→x<n→lv low x=0→(∀u ∈ stk,Reach ll n u x)→S.I (Dn low) a→low.count 0≤fuel→
 ∃low' ext a',JB ll n ledA partA fuel (low,stk,a) x=some (low',stk++ext,a')∧U4 S low stk x a low' ext a':=by
 intro fuel
 induction fuel with
 | zero=>
  intro low stk a x H h0 h1 hx _ _ hc
  have hlen:=H.len
  have:=HR (e:=1) h0 (by omega) hx (by decide)
  omega
 | succ f ih=>
  intro low stk a x H h0 h1 hx hr hI hc
  have hlen:=H.len
  have hsz:=H.size
  have hfl:(Ce ll x n).length≤1073741824:=by
   unfold Ce
   split
   ·simp
   ·refine Nat.le_trans (List.length_filter_le _ _) ?_
    cases hg:ll[x.toNat]? with
    | none=>simp
    | some l=>exact hll l (List.mem_of_getElem? hg)
  show ∃low' ext a',Mc ll n ledA partA (JB ll n ledA partA f) (low,stk,a) x=some (low',stk++ext,a')∧_
  unfold Mc
  dsimp only
  rw [QJ (by simp; omega),Option.bind_some,Gi h0 (by omega),Option.bind_some,Ea hll]
  have hst:(((stk++ [x]).length:Nat):Int)=(stk.length:Int) +1:=by simp
  rw [hst]
  have hc1:=HR (e:=(stk.length:Int) +1) h0 (by omega) hx (by omega)
  obtain ⟨st,e1,low1,ext1,a1,rfl,R,hc2⟩:=CA (f:=fun i st=>(idx (Ce ll x n) i).bind fun to=>toD ledA (JB ll n ledA partA f) x to st) (n:=(Ce ll x n).length)
   (fun k st=> ∃low1 ext1 a1,st=((low1,stk++x::ext1,a1):DE A)∧Dd S low stk x a ((Ce ll x n).take k) (lv low1 x) low1 ext1 a1∧low1.count 0≤f) (by omega) (s:=((low.set x.toNat ((stk.length:Int) +1),stk++ [x],a):DE A))
   ⟨_, [],a,rfl,by rw [List.take_zero]; exact Dd.begin S hn H h0 h1 hx hI,by omega⟩ (fun k st hk ⟨low1,ext1,a1,e,R,hc2⟩=>by
    subst e
    have hto:=List.getElem_mem hk
    obtain ⟨t0,t1⟩:=Hu hto
    have hl1:=R.inv.len
    rw [E0 hk,Option.bind_some,List.take_succ_eq_append_getElem hk]
    generalize (Ce ll x n)[k] =to at *
    unfold toD
    dsimp only
    rw [Lf t0 (by omega),Option.bind_some]
    have mid: ∃low2 ext2 a2,(cond (lv low1 to==0) (JB ll n ledA partA f (low1,stk++x::ext1,a1) to) (some (low1,stk++x::ext1,a1)))=some (low2,stk++x::ext2,a2)∧Dd S low stk x a ((Ce ll x n).take k) (lv low2 to) low2 ext2 a2∧lv low2 to ≠ 0∧low2.count 0≤f:=by
     by_cases hz:lv low1 to=0
     ·rw [show (lv low1 to==0)=true by simp [hz],cond_true]
      obtain ⟨low2,ext2,a2,g1,g2⟩:=ih low1 (stk++x::ext1) a1 to R.inv t0 t1 hz (fun u hu=>by
       obtain ⟨i,hi⟩:=List.getElem?_of_mem hu
       exact (R.all S hr i u hi).trans (.one hto)) R.ok hc2
      refine ⟨low2,ext1++ext2,a2,by rw [g1,List.append_assoc,List.cons_append],R.child S hto hz g2,g2.seen,?_⟩
      have hl2:=g2.inv.len
      exact Nat.le_trans (Pc (by omega) fun v hv=>by rw [g2.keep v hv]; exact hv) hc2
     ·rw [show (lv low1 to==0)=false by simp [hz],cond_false]
      exact ⟨low1,ext1,a1,rfl,⟨R.inv,R.keep,R.fresh,R.reach,fun i v hv=>⟨.inl ((R.strict i v hv).1.elim id id),(R.strict i v hv).2⟩,R.edges,R.own,R.ok,R.mono⟩,hz,hc2⟩
    obtain ⟨low2,ext2,a2,g1,R2,hne,hc3⟩:=mid
    have hl2:=R2.inv.len
    have hx2:=R2.x_on
    rw [g1]
    simp only [Option.bind_some]
    rw [Lf h0 (by omega),Option.bind_some,Lf t0 (by omega),Option.bind_some,Gi h0 (by omega),Option.bind_some]
    obtain ⟨a3,g3,R3⟩:=R2.upd S hn hr hx hto hne
    refine ⟨_,by rw [g3]; rfl,_,ext2,a3,rfl,R3,?_⟩
    refine Nat.le_trans (Pc (by simp) fun v hv=> ?_) hc3
    rw [OY h0 (by omega)]
    split
    ·have:1≤lv low2 to:=by
      by_cases hM:lv low2 to=Dl
      ·rw [hM]; decide
      ·obtain ⟨i,hi⟩:=R2.inv.mem hn t0 t1 hne hM
       exact (R2.inv.on i to hi).2.2.1
     split<;>omega
    ·exact hv)
  rw [List.take_length] at R
  have hl1:=R.inv.len
  have hs1:=R.inv.size
  have hxo:=R.x_on
  rw [e1,Option.bind_some]
  unfold S5
  dsimp only
  rw [Lf h0 (by omega),Option.bind_some,hst]
  by_cases hd:lv low1 x=(stk.length:Int) +1
  ·rw [show (lv low1 x !=(stk.length:Int) +1)=false by simp [hd],cond_false]
   have hsn:(stk++ [x]).length=stk.length+1:=by simp
   rw [hsn,Ea ⟨by omega,by simp,by omega⟩]
   have hdr:(stk++x::ext1).drop (stk.length+1 - 1)=x::ext1:=by simp
   have htk:(stk++x::ext1).take (stk.length+1 - 1)=stk:=by simp
   rw [hdr,htk]
   obtain ⟨low2,g1,g2,g3⟩:=U5 (low:=low1) (x::ext1) (fun v hv=>by
    obtain ⟨i,hi⟩:=List.getElem?_of_mem (List.mem_append_right stk hv)
    have:=R.inv.on i v hi
    exact ⟨this.1,by omega⟩) (by rw [List.length_append] at hs1; omega)
   obtain ⟨a2,g4,g5⟩:=R.pop S hn hr hx hd g2 g3
   exact ⟨low2, [],a2,by rw [g1,Option.bind_some,g4,List.append_nil]; rfl,g5⟩
  ·rw [show (lv low1 x !=(stk.length:Int) +1)=true by simp [hd],cond_true]
   exact ⟨low1,x::ext1,a1,rfl,R.stay S hx hd⟩
end
section
variable {ll:List (List Int)} {n:Int} {A:Type} {ledA:A→Int→Int→Option A} {partA:A→List Int→Option A} (S:WN ll n ledA partA)
theorem SL (h0:0≤n) (hn:n≤100000) (hll: ∀l ∈ ll,l.length≤1073741824) {a:A} (hI:S.I (fun _=>False) a) {fuel:Nat} (hf:n.toNat≤fuel): ∃st',Nb ll n ledA partA fuel a=some st'∧S.I (fun v=>0≤v∧v<n) st'.2.2:=by
 unfold Nb
 rw [Ea ⟨h0,by omega⟩]
 have hrep: ∀v,lv (List.replicate n.toNat (0:Int)) v=0:=fun v=>by
  unfold lv idx
  split
  ·rw [List.getElem?_replicate]
   split<;>rfl
  ·rfl
 have hn':n=((n.toNat:Nat):Int):=by omega
 have hloop:=CA (f:=fun i (st:DE A)=>(idx st.1 i).bind fun e=>cond (e==0) (JB ll n ledA partA fuel st i) (some st)) (n:=n.toNat)
  (fun k st=> ∃low a',st=(low, [],a')∧Inv ll n low [] ∧(∀v:Int,0≤v→v<k→lv low v ≠ 0)∧S.I (Dn low) a') (by omega) (s:=(List.replicate n.toNat (0:Int), [],a))
  ⟨_,_,rfl,⟨by simp; omega,fun i v hv=>by simp at hv,fun v _ _ _=> .inl (hrep v), .nil,fun i v hv=>by simp at hv,fun v w hv=>by rw [hrep] at hv; simp [Dl] at hv⟩,fun v g0 g1=>by omega,by
   have:Dn (List.replicate n.toNat (0:Int))=fun _=>False:=by
    funext v
    apply propext
    show lv _ v=Dl ↔ False
    rw [hrep]
    exact ⟨fun h=>(by simp [Dl] at h),fun h=>h.elim⟩
   rw [this]; exact hI⟩ (fun k st hk ⟨low,a1,e,H,hseen,hok⟩=>by
    subst e
    have hlen:=H.len
    dsimp only
    rw [Lf (by omega) (by omega),Option.bind_some]
    by_cases hz:lv low (k:Int)=0
    ·rw [show (lv low (k:Int)==0)=true by simp [hz],cond_true]
     have hcl:low.count 0≤low.length:=List.count_le_length
     obtain ⟨low',ext,a2,g1,Po⟩:=Qm S hn hll fuel low [] a1 k H (by omega) (by omega) hz (fun u hu=>by cases hu) hok (by omega)
     have hext:ext= [] :=by
      cases ext with
      | nil=>rfl
      | cons v r=>
       have h1:=(Po.strict 0 v rfl).2
       have h2:=(Po.inv.on 0 v rfl).2.2.1
       simp at h1
       omega
     subst hext
     refine ⟨_,g1,low',a2,rfl,Po.inv,fun v g0 g2=> ?_,Po.ok⟩
     by_cases hv:v=(k:Int)
     ·subst hv; exact Po.seen
     ·have:=hseen v g0 (by omega)
      rw [Po.keep v this]; exact this
    ·rw [show (lv low (k:Int)==0)=false by simp [hz],cond_false]
     refine ⟨_,rfl,low,a1,rfl,H,fun v g0 g2=> ?_,hok⟩
     by_cases hv:v=(k:Int)
     ·subst hv; exact hz
     ·exact hseen v g0 (by omega))
 rw [← hn'] at hloop
 obtain ⟨st',e1,low,a',rfl,H,hseen,hok⟩:=hloop
 refine ⟨_,e1,?_⟩
 have hlen:=H.len
 have:Dn low=fun v=>0≤v∧v<n:=by
  funext v
  apply propext
  show lv low v=Dl ↔ _
  constructor
  ·intro h
   rcases Int.lt_or_le v 0 with g | g
   ·rw [T0 (.inl g)] at h; cases h
   ·refine ⟨g,?_⟩
    rcases Int.lt_or_le v n with g' | g'
    ·exact g'
    ·rw [T0 (.inr (by omega))] at h; cases h
  ·rintro ⟨g0,g1⟩
   rcases H.off v g0 g1 (by simp) with h | h
   ·exact absurd h (hseen v g0 (by omega))
   ·exact h
 rw [← this]
 exact hok
end
def gv (a:List AW) (v:Int):AW:=(idx a v).getD (0, [])
theorem OZ {a:List AW} {v:Int} (h0:0≤v) (h1:v< (a.length:Int)):idx a v=some (gv a v):=by
 have:idx a v=some a[v.toNat] :=JZ h0 (by omega)
 unfold gv
 rw [this]; rfl
theorem T1 {a:List AW} {x:Int} {s:AW} (h0:0≤x) (h1:x< (a.length:Int)) (v:Int):gv (a.set x.toNat s) v=if v=x then s else gv a v:=by
 by_cases hv:v=x
 ·subst hv
  rw [if_pos rfl]
  unfold gv idx
  rw [if_pos h0,List.getElem?_set,if_pos rfl,if_pos (by omega)]
  rfl
 ·rw [if_neg hv]
  unfold gv idx
  split
  ·rw [List.getElem?_set,if_neg (by omega)]
  ·rfl
section
variable (ll:List (List Int)) (n wide:Int) (B:List AW)
def KN (v j:Int):Prop:= ∃z,Reach ll n v z∧mem (gv B z) j=true
structure JK (a:List AW):Prop where
 len:(a.length:Int)=n
 ok: ∀v,0≤v→v<n→OkS (gv a v)∧(gv a v).1=wide
 base: ∀v j,0≤v→v<n→mem (gv B v) j=true→mem (gv a v) j=true
 sound: ∀v j,0≤v→v<n→mem (gv a v) j=true→KN ll n B v j
variable {ll n wide B}
theorem KN.back {v w j:Int} (h:Reach ll n v w) (k:KN ll n B w j):KN ll n B v j:=by
 obtain ⟨z,h1,h2⟩:=k
 exact ⟨z,h.trans h1,h2⟩
theorem U6 {a:List AW} (H:JK ll n wide B a) {v j:Int} (h0:0≤v) (h1:v<n) (h:mem (gv a v) j=true):j<wide:=by
 obtain ⟨k1,k2⟩:=H.ok v h0 h1
 have:=(LV k1 h).2
 omega
theorem JK.led {a:List AW} (H:JK ll n wide B a) {x to:Int} (h0:0≤x) (h1:x<n) (t0:0≤to) (t1:to<n) (hr:Reach ll n x to): ∃a',Mj a x to=some a'∧JK ll n wide B a'∧(∀v,v ≠ x→gv a' v=gv a v)∧(∀j,mem (gv a' x) j=(mem (gv a x) j || mem (gv a to) j)):=by
 have hlen:=H.len
 obtain ⟨kx,wx⟩:=H.ok x h0 h1
 obtain ⟨kt,wt⟩:=H.ok to t0 t1
 obtain ⟨u1,u2,u3⟩:=K6 kx kt
 have hs:=fun v=>T1 (a:=a) (x:=x) (s:=BB (gv a x) (gv a to)) h0 (by omega) v
 have hm: ∀j,mem (BB (gv a x) (gv a to)) j=(mem (gv a x) j || mem (gv a to) j):=fun j=>by
  rw [u3]
  by_cases h:mem (gv a to) j=true
  ·have:=U6 H t0 t1 h
   rw [decide_eq_true (by omega),Bool.and_true]
  ·rw [Bool.not_eq_true] at h
   rw [h]; rfl
 refine ⟨a.set x.toNat (BB (gv a x) (gv a to)),?_,⟨by rw [List.length_set]; exact hlen,?_,?_,?_⟩,fun v hv=>by rw [hs,if_neg hv],fun j=>by rw [hs,if_pos rfl,hm]⟩
 ·unfold Mj
  rw [OZ h0 (by omega),Option.bind_some,OZ t0 (by omega),Option.bind_some,Ea ⟨kx,kt⟩,Gi h0 (by omega)]
 ·intro v g0 g1
  rw [hs]
  split
  ·exact ⟨u1,by rw [u2,wx]⟩
  ·exact H.ok v g0 g1
 ·intro v j g0 g1 h
  rw [hs]
  split
  ·rename_i e
   subst e
   rw [hm,H.base v j g0 g1 h]; rfl
  ·exact H.base v j g0 g1 h
 ·intro v j g0 g1 h
  rw [hs] at h
  split at h
  ·rename_i e
   subst e
   rw [hm,Bool.or_eq_true] at h
   rcases h with h | h
   ·exact H.sound v j g0 g1 h
   ·exact (H.sound to j t0 t1 h).back hr
  ·exact H.sound v j g0 g1 h
theorem U7 {s:AW} (H:OkS s):CM s=some s:=by
 unfold CM cloneD
 have h1:=H.len
 have h2:=H.hi
 rw [if_pos (by omega)]
 rfl
theorem JK.part {a:List AW} (H:JK ll n wide B a) {l0:Int} {l:List Int} (hin: ∀v ∈ l0::l,0≤v∧v<n) (hnd:(l0::l).Nodup) (hb:l.length≤100000) (hr: ∀v ∈ l0::l,∀w ∈ l0::l,Reach ll n v w):
 ∃a',L4 a (l0::l)=some a'∧JK ll n wide B a'∧(∀v,v ∉ l0::l→gv a' v=gv a v)∧ ∀v ∈ l0::l,∀w ∈ l0::l,∀j,mem (gv a w) j=true→mem (gv a' v) j=true:=by
 have i0:=hin l0 (by simp)
 have hnl:l0 ∉ l:=(List.nodup_cons.1 hnd).1
 obtain ⟨a1,e1,H1,o1,m1,n1⟩:=CA (f:=fun i (a:List AW)=>(idx l i).bind fun y=>Mj a l0 y) (n:=l.length)
  (fun k b=>JK ll n wide B b∧(∀v,v ≠ l0→gv b v=gv a v)∧(∀j,mem (gv a l0) j=true→mem (gv b l0) j=true)∧ ∀w ∈ l.take k,∀j,mem (gv a w) j=true→mem (gv b l0) j=true) (by omega) (s:=a)
  ⟨H,fun _ _=>rfl,fun _ h=>h,fun w hw=>by simp at hw⟩ (fun k b hk ⟨Hb,ob,mb,nb⟩=>by
   have hy:l[k] ∈ l:=List.getElem_mem hk
   obtain ⟨y0,y1⟩:=hin _ (List.mem_cons_of_mem _ hy)
   obtain ⟨b',g1,g2,g3,g4⟩:=Hb.led i0.1 i0.2 y0 y1 (hr _ (by simp) _ (List.mem_cons_of_mem _ hy))
   refine ⟨b',by rw [E0 hk]; exact g1,g2,fun v hv=>(g3 v hv).trans (ob v hv),fun j h=>by rw [g4,mb j h]; rfl,fun w hw j h=> ?_⟩
   rw [List.take_succ_eq_append_getElem hk] at hw
   rw [g4]
   rcases List.mem_append.1 hw with hw | hw
   ·rw [nb w hw j h]; rfl
   ·have hw:=List.mem_singleton.1 hw
    rw [hw] at h
    have h2:=ob l[k] (fun e=>hnl (by rw [← e]; exact hy))
    rw [h2,h,Bool.or_true])
 rw [List.take_length] at n1
 have hl1:=H1.len
 have k1:=H1.ok l0 i0.1 i0.2
 obtain ⟨a2,e2,H2,o2,m2⟩:=CA (f:=fun i (a:List AW)=>(idx l i).bind fun y=>(idx a l0).bind fun s=>(CM s).bind fun s=>Dq a y s) (n:=l.length)
  (fun k b=>JK ll n wide B b∧(∀v,v ∉ l.take k→gv b v=gv a1 v)∧ ∀v ∈ l.take k,gv b v=gv a1 l0) (by omega) (s:=a1)
  ⟨H1,fun _ _=>rfl,fun w hw=>by simp at hw⟩ (fun k b hk ⟨Hb,ob,mb⟩=>by
   have hy:l[k] ∈ l:=List.getElem_mem hk
   have hlb:=Hb.len
   obtain ⟨y0,y1⟩:=hin _ (List.mem_cons_of_mem _ hy)
   have hb0:gv b l0=gv a1 l0:=ob l0 fun h=>hnl (List.mem_of_mem_take h)
   have hs:=fun v=>T1 (a:=b) (x:=l[k]) (s:=gv a1 l0) y0 (by omega) v
   refine ⟨b.set (l[k]).toNat (gv a1 l0),?_,⟨by rw [List.length_set]; exact hlb,?_,?_,?_⟩,?_,?_⟩
   ·rw [E0 hk,Option.bind_some,OZ i0.1 (by omega),Option.bind_some,hb0,U7 k1.1,Option.bind_some,Gi y0 (by omega)]
   ·intro v g0 g1
    rw [hs]
    split
    ·exact k1
    ·exact Hb.ok v g0 g1
   ·intro v j g0 g1 h
    rw [hs]
    split
    ·rename_i e
     subst e
     exact n1 _ hy j (H.base _ j g0 g1 h)
    ·exact Hb.base v j g0 g1 h
   ·intro v j g0 g1 h
    rw [hs] at h
    split at h
    ·rename_i e
     subst e
     exact (H1.sound l0 j i0.1 i0.2 h).back (hr _ (List.mem_cons_of_mem _ hy) _ (by simp))
    ·exact Hb.sound v j g0 g1 h
   ·intro v hv
    rw [List.take_succ_eq_append_getElem hk] at hv
    have h1:v ∉ l.take k:=fun h=>hv (List.mem_append_left _ h)
    have h2:v ≠ l[k] :=fun h=>hv (List.mem_append_right _ (List.mem_singleton.2 h))
    rw [hs,if_neg h2]
    exact ob v h1
   ·intro v hv
    rw [List.take_succ_eq_append_getElem hk] at hv
    rw [hs]
    split
    ·rfl
    ·rename_i h2
     rcases List.mem_append.1 hv with h | h
     ·exact mb v h
     ·exact absurd (List.mem_singleton.1 h) h2)
 rw [List.take_length] at o2 m2
 refine ⟨a2,?_,H2,fun v hv=> ?_,fun v hv w hw j h=> ?_⟩
 ·unfold L4
  rw [show idx (l0::l) 0=some l0 from rfl,Option.bind_some,show (l0::l).drop 1=l from rfl,e1,Option.bind_some,e2]
 ·rw [List.mem_cons,not_or] at hv
  rw [o2 v hv.2,o1 v hv.1]
 ·have hv':gv a2 v=gv a1 l0:=by
   rcases List.mem_cons.1 hv with e | e
   ·rw [e]; exact o2 l0 hnl
   ·exact m2 v e
  rw [hv']
  rcases List.mem_cons.1 hw with e | e
  ·subst e; exact m1 j h
  ·exact n1 w e j h
def SM (hn:n≤100000):WN ll n Mj L4 where
 I D a:=JK ll n wide B a∧ ∀v,D v→0≤v→v<n→ ∀j,KN ll n B v j→mem (gv a v) j=true
 Q a y z:= ¬Reach ll n z y→ ∀j,KN ll n B z j→mem (gv a y) j=true
 led:=by
  rintro D a x to ⟨H,hD⟩ h0 h1 hto hr hx
  obtain ⟨t0,t1⟩:=Hu hto
  obtain ⟨a',e,H',o,m⟩:=H.led h0 h1 t0 t1 (.one hto)
  have grow: ∀v j,mem (gv a v) j=true→mem (gv a' v) j=true:=fun v j h=>by
   by_cases hv:v=x
   ·subst hv; rw [m,h]; rfl
   ·rw [o v hv]; exact h
  refine ⟨a',e,⟨H',fun v hv g0 g1 j hj=>grow v j (hD v hv g0 g1 j hj)⟩,fun hnr j hj=> ?_,fun y z h hnr j hj=>grow y j (h hnr j hj)⟩
  rcases hr with g | g
  ·rw [m,hD to g t0 t1 j hj,Bool.or_true]
  ·exact absurd g hnr
 part:=by
  rintro D a l ⟨H,hD⟩ hne hnd hin hq hscc
  obtain ⟨l0,l',rfl⟩: ∃l0 l',l=l0::l':=by
   cases l with
   | nil=>exact absurd rfl hne
   | cons a l=>exact ⟨a,l,rfl⟩
  have hlen:(l0::l').length≤100000:=by
   have h:=List.Nodup.length_le_of_subset (l₂:=(List.range n.toNat).map fun k:Nat=>(k:Int)) hnd (fun v hv=>by
    have:=hin v hv
    exact List.mem_map.2 ⟨v.toNat,List.mem_range.2 (by omega),by omega⟩)
   simp at h ⊢
   omega
  obtain ⟨a',e,H',o,m⟩:=H.part (fun v hv=>⟨(hin v hv).1,(hin v hv).2.1⟩) hnd (by simp at hlen; omega) (fun v hv w hw=>((hscc v hv w).1 hw).1)
  have grow: ∀v j,mem (gv a v) j=true→mem (gv a' v) j=true:=fun v j h=>by
   by_cases hv:v ∈ l0::l'
   ·exact m v hv v hv j h
   ·rw [o v hv]; exact h
  have key: ∀ {y z:Int},Reach ll n y z→ ∀j,mem (gv B z) j=true→y ∈ l0::l'→ ∃w ∈ l0::l',mem (gv a w) j=true:=fun {y z} hr j hj=>by
   induction hr with
   | refl y=>
    intro hy
    exact ⟨y,hy,H.base y j (hin y hy).1 (hin y hy).2.1 hj⟩
   | @step y w z he hr ih=>
    intro hy
    by_cases hw:w ∈ l0::l'
    ·exact ih hj hw
    ·refine ⟨y,hy,(hq y hy w he).1 (fun hwy=>hw ((hscc y hy w).2 ⟨.one he,hwy⟩)) j ⟨z,hr,hj⟩⟩
  refine ⟨a',e,⟨H',fun v hv g0 g1 j hj=> ?_⟩,fun y z h hnr j hj=>grow y j (h hnr j hj)⟩
  rcases hv with hv | hv
  ·exact grow v j (hD v hv g0 g1 j hj)
  ·obtain ⟨z,hz1,hz2⟩:=hj
   obtain ⟨w,hw,hm⟩:=key hz1 j hz2 hv
   exact m v hv w hw j hm
end
theorem Jh {α:Type} {f:Int→List α→Option (List α)} {n:Nat} (hn:n≤9223372036854775807) (P:Nat→α→Prop) (hs: ∀(k:Nat) (acc:List α),k<n→acc.length=k→ ∃x,f (k:Int) acc=some (acc++ [x])∧P k x):
 ∃r,forS 0 (n:Int) ([] :List α) f=some r∧r.length=n∧ ∀(k:Nat) (x:α),r[k]? =some x→P k x:=by
 obtain ⟨r,h1,h2,h3⟩:=CA (f:=f) (n:=n) (fun k acc=>acc.length=k∧ ∀(j:Nat) (x:α),acc[j]? =some x→P j x) hn (s:= []) ⟨rfl,fun j x h=>by simp at h⟩ (fun k acc hk ⟨g1,g2⟩=>by
  obtain ⟨x,e1,e2⟩:=hs k acc hk g1
  refine ⟨_,e1,by simp [g1],fun j y hj=> ?_⟩
  rcases Nat.lt_trichotomy j acc.length with g | g | g
  ·rw [List.getElem?_append_left g] at hj; exact g2 j y hj
  ·subst g
   rw [List.getElem?_append_right (Nat.le_refl _),Nat.sub_self] at hj
   cases hj
   rw [g1]; exact e2
  ·rw [List.getElem?_eq_none (by simp; omega)] at hj; cases hj)
 exact ⟨r,h1,h2,h3⟩
theorem U8 {α:Type} {l:List α} (h:l.length<1073741824) (x:α):app l [x] =some (l++ [x]):=QJ (by simp; omega)
theorem T2 {l:List Int} (h:l.length≤9223372036854775807) (x:Int):Bw l x=some (decide (x ∈ l)):=by
 unfold Bw
 rcases Kt (f:=fun i_z2 (z2:Unit)=>(idx l i_z2).bind fun e23=>cond (e23==x) (some (AU.done true)) (some (AU.next ()))) (fun k _=>x ∉ l.take k) (fun b=>b=true∧x ∈ l) h (s:=()) (by simp) (fun k s hk hI=>by
  rw [E0 hk,Option.bind_some]
  by_cases e:l[k] =x
  ·rw [show (l[k] ==x)=true by simp [e]]
   exact .inr ⟨true,rfl,rfl,by rw [← e]; exact List.getElem_mem hk⟩
  ·rw [show (l[k] ==x)=false by simp [e]]
   refine .inl ⟨(),rfl,?_⟩
   rw [List.take_succ_eq_append_getElem hk]
   intro hm
   rcases List.mem_append.1 hm with g | g
   ·exact hI g
   ·exact e (List.mem_singleton.1 g).symm) with ⟨s,e,hI⟩ | ⟨b,e,rfl,hx⟩
 ·rw [List.take_length] at hI
  rw [e,decide_eq_false hI]; rfl
 ·rw [e,decide_eq_true hx]; rfl
theorem JH {l:List Int} (h:l.length≤9223372036854775807) (x:Int):Do l x=some (decide (x ∈ l)):=by
 unfold Do Ed
 rcases Kt (f:=fun i_z2 (z2:Unit)=>(idx l i_z2).bind fun e23=>cond (x==e23) (some (AU.done i_z2)) (some (AU.next ()))) (fun k _=>x ∉ l.take k) (fun (b:Int)=>0≤b∧x ∈ l) h (s:=()) (by simp) (fun k s hk hI=>by
  rw [E0 hk,Option.bind_some]
  by_cases e:x=l[k]
  ·rw [show (x==l[k])=true by simp [e]]
   exact .inr ⟨(k:Int),rfl,by omega,by rw [e]; exact List.getElem_mem hk⟩
  ·rw [show (x==l[k])=false by simp [e]]
   refine .inl ⟨(),rfl,?_⟩
   rw [List.take_succ_eq_append_getElem hk]
   intro hm
   rcases List.mem_append.1 hm with g | g
   ·exact hI g
   ·exact e (List.mem_singleton.1 g)) with ⟨s,e,hI⟩ | ⟨b,e,hb,hx⟩
 ·rw [List.take_length] at hI
  rw [e,decide_eq_false hI]; rfl
 ·rw [e,decide_eq_true hx]
  show some (decide (b≥0))=_
  rw [decide_eq_true (show b≥0 from hb)]
structure Few (ll base:List (List Int)):Prop where
 e:ll.length≤25
 b:base.length≤25
 el: ∀l ∈ ll,l.length≤10
 bl: ∀l ∈ base,l.length≤10
theorem Lh (s:AW):(DN s).length≤64 * s.2.length:=Nc _ _
theorem L8 {s:AW} (H:OkS s):(DN s).length≤1073741824:=by
 have h1:=Lh s
 have h2:=H.len
 have h3:=H.hi
 omega
theorem Oa {n:Int} (h0:0≤n) (h1:n≤1000):Jz n=n:=by unfold Jz; rw [if_neg (by omega),if_neg (by omega)]
def bz (base:List (List Int)) (z:Int):List Int:=(idx base z).getD []
theorem RQ {a:List AW} {k:Nat} {s:AW} (h:a[k]? =some s):gv a (k:Int)=s:=by
 unfold gv
 rw [Cw,h]; rfl
theorem Pd {ll:List (List Int)} {B:List AW} {wide:Int} (h0:0≤wide) (h1:wide≤1000) (hb:B.length≤100000) (hll: ∀l ∈ ll,l.length≤1073741824) (hB: ∀(k:Nat) (s:AW),B[k]? =some s→OkS s∧s.1=wide):
 ∃r,G1 ll B=some r∧r.length=B.length∧ ∀(k:Nat) (s:AW),r[k]? =some s→OkS s∧s.1=wide∧ ∀j,mem s j=true ↔ KN ll (B.length:Int) B k j:=by
 unfold G1
 have hget: ∀k (hk:k<B.length),OkS B[k] ∧B[k].1=wide:=fun k hk=>hB k _ (List.getElem?_eq_getElem hk)
 have hgv: ∀v:Int,0≤v→v< (B.length:Int)→OkS (gv B v)∧(gv B v).1=wide:=fun v g0 g1=>by
  have:=hget v.toNat (by omega)
  rw [← RQ (List.getElem?_eq_getElem (show v.toNat<B.length by omega)),Int.toNat_of_nonneg g0] at this
  exact this
 obtain ⟨w,ew,hw⟩:=CA (f:=fun i (w:Int)=>(idx B i).bind fun s=>some (if s.1>w then s.1 else w)) (n:=B.length) (fun k (w:Int)=>0≤w∧w≤wide∧(0<k→w=wide)) (by omega) (s:=0) ⟨by omega,by omega,by omega⟩ (fun k w hk ⟨g0,g1,g2⟩=>by
  rw [E0 hk,Option.bind_some,(hget k hk).2]
  refine ⟨_,rfl,?_⟩
  split
  ·exact ⟨by omega,by omega,fun _=>rfl⟩
  ·exact ⟨by omega,by omega,by omega⟩)
 rw [ew,Option.bind_some]
 obtain ⟨all,ea,la,pa⟩:=Jh (f:=fun i (acc:List AW)=>(idx B i).bind fun s=>(IG s).bind fun l=>(CZ w l).bind fun s'=>app acc [s']) (n:=B.length) (by omega) (fun k s=>OkS s∧s.1=wide∧ ∀j,mem s j=mem (gv B k) j) (fun k acc hk ha=>by
  have hk':=hget k hk
  have hwe:w=wide:=hw.2.2 (by omega)
  rw [E0 hk,Option.bind_some,JC hk'.1,Option.bind_some]
  obtain ⟨s,e,g1,g2,g3⟩:=of_ok w (DN B[k]) (by have:=L8 hk'.1; omega)
  rw [hwe,Oa h0 h1] at g2 g3
  refine ⟨s,by rw [e,Option.bind_some,U8 (by omega)],g1,g2,fun j=> ?_⟩
  rw [g3,RQ (List.getElem?_eq_getElem hk)]
  by_cases hm:mem B[k] j=true
  ·have h2:=LV hk'.1 hm
   rw [hk'.2] at h2
   rw [decide_eq_true h2,hm,Bool.true_and]
   exact List.contains_iff_mem.2 ((EK hk'.1 j).2 hm)
  ·have hn:(DN B[k]).contains j=false:=by
    rw [Bool.eq_false_iff]
    intro hc
    exact hm ((EK hk'.1 j).1 (List.contains_iff_mem.1 hc))
   rw [hn,Bool.and_false]
   rw [Bool.not_eq_true] at hm
   exact hm.symm)
 rw [ea,Option.bind_some]
 have hall: ∀v:Int,0≤v→v< (B.length:Int)→OkS (gv all v)∧(gv all v).1=wide∧ ∀j,mem (gv all v) j=mem (gv B v) j:=fun v g0 g1=>by
  have hlt:v.toNat<all.length:=by omega
  have:=pa v.toNat _ (List.getElem?_eq_getElem hlt)
  rw [← RQ (List.getElem?_eq_getElem hlt),Int.toNat_of_nonneg g0] at this
  exact this
 have hS:JK ll (B.length:Int) wide B all:=⟨by omega,fun v g0 g1=>⟨(hall v g0 g1).1,(hall v g0 g1).2.1⟩,fun v j g0 g1 h=>by rw [(hall v g0 g1).2.2]; exact h,fun v j g0 g1 h=>⟨v, .refl _,by rw [← (hall v g0 g1).2.2]; exact h⟩⟩
 obtain ⟨⟨low,stk,fin⟩,est,hI,hD⟩:=SL (SM (ll:=ll) (n:=(B.length:Int)) (wide:=wide) (B:=B) (by omega)) (by omega) (by omega) hll (a:=all) ⟨hS,fun v hv=>hv.elim⟩ (fuel:=B.length) (by omega)
 dsimp only at hI hD
 have hfin: ∀v:Int,0≤v→v< (B.length:Int)→ ∀j,mem (gv fin v) j=true ↔ KN ll (B.length:Int) B v j:=fun v g0 g1 j=>⟨hI.sound v j g0 g1,hD v ⟨g0,g1⟩ g0 g1 j⟩
 rw [est,Option.bind_some]
 have lf:=hI.len
 refine Jh (by omega) (fun k s=>OkS s∧s.1=wide∧ ∀j,mem s j=true ↔ KN ll (B.length:Int) B k j) fun k acc hk ha=> ?_
 have hk':=hget k hk
 obtain ⟨f1,f2⟩:=hI.ok (k:Int) (by omega) (by omega)
 dsimp only
 rw [E0 hk,Option.bind_some,OZ (by omega) (by omega),Option.bind_some,JC f1,Option.bind_some,hk'.2]
 obtain ⟨s,e,g1,g2,g3⟩:=of_ok wide (DN (gv fin (k:Int))) (by have:=L8 f1; omega)
 rw [Oa h0 h1] at g2 g3
 refine ⟨s,by rw [e,Option.bind_some,U8 (by omega)],g1,g2,fun j=> ?_⟩
 rw [g3,← hfin (k:Int) (by omega) (by omega)]
 constructor
 ·intro h
  rw [Bool.and_eq_true] at h
  exact (EK f1 j).1 (List.contains_iff_mem.1 h.2)
 ·intro h
  have h2:=LV f1 h
  rw [f2] at h2
  rw [decide_eq_true h2,Bool.true_and]
  exact List.contains_iff_mem.2 ((EK f1 j).2 h)
def NN (ll base:List (List Int)) (wide i j:Int):Prop:=0≤j∧j<wide∧ ∃z,Reach ll (base.length:Int) i z∧j ∈ bz base z
end Go.Proofs.YteolcjbobmpdiaaGreatDoor.Dg
namespace Go.Proofs.YteolcjbobmpdiaaGreatDoor
open Go Go.Eng Dg
set_option linter.unusedVariables false
set_option maxRecDepth 100000
structure Sy (p:dtP):Prop where
 t1:1≤p.1.length∧p.1.length≤1000
 v1:p.2.1.length≤1000
 few:p.2.2.1.length≤1000
 left: ∀r ∈ p.2.2.1,nT p≤r.1∧r.1≤nT p+((p.2.1.length:Nat):Int)
 right: ∀r ∈ p.2.2.1,∀s ∈ r.2.1,0≤s∧s<nT p+((p.2.1.length:Nat):Int)
 short: ∀r ∈ p.2.2.1,r.2.1.length≤1000
theorem Nq {α:Type} {p q:α→Bool} : ∀ {l:List α},(∀x ∈ l,p x=true→q x=true)→l.countP p≤l.countP q:=by
 intro l
 induction l with
 | nil=>intro _; simp
 | cons a l ih=>
  intro h
  have h1:=ih fun x hx=>h x (List.mem_cons_of_mem _ hx)
  have h2:=h a List.mem_cons_self
  rw [List.countP_cons,List.countP_cons]
  cases hp:p a with
  | false=>simp; omega
  | true=>rw [h2 hp]; simp; omega
theorem SN {α:Type} {p q:α→Bool} : ∀ {l:List α},(∀x ∈ l,p x=true→q x=true)→(∃x ∈ l,q x=true∧p x=false)→l.countP p<l.countP q:=by
 intro l
 induction l with
 | nil=>rintro _ ⟨x,hx,_⟩; cases hx
 | cons a l ih=>
  rintro h ⟨x,hx,h1,h2⟩
  have h3:=Nq (l:=l) fun x hx=>h x (List.mem_cons_of_mem _ hx)
  have h4:=h a List.mem_cons_self
  rw [List.countP_cons,List.countP_cons]
  rcases List.mem_cons.1 hx with rfl | hx
  ·rw [h1,h2]; simp; omega
  ·have h5:=ih (fun x hx=>h x (List.mem_cons_of_mem _ hx)) ⟨x,hx,h1,h2⟩
   cases hp:p a with
   | false=>simp; omega
   | true=>rw [h4 hp]; simp; omega
def card (s:AW):Nat:=(List.range 1000).countP fun k:Nat=>mem s (k:Int)
theorem U9 (s:AW):card s≤1000:=by
 unfold card
 have:=List.countP_le_length (p:=fun k:Nat=>mem s (k:Int)) (l:=List.range 1000)
 rwa [List.length_range] at this
theorem VA: ∀(l:List Int) {s:AW} {g:Bool},OkS s→(∀i ∈ l,0≤i)→(l.foldl Dg.stepG (s,false,g)).2.2=true→g=true∨ ∃i ∈ l,i<s.1∧mem s i=false:=by
 intro l
 induction l with
 | nil=>intro s g _ _ h; exact .inl h
 | cons i l ih=>
  intro s g H h0 h
  rw [List.foldl_cons] at h
  by_cases hi:s.1≤i
  ·have e:Dg.stepG (s,false,g) i=(s,true,g):=by unfold Dg.stepG; rw [if_neg (by simp),if_pos hi]
   rw [e,TN l rfl] at h
   exact .inl h
  ·obtain ⟨s',hd,h1,h2,h3⟩:=Dg.add_ok H i
   have e:Dg.stepG (s,false,g) i=(s',false,(decide (0≤i∧i<s.1) && !mem s i) || g):=by unfold Dg.stepG; rw [if_neg (by simp),if_neg hi,hd]; rfl
   rw [e] at h
   have hi0:=h0 i (by simp)
   rcases ih h1 (fun i hi=>h0 i (List.mem_cons_of_mem _ hi)) h with g1 | ⟨j,j1,j2,j3⟩
   ·rw [Bool.or_eq_true,Bool.and_eq_true] at g1
    rcases g1 with ⟨_,g1⟩ | g1
    ·exact .inr ⟨i,by simp,by omega,by simpa using g1⟩
    ·exact .inl g1
   ·refine .inr ⟨j,List.mem_cons_of_mem _ j1,by rw [← h2]; exact j2,?_⟩
    rw [h3,Bool.or_eq_false_iff] at j3
    exact j3.1
theorem Pe {s o:AW} (H:OkS s) (K:OkS o):OkS (BB s o)∧(BB s o).1=s.1∧card s≤card (BB s o)∧(Ee s o=true→card s<card (BB s o)):=by
 obtain ⟨h1,h2,h3⟩:=K6 H K
 refine ⟨h1,h2,Nq fun k _ hk=>by rw [h3,hk]; rfl,fun hg=> ?_⟩
 rcases VA (DN o) H (fun i hi=>(JD K hi).1) hg with h | ⟨i,i1,i2,i3⟩
 ·cases h
 ·obtain ⟨i4,i5⟩:=JD K i1
  have hw:=H.hi
  refine SN (fun k _ hk=>by rw [h3,hk]; rfl) ⟨i.toNat,List.mem_range.2 (by omega),?_,?_⟩
  ·rw [Int.toNat_of_nonneg i4,h3,i3,(EK K i).1 i1,decide_eq_true i2]; rfl
  ·rw [Int.toNat_of_nonneg i4]; exact i3
def Ss (w:Int) (ss:List AW):Prop:= ∀s ∈ ss,OkS s∧s.1=w
def room (ss:List AW):Nat:=(ss.map fun s=>1000 - card s).sum
theorem RR: ∀ {ss:List AW} {k:Nat} {s s':AW},ss[k]? =some s→card s≤card s'→room (ss.set k s') ≤room ss∧(card s<card s'→room (ss.set k s') <room ss):=by
 intro ss
 induction ss with
 | nil=>intro k s s' h; simp at h
 | cons a ss ih=>
  intro k s s' h hc
  have hle:=U9 s'
  cases k with
  | zero=>
   obtain rfl:a=s:=by simpa using h
   simp only [List.set_cons_zero,room,List.map_cons,List.sum_cons]
   exact ⟨by omega,fun h=>by omega⟩
  | succ k=>
   obtain ⟨h1,h2⟩:=ih (k:=k) (s:=s) (s':=s') (by simpa using h) hc
   simp only [room] at h1 h2
   simp only [List.set_cons_succ,room,List.map_cons,List.sum_cons]
   exact ⟨by omega,fun h=>by have:=h2 h; omega⟩
theorem Ss.set {w:Int} {ss:List AW} (H:Ss w ss) {k:Nat} {s:AW} (hs:OkS s∧s.1=w):Ss w (ss.set k s):=fun x hx=>by
 rcases List.mem_or_eq_of_mem_set hx with h | rfl
 ·exact H x h
 ·exact hs
theorem VB {w:Int} {ss:List AW} {x:Int} {o:AW} (H:Ss w ss) (h0:0≤x) (h1:x< (ss.length:Int)) (ho:OkS o):
 Ok (U3 ss x o) fun r=>Ss w r.2∧r.2.length=ss.length∧room r.2≤room ss∧(r.1=true→room r.2<room ss):=by
 have hlt:x.toNat<ss.length:=by omega
 have hx:=List.getElem?_eq_getElem hlt
 obtain ⟨k1,k2⟩:=H _ (List.getElem_mem hlt)
 obtain ⟨u1,u2,u3,u4⟩:=Pe k1 ho
 obtain ⟨s1,s2⟩:=RR hx u3
 unfold U3
 exact Dt h0 hx (Bg ⟨k1,ho⟩ (AD ⟨H.set ⟨u1,u2.trans k2⟩,by simp,s1,fun g=>s2 (u4 g)⟩))
theorem RS {w:Int} {ss:List AW} {x y:Int} (H:Ss w ss) (h0:0≤x) (h1:x< (ss.length:Int)) (g0:0≤y) (g1:y< (ss.length:Int)):
 Ok (SK ss x y) fun r=>Ss w r.2∧r.2.length=ss.length∧room r.2≤room ss∧(r.1=true→room r.2<room ss):=by
 have hlt:x.toNat<ss.length:=by omega
 have hlt2:y.toNat<ss.length:=by omega
 have hx:=List.getElem?_eq_getElem hlt
 have hy:=List.getElem?_eq_getElem hlt2
 obtain ⟨k1,k2⟩:=H _ (List.getElem_mem hlt)
 have ho:=(H _ (List.getElem_mem hlt2)).1
 obtain ⟨u1,u2,u3,u4⟩:=Pe k1 ho
 obtain ⟨s1,s2⟩:=RR hx u3
 unfold SK
 exact Dt h0 hx (Dt g0 hy (Bg ⟨k1,ho⟩ (AD ⟨H.set ⟨u1,u2.trans k2⟩,by simp,s1,fun g=>s2 (u4 g)⟩)))
def Nl (p:dtP) (null:List Bool) (s:Int):Prop:=nT p≤s∧null[(s - nT p).toNat]? =some true
def mu (null:List Bool) (ss:List AW):Nat:=room ss+null.countP (fun b=> !b)
theorem HR: ∀ {l:List Bool} {k:Nat},l[k]? =some false→(l.set k true).countP (fun b=> !b) +1=l.countP (fun b=> !b):=by
 intro l
 induction l with
 | nil=>intro k h; simp at h
 | cons a l ih=>
  intro k h
  cases k with
  | zero=>
   obtain rfl:a=false:=by simpa using h
   simp
  | succ k=>
   have:=ih (k:=k) (by simpa using h)
   rw [List.set_cons_succ,List.countP_cons,List.countP_cons]
   omega
theorem T3 {α:Type} {l:List α} {k:Nat} {x:α} (h:l[k]? =some x):l.set k x=l:=by
 refine List.ext_getElem? fun i=> ?_
 rw [List.getElem?_set]
 split
 ·rename_i e
  subst e
  rw [h,if_pos (List.getElem?_eq_some_iff.1 h).1]
 ·rfl
theorem WQ (p:dtP) {s:Int} (h:s<nT p) (null:List Bool): ¬Nl p null s:=fun g=>by have:=g.1; omega
section
variable {p:dtP} {w:Int}
theorem Nr (S:Sy p) {null:List Bool} {ss:List AW} {x:Nat} {seq:List Int} {m:Nat} (hm:m=p.2.1.length+1) (hn:null.length=m) (H:Ss w ss) (hl:ss.length=m+m) (hx:x<m+m) (hs: ∀s ∈ seq,0≤s∧s<nT p+((p.2.1.length:Nat):Int)) (hq:seq.length≤1000):
 Ok (Jg p (m:Int) null (x:Int) ss seq) fun r=>Ss w r.2.2∧r.2.2.length=ss.length∧room r.2.2≤room ss∧(r.1=true→room r.2.2<room ss)∧(r.2.1=true ↔ ∀s ∈ seq,Nl p null s):=by
 have hT:=S.t1
 have hV:=S.v1
 have hnT:nT p=(p.1.length:Int):=rfl
 unfold Jg
 refine HJ (fun k (z:Bool×List AW)=>Ss w z.2∧z.2.length=ss.length∧room z.2≤room ss∧(z.1=true→room z.2<room ss)∧ ∀s ∈ seq.take k,Nl p null s)
  (fun b=>Ss w b.2.2∧b.2.2.length=ss.length∧room b.2.2≤room ss∧(b.1=true→room b.2.2<room ss)∧b.2.1=false∧ ¬ ∀s ∈ seq,Nl p null s) (by omega) ⟨H,rfl,Nat.le_refl _,(fun h=>by cases h),by simp⟩ (fun k z hk hz=> ?_) (fun z hz=>AD ?_) fun b hb=>AD ?_
 ·obtain ⟨g,s1⟩:=z
  obtain ⟨z1,z2,z3,z4,z5⟩:=hz
  dsimp only at z1 z2 z3 z4 z5 ⊢
  have hsk:=List.getElem?_eq_getElem hk
  have hmem:=List.getElem_mem hk
  obtain ⟨b0,b1⟩:=hs _ hmem
  refine AV hsk (AN (Hr p seq[k]) ?_)
  refine Ac (fun hc=> ?_) fun hc=> ?_
  ·rw [Bool.and_eq_true,decide_eq_true_eq,decide_eq_true_eq] at hc
   obtain ⟨o,e,o1,o2,_⟩:=Dg.of_ok (nT p) [seq[k]] (by simp)
   refine AN e (AM (VB z1 (x:=(x:Int)) (by omega) (by omega) o1) fun u hu=> ?_)
   obtain ⟨u1,u2,u3,u4⟩:=hu
   refine Bs ⟨u1,u2.trans z2,Nat.le_trans u3 z3,fun h=> ?_,rfl,fun hall=>WQ p (by omega) null (hall _ hmem)⟩
   dsimp only at h ⊢
   rw [Bool.or_eq_true] at h
   rcases h with h | h
   ·have:=u4 h; omega
   ·have:=z4 h; omega
  ·rw [Bool.and_eq_false_iff,decide_eq_false_iff_not,decide_eq_false_iff_not] at hc
   have e:IntKind.wrap .i64 (seq[k] - nT p)=(((seq[k] - nT p).toNat:Nat):Int):=by rw [w64 (by omega) (by omega)]; omega
   have hlt:(seq[k] - nT p).toNat<m:=by omega
   rw [e]
   refine Bg (by omega) (AM (RS z1 (x:=(x:Int)) (by omega) (by omega) (by omega) (by omega)) fun u hu=> ?_)
   obtain ⟨u1,u2,u3,u4⟩:=hu
   have hb:=List.getElem?_eq_getElem (l:=null) (i:=(seq[k] - nT p).toNat) (by omega)
   refine AV hb ?_
   have hor:(u.1 || g)=true→room u.2<room ss:=fun h=>by
    rw [Bool.or_eq_true] at h
    rcases h with h | h
    ·have:=u4 h; omega
    ·have:=z4 h; omega
   refine Ac (fun hc2=>CQ ⟨u1,u2.trans z2,Nat.le_trans u3 z3,hor,fun s hs'=> ?_⟩) fun hc2=>Bs ⟨u1,u2.trans z2,Nat.le_trans u3 z3,hor,rfl,fun hall=> ?_⟩
   ·rw [List.take_add_one,hsk] at hs'
    rcases List.mem_append.1 hs' with h | h
    ·exact z5 s h
    ·have:s=seq[k] :=by simpa using h
     subst this
     exact ⟨by omega,by rw [hb,hc2]⟩
   ·have:=(hall _ hmem).2
    rw [hb,hc2] at this
    cases this
 ·obtain ⟨z1,z2,z3,z4,z5⟩:=hz
  rw [List.take_of_length_le (Nat.le_refl _)] at z5
  exact ⟨z1,z2,z3,z4,fun _=>z5,fun _=>rfl⟩
 ·obtain ⟨z1,z2,z3,z4,z5,z6⟩:=hb
  exact ⟨z1,z2,z3,z4,fun h=>(by rw [z5] at h; cases h),fun h=>absurd h z6⟩
structure T4 (p:dtP) (w:Int) (null:List Bool) (ss:List AW) (k:Nat) (z:Bool×List Bool×List AW):Prop where
 len:z.2.1.length=null.length
 sets:Ss w z.2.2
 lens:z.2.2.length=ss.length
 le:mu z.2.1 z.2.2≤mu null ss
 lt:z.1=true→mu z.2.1 z.2.2<mu null ss
 stay:z.1=false→z.2.1=null∧ ∀(j:Nat) r,j<k→p.2.2.1[j]? =some r→(∀s ∈ r.2.1,Nl p null s)→Nl p null r.1
 sound:(∀s,Nl p null s→Nul p.2.2.1 s)→ ∀s,Nl p z.2.1 s→Nul p.2.2.1 s
theorem T5 (S:Sy p) {null:List Bool} {ss:List AW} {m:Nat} (hm:m=p.2.1.length+1) (hn:null.length=m) (H:Ss w ss) (hl:ss.length=m+m):
 Ok (Mx p (m:Int) null ss) (T4 p w null ss p.2.2.1.length):=by
 have hT:=S.t1
 have hV:=S.v1
 have hF:=S.few
 have hnT:nT p=(p.1.length:Int):=rfl
 refine CA (n:=p.2.2.1.length) (fun k=>T4 p w null ss k) (by omega) (s:=(false,null,ss)) ⟨rfl,H,rfl,Nat.le_refl _,(fun h=>by cases h),fun _=>⟨rfl,fun j r hj=>by omega⟩,fun h=>h⟩ fun k z hk hz=> ?_
 obtain ⟨c,nu,s1⟩:=z
 have hr:=List.getElem?_eq_getElem hk
 have hmem:=List.getElem_mem hk
 obtain ⟨r,hre⟩: ∃r,p.2.2.1[k] =r:=⟨_,rfl⟩
 rw [hre] at hr hmem
 obtain ⟨l0,l1⟩:=S.left r hmem
 have e:IntKind.wrap .i64 (r.1 - nT p)=(((r.1 - nT p).toNat:Nat):Int):=by rw [w64 (by omega) (by omega)]; omega
 have hlt:(r.1 - nT p).toNat<m:=by omega
 have hlen:=hz.len
 have hls:=hz.lens
 dsimp only at hlen hls ⊢
 refine AV hr ?_
 rw [e]
 refine Bg (by omega) ?_
 have nR:=S.right r hmem
 refine AM (Nr S (null:=nu) (ss:=s1) (x:=(r.1 - nT p).toNat) hm (by omega) hz.sets (by omega) (by omega) nR (S.short r hmem)) fun g hg=> ?_
 obtain ⟨g1,g2,g3,g4,g5⟩:=hg
 have hb:=List.getElem?_eq_getElem (l:=nu) (i:=(r.1 - nT p).toNat) (by omega)
 refine AV hb (Hm (by omega) (by omega) (AD ?_))
 rw [Int.toNat_natCast]
 obtain ⟨b,hbe⟩: ∃b,nu[(r.1 - nT p).toNat] =b:=⟨_,rfl⟩
 rw [hbe] at hb ⊢
 by_cases hflip:b=false∧g.2.1=true
 ·obtain ⟨rfl,hg21⟩:=hflip
  have hc:=HR hb
  have hle:=hz.le
  rw [hg21]
  refine ⟨by simp [hlen],g1,g2.trans hls,?_,fun _=> ?_,fun h=> ?_,fun hs s h=> ?_⟩
  ·show mu (nu.set _ true) g.2.2≤mu null ss
   unfold mu at hle ⊢
   dsimp only at hle
   omega
  ·show mu (nu.set _ true) g.2.2<mu null ss
   unfold mu at hle ⊢
   dsimp only at hle
   omega
  ·exfalso
   dsimp only at h
   simp at h
  ·obtain ⟨h0,h1⟩:=h
   change (nu.set _ true)[_]? =some true at h1
   rw [List.getElem?_set] at h1
   split at h1
   ·rename_i he
    have:s=r.1:=by omega
    subst this
    exact .rule hmem fun s hs'=>hz.sound hs s (g5.1 hg21 s hs')
   ·exact hz.sound hs s ⟨h0,h1⟩
 ·have hbb:(b || g.2.1)=b:=by
   cases b with
   | true=>rfl
   | false=>cases hgg:g.2.1 with
    | false=>rfl
    | true=>exact absurd ⟨rfl,hgg⟩ hflip
  have hff:(g.2.1 && !b)=false:=by
   cases b with
   | true=>simp
   | false=>cases hgg:g.2.1 with
    | false=>rfl
    | true=>exact absurd ⟨rfl,hgg⟩ hflip
  rw [hbb,hff,T3 hb,Bool.or_false]
  have hle:=hz.le
  have hlt':=hz.lt
  unfold mu at hle hlt'
  dsimp only at hle hlt'
  refine ⟨hlen,g1,g2.trans hls,?_,fun h=> ?_,fun h=> ?_,hz.sound⟩
  ·unfold mu; dsimp only; omega
  ·unfold mu
   dsimp only at h ⊢
   rw [Bool.or_eq_true] at h
   rcases h with h | h
   ·have:=hlt' h; omega
   ·have:=g4 h; omega
  ·dsimp only at h ⊢
   rw [Bool.or_eq_false_iff] at h
   obtain ⟨h1,h2⟩:=hz.stay h.1
   dsimp only at h1
   subst h1
   refine ⟨rfl,fun j r' hj hr' ha=> ?_⟩
   rcases Nat.lt_succ_iff_lt_or_eq.1 hj with hj | rfl
   ·exact h2 j r' hj hr' ha
   ·rw [hr] at hr'
    cases hr'
    refine ⟨l0,?_⟩
    rw [hb]
    rw [g5.2 ha] at hff
    simpa using hff
end
section
variable {p:dtP} {w:Int}
theorem Qn (S:Sy p) {null:List Bool} {ss:List AW} {m:Nat} (hm:m=p.2.1.length+1) (hn:null.length=m) (H:Ss w ss) (hl:ss.length=m+m):
 Ok (LG p (m:Int) null ss) fun r=>Ss w r.2∧r.2.length=ss.length∧room r.2≤room ss∧(r.1=true→room r.2<room ss):=by
 have hT:=S.t1
 have hV:=S.v1
 have hF:=S.few
 have hnT:nT p=(p.1.length:Int):=rfl
 refine CA (n:=p.2.2.1.length) (fun _ (z:Bool×List AW)=>Ss w z.2∧z.2.length=ss.length∧room z.2≤room ss∧(z.1=true→room z.2<room ss)) (by omega) (s:=(false,ss)) ⟨H,rfl,Nat.le_refl _,(fun h=>by cases h)⟩ fun k z hk hz=> ?_
 have hr:=List.getElem?_eq_getElem hk
 have hmem:=List.getElem_mem hk
 obtain ⟨r,hre⟩: ∃r,p.2.2.1[k] =r:=⟨_,rfl⟩
 rw [hre] at hr hmem
 obtain ⟨l0,l1⟩:=S.left r hmem
 have nR:=S.right r hmem
 have nS:=S.short r hmem
 refine AV hr (CA (fun _ (z:Bool×List AW)=>Ss w z.2∧z.2.length=ss.length∧room z.2≤room ss∧(z.1=true→room z.2<room ss)) (by omega) hz fun j z hj hz=> ?_)
 obtain ⟨g,s1⟩:=z
 obtain ⟨z1,z2,z3,z4⟩:=hz
 dsimp only at z1 z2 z3 z4 ⊢
 obtain ⟨b0,b1⟩:=nR _ (List.getElem_mem hj)
 refine AV (List.getElem?_eq_getElem hj) (AN (Hr p _) ?_)
 refine Ac (fun hc=>AD ⟨z1,z2,z3,z4⟩) fun hc=> ?_
 rw [Bool.and_eq_false_iff,decide_eq_false_iff_not,decide_eq_false_iff_not] at hc
 have e:IntKind.wrap .i64 (r.2.1[j] - nT p)=(((r.2.1[j] - nT p).toNat:Nat):Int):=by rw [w64 (by omega) (by omega)]; omega
 have e2:(m:Int) +(((r.2.1[j] - nT p).toNat:Nat):Int)=((m+(r.2.1[j] - nT p).toNat:Nat):Int):=by omega
 have hlt:(r.2.1[j] - nT p).toNat<m:=by omega
 rw [e,e2]
 refine Bg (by omega) (AM (Nr S (null:=null) (ss:=s1) (x:=m+(r.2.1[j] - nT p).toNat) (seq:=r.2.1.drop ((j:Int) +1).toNat) hm hn z1 (by omega) (by omega) (fun s hs=>nR s (List.mem_of_mem_drop hs)) (by simp; omega)) fun q hq=> ?_)
 obtain ⟨q1,q2,q3,q4,_⟩:=hq
 refine AM (Q:=fun (u:Bool×List AW)=>Ss w u.2∧u.2.length=ss.length∧room u.2≤room s1∧(u.1=true→room u.2<room s1)) ?_ fun u hu=> ?_
 ·refine Ac (fun hg=> ?_) fun hg=>AD ⟨q1,q2.trans z2,q3,q4⟩
  have e3:IntKind.wrap .i64 (r.1 - nT p)=(((r.1 - nT p).toNat:Nat):Int):=by rw [w64 (by omega) (by omega)]; omega
  rw [e3]
  refine Bg (by omega) (AM (RS q1 (by omega) (by omega) (by omega) (by omega)) fun u hu=>AD ?_)
  obtain ⟨u1,u2,u3,u4⟩:=hu
  refine ⟨u1,u2.trans (q2.trans z2),Nat.le_trans u3 q3,fun h=> ?_⟩
  dsimp only at h ⊢
  rw [Bool.or_eq_true] at h
  rcases h with h | h
  ·have:=u4 h; omega
  ·have:=q4 h; omega
 ·obtain ⟨u1,u2,u3,u4⟩:=hu
  refine AD ⟨u1,u2,Nat.le_trans u3 z3,fun h=> ?_⟩
  dsimp only at h ⊢
  rw [Bool.or_eq_true] at h
  rcases h with h | h
  ·have:=z4 h; omega
  ·have:=u4 h; omega
theorem LH (S:Sy p):Jz (nT p)=nT p:=by
 have hT:=S.t1
 have hnT:nT p=(p.1.length:Int):=rfl
 exact Oa (by omega) (by omega)
theorem Pf (S:Sy p):Ok (Le p) fun f=>f.length=p.2.1.length+1∧Ss (nT p) f:=by
 have hV:=S.v1
 unfold Le
 have e:IntKind.wrap .i64 (((p.2.1.length:Nat):Int) +1)=((p.2.1.length+1:Nat):Int):=by rw [w64 (by omega) (by omega)]; omega
 rw [e]
 obtain ⟨l,h1,h2,h3⟩:=Jh (f:=fun _ acc=>(Bo (nT p)).bind fun s=>app acc [s]) (n:=p.2.1.length+1) (by omega) (fun _ (s:AW)=>OkS s∧s.1=nT p) fun k acc hk ha=>by
  obtain ⟨s,e,g1,g2,_⟩:=Dg.new_ok (nT p)
  rw [e,Option.bind_some,U8 (by omega)]
  exact ⟨s,rfl,g1,g2.trans (LH S)⟩
 refine ⟨l,h1,h2,fun s hs=> ?_⟩
 obtain ⟨k,hk⟩:=List.getElem?_of_mem hs
 exact h3 k s hk
theorem Pg {ss:List AW} (H:Ss w ss) (hl:ss.length≤100000):Ok (JJ ss) fun l=>l.length=ss.length∧ ∀x ∈ l,x.length≤64000:=by
 unfold JJ
 obtain ⟨l,h1,h2,h3⟩:=Jh (f:=fun i (acc:List (List Int))=>(idx ss i).bind fun s=>(IG s).bind fun l=>app acc [l]) (n:=ss.length) (by omega) (fun _ (x:List Int)=>x.length≤64000) fun k acc hk ha=>by
  have hs:=(H _ (List.getElem_mem hk)).1
  rw [E0 hk,Option.bind_some,JC hs,Option.bind_some,U8 (by omega)]
  refine ⟨_,rfl,?_⟩
  have h1:=Lh ss[k]
  have h2:=hs.len
  have h3:=hs.hi
  omega
 refine ⟨l,h1,h2,fun x hx=> ?_⟩
 obtain ⟨k,hk⟩:=List.getElem?_of_mem hx
 exact h3 k x hk
structure T6 (p:dtP) (fa:dtF):Prop where
 len:fa.1.length=p.2.1.length+1
 nul: ∀s,nT p≤s→(fa.1[(s - nT p).toNat]? =some true ↔ Nul p.2.2.1 s)
 flen:fa.2.1.length=p.2.1.length+1
 few: ∀l ∈ fa.2.1,l.length≤64000
theorem VC (S:Sy p) {null:List Bool} (hn:null.length=p.2.1.length+1) (hc: ∀(j:Nat) r,p.2.2.1[j]? =some r→(∀s ∈ r.2.1,Nl p null s)→Nl p null r.1) {s:Int} (h:Nul p.2.2.1 s):Nl p null s:=by
 induction h with
 | rule hr _ ih=>
  obtain ⟨j,hj⟩:=List.getElem?_of_mem hr
  exact hc j _ hj ih
theorem T7 (S:Sy p):Ok (My p) (T6 p):=by
 have hT:=S.t1
 have hV:=S.v1
 have hF:=S.few
 have hnT:nT p=(p.1.length:Int):=rfl
 unfold My
 have e:IntKind.wrap .i64 (((p.2.1.length:Nat):Int) +1)=((p.2.1.length+1:Nat):Int):=by rw [w64 (by omega) (by omega)]; omega
 rw [e]
 refine AN (x:=List.replicate (p.2.1.length+1) false) (by unfold FB; rw [if_pos ⟨by omega,by omega⟩,Int.toNat_natCast]) ?_
 refine AM (Pf S) fun f hf=>AM (Pf S) fun g hg=> ?_
 obtain ⟨f1,f2⟩:=hf
 obtain ⟨g1,g2⟩:=hg
 have hfg:Ss (nT p) (f++g):=fun s hs=>(List.mem_append.1 hs).elim (f2 s) (g2 s)
 refine DL (fun (z:Int×List Bool×List AW)=>z.2.1.length=p.2.1.length+1∧Ss (nT p) z.2.2∧z.2.2.length=f.length+f.length∧ ∀s,Nl p z.2.1 s→Nul p.2.2.1 s) (fun z=>mu z.2.1 z.2.2)
  (fun z=>z.2.1.length=p.2.1.length+1∧Ss (nT p) z.2.2∧z.2.2.length=f.length+f.length∧(∀s,Nl p z.2.1 s→Nul p.2.2.1 s)∧ ∀(j:Nat) r,p.2.2.1[j]? =some r→(∀s ∈ r.2.1,Nl p z.2.1 s)→Nl p z.2.1 r.1) ⟨by simp,hfg,by simp [f1,g1],fun s h=> ?_⟩ (fun z hz=> ?_) fun z hz=> ?_
 ·have:=h.2
  dsimp only at this
  rw [List.getElem?_replicate] at this
  split at this<;>simp at this
 ·obtain ⟨c,nu,s1⟩:=z
  obtain ⟨z1,z2,z3,z4⟩:=hz
  dsimp only at z1 z2 z3 z4 ⊢
  refine AM (T5 S (null:=nu) (ss:=s1) (m:=f.length) f1 (by omega) z2 (by omega)) fun r hr=> ?_
  refine Ac (fun hc=>CQ ⟨⟨hr.len.trans z1,hr.sets,hr.lens.trans z3,hr.sound z4⟩,hr.lt hc⟩) fun hc=>Bs ⟨hr.len.trans z1,hr.sets,hr.lens.trans z3,hr.sound z4,?_⟩
  obtain ⟨h1,h2⟩:=hr.stay hc
  dsimp only
  rw [h1]
  exact fun j r' hj=>h2 j r' (BM hj) hj
 ·obtain ⟨c,nu,s1⟩:=z
  obtain ⟨z1,z2,z3,z4,z5⟩:=hz
  dsimp only at z1 z2 z3 z4 z5 ⊢
  have hlt:f.length+p.2.1.length<s1.length:=by omega
  have hget:=List.getElem?_eq_getElem hlt
  obtain ⟨k1,k2⟩:=z2 _ (List.getElem_mem hlt)
  refine AV (x:=s1[f.length+p.2.1.length]) (by rw [List.getElem?_drop]; exact hget) ?_
  obtain ⟨s',a1,a2,a3,_⟩:=Dg.add_ok k1 0
  refine AN a1 ?_
  refine DL (fun (ss:List AW)=>Ss (nT p) ss∧ss.length=f.length+f.length) room (fun (ss:List AW)=>Ss (nT p) ss∧ss.length=f.length+f.length) ⟨z2.set ⟨a2,a3.trans k2⟩,by simp [z3]⟩ (fun ss hss=> ?_) fun ss hss=> ?_
  ·refine AM (Qn S (null:=nu) (ss:=ss) (m:=f.length) f1 (by omega) hss.1 hss.2) fun r hr=> ?_
   exact Ac (fun hc=>CQ ⟨⟨hr.1,hr.2.1.trans hss.2⟩,hr.2.2.2 hc⟩) fun hc=>Bs ⟨hr.1,hr.2.1.trans hss.2⟩
  ·refine AM (Pg (w:=nT p) (fun s hs=>hss.1 s (List.mem_of_mem_take hs)) (by simp; omega)) fun a ha=>AM (Pg (w:=nT p) (fun s hs=>hss.1 s (List.mem_of_mem_drop hs)) (by simp; omega)) fun b hb=>AD ?_
   refine ⟨z1,fun s hs=>⟨fun h=>z4 s ⟨hs,h⟩,fun h=>(VC S z1 z5 h).2⟩,?_,ha.2⟩
   dsimp only
   rw [ha.1,List.length_take]
   omega
end
end Go.Proofs.YteolcjbobmpdiaaGreatDoor
namespace Go.Proofs.YteolcjbobmpdiaaGreatDoor
open Go Go.Eng
set_option linter.unusedVariables false
set_option maxRecDepth 100000
noncomputable def Mz (p_0:Pl6):T:=
 T.new (.cells #[(sv p_0.1),(sv p_0.2.1),(sv p_0.2.2.1),(sv p_0.2.2.2.1),(sv p_0.2.2.2.2.1),(sv p_0.2.2.2.2.2.1)] 32 (0,0)) fun r1=>
 T.new (.cells #[(.slice none 0 0),(.slice none 0 0),(.slice none 0 0),(.int .i64 (0:Int))] 133 (0,0)) fun r2=>
 L6 r1 fun t3 t4 t5 t6 t7 t8=>
 T.load .slice ⟨r1,1,none⟩ fun (t9:Slc)=>
 L6 r1 fun t10 t11 t12 t13 t14 t15=>
 L6 r1 fun t16 t17 t18 t19 t20 t21=>
 T.both
 (T.sem (Instr.makeSlice 60 (.int .i64 (IntKind.wrap .i64 (((t9.2.1:Nat):Int) +(1:Int)))) (.int .i64 (IntKind.wrap .i64 (((t9.2.1:Nat):Int) +(1:Int))))) (.one aS) fun (t22:Slc)=>
 S6 r1 t16 t17 t18 t19 t20 t21<|
 S6 r1 t10 t11 t12 t13 t14 t15<|
 S6 r1 t3 t4 t5 t6 t7 t8<|
 T.call 132 [(aH t10 t11 t12 t13 t14 t15)] (.one aS) fun (t23:Slc)=>
 S6 r1 t16 t17 t18 t19 t20 t21<|
 S6 r1 t3 t4 t5 t6 t7 t8<|
 T.call 132 [(aH t16 t17 t18 t19 t20 t21)] (.one aS) fun (t24:Slc)=>
 S6 r1 t3 t4 t5 t6 t7 t8<|
 T.new (.cells #[(sv t3),(sv t4),(sv t5),(sv t6),(sv t7),(sv t8),(sv t22),(sv t23),(sv t24)] 221 (0,0)) fun r25=>
 T.block 0 [aI]
 (T.loop [aI] [(.int .i64 (1:Int))] fun (z27:Int×Unit)=>
 T.call 133 [(.pointer (some ⟨r25,0,none⟩))] (.one aB) fun (t28:Bool)=>
 cond t28
 (T.out [(.int .i64 (wN z27.1))])
 (T.brk 0 [(.int .i64 z27.1)])) fun (z26:Int×Unit)=>
 T.load .slice ⟨r25,8,none⟩ fun (t29:Slc)=>
 T.load .slice ⟨r1,1,none⟩ fun (t30:Slc)=>
 deref t29.1 fun a31=>
 chk (0≤((t30.2.1:Nat):Int)∧((t30.2.1:Nat):Int) < (t29.2.1:Nat)) <|
 T.load .pointer (a31.add (Int.toNat ((t30.2.1:Nat):Int) * 1)) fun (t32:Option Addr)=>
 T.call 134 [(.pointer t32),(.int .i64 (0:Int))] (.one aB) fun (t33:Bool)=>
 T.block 2 []
 (T.loop [] [] fun (z35:Unit)=>
 T.call 135 [(.pointer (some ⟨r25,0,none⟩))] (.one aB) fun (t36:Bool)=>
 cond t36
 (T.out [])
 (T.brk 2 [])) fun (z34:Unit)=>
 T.load .slice ⟨r25,6,none⟩ fun (t37:Slc)=>
 T.load .slice ⟨r25,7,none⟩ fun (t38:Slc)=>
 T.load .slice ⟨r25,8,none⟩ fun (t39:Slc)=>
 T.call 136 [(sv t38)] (.one aS) fun (t40:Slc)=>
 T.still ⟨r25,8,none⟩ (sv t39) <|
 T.still ⟨r25,6,none⟩ (sv t37) <|
 T.call 136 [(sv t39)] (.one aS) fun (t41:Slc)=>
 T.still ⟨r25,6,none⟩ (sv t37) <|
 T.store ⟨r2,0,none⟩ (sv t37) <|
 T.store ⟨r2,1,none⟩ (sv t40) <|
 T.store ⟨r2,2,none⟩ (sv t41) <|
 T.store ⟨r2,3,none⟩ (.int .i64 z26.1) <|
 T.load .slice ⟨r2,0,none⟩ fun (res42:Slc)=>
 T.load .slice ⟨r2,1,none⟩ fun (res43:Slc)=>
 T.load .slice ⟨r2,2,none⟩ fun (res44:Slc)=>
 T.load (.int .i64) ⟨r2,3,none⟩ fun (res45:Int)=>
 T.ret (.agg #[(sv res42),(sv res43),(sv res44),(.int .i64 res45)]))
 (T.call 132 [(aH t10 t11 t12 t13 t14 t15)] (.one aS) fun (t46:Slc)=>
 S6 r1 t16 t17 t18 t19 t20 t21<|
 T.still ⟨r1,1,none⟩ (sv t9) <|
 S6 r1 t3 t4 t5 t6 t7 t8<|
 T.both
 (T.sem (Instr.makeSlice 60 (.int .i64 (IntKind.wrap .i64 (((t9.2.1:Nat):Int) +(1:Int)))) (.int .i64 (IntKind.wrap .i64 (((t9.2.1:Nat):Int) +(1:Int))))) (.one aS) fun (t47:Slc)=>
 S6 r1 t16 t17 t18 t19 t20 t21<|
 S6 r1 t3 t4 t5 t6 t7 t8<|
 T.call 132 [(aH t16 t17 t18 t19 t20 t21)] (.one aS) fun (t48:Slc)=>
 S6 r1 t3 t4 t5 t6 t7 t8<|
 T.new (.cells #[(sv t3),(sv t4),(sv t5),(sv t6),(sv t7),(sv t8),(sv t47),(sv t46),(sv t48)] 221 (0,0)) fun r49=>
 T.block 0 [aI]
 (T.loop [aI] [(.int .i64 (1:Int))] fun (z51:Int×Unit)=>
 T.call 133 [(.pointer (some ⟨r49,0,none⟩))] (.one aB) fun (t52:Bool)=>
 cond t52
 (T.out [(.int .i64 (wN z51.1))])
 (T.brk 0 [(.int .i64 z51.1)])) fun (z50:Int×Unit)=>
 T.load .slice ⟨r49,8,none⟩ fun (t53:Slc)=>
 T.load .slice ⟨r1,1,none⟩ fun (t54:Slc)=>
 deref t53.1 fun a55=>
 chk (0≤((t54.2.1:Nat):Int)∧((t54.2.1:Nat):Int) < (t53.2.1:Nat)) <|
 T.load .pointer (a55.add (Int.toNat ((t54.2.1:Nat):Int) * 1)) fun (t56:Option Addr)=>
 T.call 134 [(.pointer t56),(.int .i64 (0:Int))] (.one aB) fun (t57:Bool)=>
 T.block 2 []
 (T.loop [] [] fun (z59:Unit)=>
 T.call 135 [(.pointer (some ⟨r49,0,none⟩))] (.one aB) fun (t60:Bool)=>
 cond t60
 (T.out [])
 (T.brk 2 [])) fun (z58:Unit)=>
 T.load .slice ⟨r49,6,none⟩ fun (t61:Slc)=>
 T.load .slice ⟨r49,7,none⟩ fun (t62:Slc)=>
 T.load .slice ⟨r49,8,none⟩ fun (t63:Slc)=>
 T.call 136 [(sv t62)] (.one aS) fun (t64:Slc)=>
 T.still ⟨r49,8,none⟩ (sv t63) <|
 T.still ⟨r49,6,none⟩ (sv t61) <|
 T.call 136 [(sv t63)] (.one aS) fun (t65:Slc)=>
 T.still ⟨r49,6,none⟩ (sv t61) <|
 T.store ⟨r2,0,none⟩ (sv t61) <|
 T.store ⟨r2,1,none⟩ (sv t64) <|
 T.store ⟨r2,2,none⟩ (sv t65) <|
 T.store ⟨r2,3,none⟩ (.int .i64 z50.1) <|
 T.load .slice ⟨r2,0,none⟩ fun (res66:Slc)=>
 T.load .slice ⟨r2,1,none⟩ fun (res67:Slc)=>
 T.load .slice ⟨r2,2,none⟩ fun (res68:Slc)=>
 T.load (.int .i64) ⟨r2,3,none⟩ fun (res69:Int)=>
 T.ret (.agg #[(sv res66),(sv res67),(sv res68),(.int .i64 res69)]))
 (T.call 132 [(aH t16 t17 t18 t19 t20 t21)] (.one aS) fun (t70:Slc)=>
 T.still ⟨r1,1,none⟩ (sv t9) <|
 S6 r1 t3 t4 t5 t6 t7 t8<|
 T.sem (Instr.makeSlice 60 (.int .i64 (IntKind.wrap .i64 (((t9.2.1:Nat):Int) +(1:Int)))) (.int .i64 (IntKind.wrap .i64 (((t9.2.1:Nat):Int) +(1:Int))))) (.one aS) fun (t71:Slc)=>
 S6 r1 t3 t4 t5 t6 t7 t8<|
 T.new (.cells #[(sv t3),(sv t4),(sv t5),(sv t6),(sv t7),(sv t8),(sv t71),(sv t46),(sv t70)] 221 (0,0)) fun r72=>
 T.block 0 [aI]
 (T.loop [aI] [(.int .i64 (1:Int))] fun (z74:Int×Unit)=>
 T.call 133 [(.pointer (some ⟨r72,0,none⟩))] (.one aB) fun (t75:Bool)=>
 cond t75
 (T.out [(.int .i64 (wN z74.1))])
 (T.brk 0 [(.int .i64 z74.1)])) fun (z73:Int×Unit)=>
 T.load .slice ⟨r72,8,none⟩ fun (t76:Slc)=>
 T.load .slice ⟨r1,1,none⟩ fun (t77:Slc)=>
 deref t76.1 fun a78=>
 chk (0≤((t77.2.1:Nat):Int)∧((t77.2.1:Nat):Int) < (t76.2.1:Nat)) <|
 T.load .pointer (a78.add (Int.toNat ((t77.2.1:Nat):Int) * 1)) fun (t79:Option Addr)=>
 T.call 134 [(.pointer t79),(.int .i64 (0:Int))] (.one aB) fun (t80:Bool)=>
 T.block 2 []
 (T.loop [] [] fun (z82:Unit)=>
 T.call 135 [(.pointer (some ⟨r72,0,none⟩))] (.one aB) fun (t83:Bool)=>
 cond t83
 (T.out [])
 (T.brk 2 [])) fun (z81:Unit)=>
 T.load .slice ⟨r72,6,none⟩ fun (t84:Slc)=>
 T.load .slice ⟨r72,7,none⟩ fun (t85:Slc)=>
 T.load .slice ⟨r72,8,none⟩ fun (t86:Slc)=>
 T.call 136 [(sv t85)] (.one aS) fun (t87:Slc)=>
 T.still ⟨r72,8,none⟩ (sv t86) <|
 T.still ⟨r72,6,none⟩ (sv t84) <|
 T.call 136 [(sv t86)] (.one aS) fun (t88:Slc)=>
 T.still ⟨r72,6,none⟩ (sv t84) <|
 T.store ⟨r2,0,none⟩ (sv t84) <|
 T.store ⟨r2,1,none⟩ (sv t87) <|
 T.store ⟨r2,2,none⟩ (sv t88) <|
 T.store ⟨r2,3,none⟩ (.int .i64 z73.1) <|
 T.load .slice ⟨r2,0,none⟩ fun (res89:Slc)=>
 T.load .slice ⟨r2,1,none⟩ fun (res90:Slc)=>
 T.load .slice ⟨r2,2,none⟩ fun (res91:Slc)=>
 T.load (.int .i64) ⟨r2,3,none⟩ fun (res92:Int)=>
 T.ret (.agg #[(sv res89),(sv res90),(sv res91),(.int .i64 res92)])))
theorem Ob (p_0:Pl6):Ab Tryz.prog Tryz.f106 [(aG p_0)] =Mz p_0:=by kernel_rfl
noncomputable def KF (p_0:Pl6):T:=
 T.new (.cells #[(sv p_0.1),(sv p_0.2.1),(sv p_0.2.2.1),(sv p_0.2.2.2.1),(sv p_0.2.2.2.2.1),(sv p_0.2.2.2.2.2.1)] 32 (0,0)) fun r1=>
 T.load .slice ⟨r1,1,none⟩ fun (t2:Slc)=>
 T.block 0 [aI,aS]
 (T.loop [aI,aS] [(.int .i64 (0:Int)),(.slice none 0 0)] fun (z4:Int×Slc×Unit)=>
 cond (decide (z4.1< (IntKind.wrap .i64 (((t2.2.1:Nat):Int) +(1:Int)))))
 (T.load .slice ⟨r1,0,none⟩ fun (t5:Slc)=>
 T.call 138 [(.int .i64 ((t5.2.1:Nat):Int))] (.one aP) fun (t6:Option Addr)=>
 T.new (.cells #[(.pointer t6)] 139 (0,0)) fun r7=>
 T.sem (Builtin.append_ #[195,195] 195 #[(sv z4.2.1),(.slice (some ⟨r7,0,none⟩) 1 1)]) (.one aS) fun (t8:Slc)=>
 T.out [(.int .i64 (wN z4.1)),(sv t8)])
 (T.brk 0 [(.int .i64 z4.1),(sv z4.2.1)])) fun (z3:Int×Slc×Unit)=>
 T.ret (sv z3.2.1)
theorem MC (p_0:Pl6):Ab Tryz.prog Tryz.f132 [(aG p_0)] =KF p_0:=by kernel_rfl
noncomputable def GN (s_0:Option Addr):T:=
 deref s_0 fun a1=>
 T.load .slice (a1.add 2) fun (t2:Slc)=>
 T.block 0 [aI,aB]
 (T.loop [aI,aB] [(.int .i64 (0:Int)),(.bool false)] fun (z4:Int×Bool×Unit)=>
 cond (decide (z4.1< ((t2.2.1:Nat):Int)))
 (deref t2.1 fun a5=>
 chk (0≤z4.1∧z4.1< (t2.2.1:Nat)) <|
 T.load (.int .i64) (a5.add (Int.toNat z4.1 * 3)) fun (t6:Int)=>
 T.load .slice ((a5.add (Int.toNat z4.1 * 3)).add 1) fun (t7:Slc)=>
 T.load (.int .i64) ((a5.add (Int.toNat z4.1 * 3)).add 2) fun (t8:Int)=>
 T.new (.cells #[(.int .i64 (0:Int)),(.slice none 0 0),(.int .i64 (0:Int))] 65 (0,0)) fun r9=>
 T.store ⟨r9,0,none⟩ (.int .i64 t6) <|
 T.store ⟨r9,1,none⟩ (sv t7) <|
 T.store ⟨r9,2,none⟩ (.int .i64 t8) <|
 T.load (.int .i64) ⟨r9,0,none⟩ fun (t10:Int)=>
 T.call 160 [(.pointer s_0),(.int .i64 t10)] (.one aI) fun (t11:Int)=>
 T.load .slice ⟨r9,1,none⟩ fun (t12:Slc)=>
 deref s_0 fun a13=>
 T.load .slice (a13.add 7) fun (t14:Slc)=>
 deref t14.1 fun a15=>
 chk (0≤t11∧t11< (t14.2.1:Nat)) <|
 T.load .pointer (a15.add (Int.toNat t11 * 1)) fun (t16:Option Addr)=>
 T.call 161 [(.pointer s_0),(sv t12),(.func (.func 139) #[(.pointer t16)] #[])] (.tuple [aB,aB]) fun (t17:Bool×Bool×Unit)=>
 T.join [aB]
 (cond z4.2.1
 (T.out [(.bool true)])
 (cond t17.1
 (T.out [(.bool true)])
 (cond t17.2.1
 (deref s_0 fun a19=>
 T.load .slice (a19.add 6) fun (t20:Slc)=>
 deref t20.1 fun a21=>
 chk (0≤t11∧t11< (t20.2.1:Nat)) <|
 T.load .bool (a21.add (Int.toNat t11 * 1)) fun (t22:Bool)=>
 T.out [(.bool (!t22))])
 (T.out [(.bool false)])))) fun (z18:Bool×Unit)=>
 T.join []
 (deref s_0 fun a24=>
 T.load .slice (a24.add 6) fun (t25:Slc)=>
 deref s_0 fun a26=>
 T.load .slice (a26.add 6) fun (t27:Slc)=>
 deref t27.1 fun a28=>
 chk (0≤t11∧t11< (t27.2.1:Nat)) <|
 T.load .bool (a28.add (Int.toNat t11 * 1)) fun (t29:Bool)=>
 cond t29
 (deref t25.1 fun a30=>
 chk (0≤t11∧t11< (t25.2.1:Nat)) <|
 T.store (a30.add (Int.toNat t11 * 1)) (.bool true) <|
 T.out [])
 (deref t25.1 fun a31=>
 chk (0≤t11∧t11< (t25.2.1:Nat)) <|
 T.store (a31.add (Int.toNat t11 * 1)) (.bool t17.2.1) <|
 T.out [])) fun (z23:Unit)=>
 T.out [(.int .i64 (wN z4.1)),(.bool z18.1)])
 (T.brk 0 [(.int .i64 z4.1),(.bool z4.2.1)])) fun (z3:Int×Bool×Unit)=>
 T.ret (.bool z3.2.1)
theorem JL (s_0:Option Addr):Ab Tryz.prog Tryz.f133 [(.pointer s_0)] =GN s_0:=by kernel_rfl
noncomputable def Fh (s_0:Option Addr):T:=
 deref s_0 fun a1=>
 T.load .slice (a1.add 2) fun (t2:Slc)=>
 T.block 0 [aI,aB]
 (T.loop [aI,aB] [(.int .i64 (0:Int)),(.bool false)] fun (z4:Int×Bool×Unit)=>
 cond (decide (z4.1< ((t2.2.1:Nat):Int)))
 (deref t2.1 fun a5=>
 chk (0≤z4.1∧z4.1< (t2.2.1:Nat)) <|
 T.load (.int .i64) (a5.add (Int.toNat z4.1 * 3)) fun (t6:Int)=>
 T.load .slice ((a5.add (Int.toNat z4.1 * 3)).add 1) fun (t7:Slc)=>
 T.load (.int .i64) ((a5.add (Int.toNat z4.1 * 3)).add 2) fun (t8:Int)=>
 T.new (.cells #[(.int .i64 (0:Int)),(.slice none 0 0),(.int .i64 (0:Int))] 65 (0,0)) fun r9=>
 T.store ⟨r9,0,none⟩ (.int .i64 t6) <|
 T.store ⟨r9,1,none⟩ (sv t7) <|
 T.store ⟨r9,2,none⟩ (.int .i64 t8) <|
 T.load .slice ⟨r9,1,none⟩ fun (t10:Slc)=>
 T.block 2 [aI,aB]
 (T.loop [aI,aB] [(.int .i64 (0:Int)),(.bool z4.2.1)] fun (z12:Int×Bool×Unit)=>
 cond (decide (z12.1< ((t10.2.1:Nat):Int)))
 (T.block 3 [aB]
 (deref t10.1 fun a14=>
 chk (0≤z12.1∧z12.1< (t10.2.1:Nat)) <|
 T.load (.int .i64) (a14.add (Int.toNat z12.1 * 1)) fun (t15:Int)=>
 deref s_0 fun a16=>
 M6 a16 fun t17 t18 t19 t20 t21 t22=>
 T.call 86 [(aH t17 t18 t19 t20 t21 t22),(.int .i64 t15)] (.one aB) fun (t23:Bool)=>
 cond t23
 (T.brk 3 [(.bool z12.2.1)])
 (deref s_0 fun a24=>
 T.load .slice (a24.add 8) fun (t25:Slc)=>
 T.call 160 [(.pointer s_0),(.int .i64 t15)] (.one aI) fun (t26:Int)=>
 T.still (a24.add 8) (sv t25) <|
 deref t25.1 fun a27=>
 chk (0≤t26∧t26< (t25.2.1:Nat)) <|
 T.load .pointer (a27.add (Int.toNat t26 * 1)) fun (t28:Option Addr)=>
 T.load .slice ⟨r9,1,none⟩ fun (t29:Slc)=>
 chk (0≤(wN z12.1)∧(wN z12.1) ≤((t29.2.1:Nat):Int)∧((t29.2.1:Nat):Int) ≤(t29.2.2:Nat)) <|
 T.call 161 [(.pointer s_0),(.slice (if t29.2.2=Int.toNat (wN z12.1) then t29.1 else Option.map (fun x=>Addr.add x (Int.toNat (wN z12.1) * 1)) t29.1) (Int.toNat ((t29.2.1:Nat):Int) - Int.toNat (wN z12.1)) (t29.2.2 - Int.toNat (wN z12.1))),(.func (.func 139) #[(.pointer t28)] #[])] (.tuple [aB,aB]) fun (t30:Bool×Bool×Unit)=>
 T.join [aB]
 (cond t30.2.1
 (T.join [aB]
 (deref s_0 fun a33=>
 T.load .slice (a33.add 8) fun (t34:Slc)=>
 T.load (.int .i64) ⟨r9,0,none⟩ fun (t35:Int)=>
 T.call 160 [(.pointer s_0),(.int .i64 t35)] (.one aI) fun (t36:Int)=>
 T.still (a33.add 8) (sv t34) <|
 deref t34.1 fun a37=>
 chk (0≤t36∧t36< (t34.2.1:Nat)) <|
 T.load .pointer (a37.add (Int.toNat t36 * 1)) fun (t38:Option Addr)=>
 T.call 139 [(.pointer t28),(.pointer t38)] (.one aB) fun (t39:Bool)=>
 cond t39
 (T.out [(.bool true)])
 (T.out [(.bool t30.1)])) fun (z32:Bool×Unit)=>
 T.out [(.bool z32.1)])
 (T.out [(.bool t30.1)])) fun (z31:Bool×Unit)=>
 T.join [aB]
 (cond z12.2.1
 (T.out [(.bool true)])
 (T.out [(.bool z31.1)])) fun (z40:Bool×Unit)=>
 T.out [(.bool z40.1)])) fun (z13:Bool×Unit)=>
 T.out [(.int .i64 (wN z12.1)),(.bool z13.1)])
 (T.brk 2 [(.int .i64 z12.1),(.bool z12.2.1)])) fun (z11:Int×Bool×Unit)=>
 T.out [(.int .i64 (wN z4.1)),(.bool z11.2.1)])
 (T.brk 0 [(.int .i64 z4.1),(.bool z4.2.1)])) fun (z3:Int×Bool×Unit)=>
 T.ret (.bool z3.2.1)
theorem IV (s_0:Option Addr):Ab Tryz.prog Tryz.f135 [(.pointer s_0)] =Fh s_0:=by kernel_rfl
noncomputable def KG (l_0_p:Option Addr) (l_0_n l_0_c:Nat):T:=
 T.block 0 [aI,aS]
 (T.loop [aI,aS] [(.int .i64 (0:Int)),(.slice none 0 0)] fun (z2:Int×Slc×Unit)=>
 cond (decide (z2.1< ((l_0_n:Nat):Int)))
 (deref l_0_p fun a3=>
 chk (0≤z2.1∧z2.1< (l_0_n:Nat)) <|
 T.load .pointer (a3.add (Int.toNat z2.1 * 1)) fun (t4:Option Addr)=>
 T.call 70 [(.pointer t4)] (.one aS) fun (t5:Slc)=>
 T.new (.cells #[(sv t5)] 30 (0,0)) fun r6=>
 T.sem (Builtin.append_ #[97,97] 97 #[(sv z2.2.1),(.slice (some ⟨r6,0,none⟩) 1 1)]) (.one aS) fun (t7:Slc)=>
 T.out [(.int .i64 (wN z2.1)),(sv t7)])
 (T.brk 0 [(.int .i64 z2.1),(sv z2.2.1)])) fun (z1:Int×Slc×Unit)=>
 T.ret (sv z1.2.1)
theorem MD (l_0_p:Option Addr) (l_0_n l_0_c:Nat):Ab Tryz.prog Tryz.f136 [(.slice l_0_p l_0_n l_0_c)] =KG l_0_p l_0_n l_0_c:=by kernel_rfl
noncomputable def Gn (f_0:Slc×Slc×Slc×Int×Unit) (p_1:Pl6) (seq_2_p:Option Addr) (seq_2_n seq_2_c:Nat):T:=
 T.new (.cells #[(sv f_0.1),(sv f_0.2.1),(sv f_0.2.2.1),(.int .i64 f_0.2.2.2.1)] 133 (0,0)) fun r1=>
 T.new (.cells #[(sv p_1.1),(sv p_1.2.1),(sv p_1.2.2.1),(sv p_1.2.2.2.1),(sv p_1.2.2.2.2.1),(sv p_1.2.2.2.2.2.1)] 32 (0,0)) fun r2=>
 T.load .slice ⟨r2,0,none⟩ fun (t3:Slc)=>
 T.call 138 [(.int .i64 ((t3.2.1:Nat):Int))] (.one aP) fun (t4:Option Addr)=>
 T.block 0 [aI,aB,aS]
 (T.loop [aI,aB,aS] [(.int .i64 (0:Int)),(.bool false),(.slice none 0 0)] fun (z6:Int×Bool×Slc×Unit)=>
 cond (decide (z6.1< ((seq_2_n:Nat):Int)))
 (T.block 1 [aB,aS]
 (deref seq_2_p fun a8=>
 chk (0≤z6.1∧z6.1< (seq_2_n:Nat)) <|
 T.load (.int .i64) (a8.add (Int.toNat z6.1 * 1)) fun (t9:Int)=>
 L6 r2 fun t10 t11 t12 t13 t14 t15=>
 T.call 86 [(aH t10 t11 t12 t13 t14 t15),(.int .i64 t9)] (.one aB) fun (t16:Bool)=>
 cond t16
 (T.call 134 [(.pointer t4),(.int .i64 t9)] (.one aB) fun (t17:Bool)=>
 T.call 70 [(.pointer t4)] (.one aS) fun (t18:Slc)=>
 T.ret (.tuple #[(sv t18),(.bool false)]))
 (T.load .slice ⟨r2,0,none⟩ fun (t19:Slc)=>
 T.join [aB]
 (cond (decide ((IntKind.wrap .i64 (t9 - ((t19.2.1:Nat):Int))) < (0:Int)))
 (T.out [(.bool true)])
 (T.load .slice ⟨r1,1,none⟩ fun (t21:Slc)=>
 T.out [(.bool (decide ((IntKind.wrap .i64 (t9 - ((t19.2.1:Nat):Int))) ≥ ((t21.2.1:Nat):Int))))])) fun (z20:Bool×Unit)=>
 cond z20.1
 (T.brk 1 [(.bool z6.2.1),(sv z6.2.2.1)])
 (T.load .slice ⟨r2,0,none⟩ fun (t22:Slc)=>
 T.load .slice ⟨r1,1,none⟩ fun (t23:Slc)=>
 deref t23.1 fun a24=>
 chk (0≤(IntKind.wrap .i64 (t9 - ((t19.2.1:Nat):Int)))∧(IntKind.wrap .i64 (t9 - ((t19.2.1:Nat):Int))) < (t23.2.1:Nat)) <|
 T.load .slice (a24.add (Int.toNat (IntKind.wrap .i64 (t9 - ((t19.2.1:Nat):Int))) * 1)) fun (t25:Slc)=>
 T.call 140 [(.int .i64 ((t22.2.1:Nat):Int)),(sv t25)] (.one aP) fun (t26:Option Addr)=>
 T.call 139 [(.pointer t4),(.pointer t26)] (.one aB) fun (t27:Bool)=>
 T.load .slice ⟨r1,0,none⟩ fun (t28:Slc)=>
 deref t28.1 fun a29=>
 chk (0≤(IntKind.wrap .i64 (t9 - ((t19.2.1:Nat):Int)))∧(IntKind.wrap .i64 (t9 - ((t19.2.1:Nat):Int))) < (t28.2.1:Nat)) <|
 T.load .bool (a29.add (Int.toNat (IntKind.wrap .i64 (t9 - ((t19.2.1:Nat):Int))) * 1)) fun (t30:Bool)=>
 cond (!t30)
 (T.call 70 [(.pointer t4)] (.one aS) fun (t31:Slc)=>
 T.ret (.tuple #[(sv t31),(.bool false)]))
 (T.out [(.bool z6.2.1),(sv z6.2.2.1)])))) fun (z7:Bool×Slc×Unit)=>
 T.out [(.int .i64 (wN z6.1)),(.bool z7.1),(sv z7.2.1)])
 (T.brk 0 [(.int .i64 z6.1),(.bool z6.2.1),(sv z6.2.2.1)])) fun (z5:Int×Bool×Slc×Unit)=>
 T.call 70 [(.pointer t4)] (.one aS) fun (t32:Slc)=>
 T.ret (.tuple #[(sv t32),(.bool true)])
theorem J0 (f_0:Slc×Slc×Slc×Int×Unit) (p_1:Pl6) (seq_2_p:Option Addr) (seq_2_n seq_2_c:Nat):Ab Tryz.prog Tryz.f146 [(.agg #[(sv f_0.1),(sv f_0.2.1),(sv f_0.2.2.1),(.int .i64 f_0.2.2.2.1)]),(aG p_1),(.slice seq_2_p seq_2_n seq_2_c)] =Gn f_0 p_1 seq_2_p seq_2_n seq_2_c:=by kernel_rfl
noncomputable def IH (s_0:Option Addr) (sym_1:Int):T:=
 deref s_0 fun a1=>
 T.load .slice a1 fun (t2:Slc)=>
 T.ret (.int .i64 (IntKind.wrap .i64 (sym_1 - ((t2.2.1:Nat):Int))))
theorem LI (s_0:Option Addr) (sym_1:Int):Ab Tryz.prog Tryz.f160 [(.pointer s_0),(.int .i64 sym_1)] =IH s_0 sym_1:=by kernel_rfl
noncomputable def Es (s_0:Option Addr) (seq_1_p:Option Addr) (seq_1_n seq_1_c:Nat) (k_2:Option Addr):T:=
 T.block 0 [aI,aB,aB]
 (T.loop [aI,aB,aB] [(.int .i64 (0:Int)),(.bool false),(.bool false)] fun (z2:Int×Bool×Bool×Unit)=>
 cond (decide (z2.1< ((seq_1_n:Nat):Int)))
 (deref seq_1_p fun a3=>
 chk (0≤z2.1∧z2.1< (seq_1_n:Nat)) <|
 T.load (.int .i64) (a3.add (Int.toNat z2.1 * 1)) fun (t4:Int)=>
 deref s_0 fun a5=>
 M6 a5 fun t6 t7 t8 t9 t10 t11=>
 T.call 86 [(aH t6 t7 t8 t9 t10 t11),(.int .i64 t4)] (.one aB) fun (t12:Bool)=>
 cond t12
 (T.join [aB,aB]
 (deref s_0 fun a14=>
 T.load .slice a14 fun (t15:Slc)=>
 T.new (.cells #[(.int .i64 t4)] 3 (0,0)) fun r16=>
 T.call 140 [(.int .i64 ((t15.2.1:Nat):Int)),(.slice (some ⟨r16,0,none⟩) 1 1)] (.one aP) fun (t17:Option Addr)=>
 T.call 139 [(.pointer k_2),(.pointer t17)] (.one aB) fun (t18:Bool)=>
 cond t18
 (T.out [(.bool true),(.bool false)])
 (T.out [(.bool z2.2.2.1),(.bool false)])) fun (z13:Bool×Bool×Unit)=>
 T.ret (.tuple #[(.bool z13.1),(.bool z13.2.1)]))
 (T.join [aB]
 (deref s_0 fun a20=>
 T.load .slice (a20.add 7) fun (t21:Slc)=>
 T.call 160 [(.pointer s_0),(.int .i64 t4)] (.one aI) fun (t22:Int)=>
 T.still (a20.add 7) (sv t21) <|
 deref t21.1 fun a23=>
 chk (0≤t22∧t22< (t21.2.1:Nat)) <|
 T.load .pointer (a23.add (Int.toNat t22 * 1)) fun (t24:Option Addr)=>
 T.call 139 [(.pointer k_2),(.pointer t24)] (.one aB) fun (t25:Bool)=>
 cond t25
 (T.out [(.bool true)])
 (T.out [(.bool z2.2.2.1)])) fun (z19:Bool×Unit)=>
 deref s_0 fun a26=>
 T.load .slice (a26.add 6) fun (t27:Slc)=>
 T.call 160 [(.pointer s_0),(.int .i64 t4)] (.one aI) fun (t28:Int)=>
 T.still (a26.add 6) (sv t27) <|
 deref t27.1 fun a29=>
 chk (0≤t28∧t28< (t27.2.1:Nat)) <|
 T.load .bool (a29.add (Int.toNat t28 * 1)) fun (t30:Bool)=>
 cond (!t30)
 (T.ret (.tuple #[(.bool z19.1),(.bool false)]))
 (T.out [(.int .i64 (wN z2.1)),(.bool z2.2.1),(.bool z19.1)])))
 (T.brk 0 [(.int .i64 z2.1),(.bool z2.2.1),(.bool z2.2.2.1)])) fun (z1:Int×Bool×Bool×Unit)=>
 T.ret (.tuple #[(.bool z1.2.2.1),(.bool true)])
theorem HS (s_0:Option Addr) (seq_1_p:Option Addr) (seq_1_n seq_1_c:Nat) (k_2:Option Addr):Ab Tryz.prog Tryz.f161 [(.pointer s_0),(.slice seq_1_p seq_1_n seq_1_c),(.func (.func 139) #[(.pointer k_2)] #[])] =Es s_0 seq_1_p seq_1_n seq_1_c k_2:=by kernel_rfl
noncomputable def Ns (p_0:Pl6) (a_1:Option Addr):T:=
 T.new (.cells #[(sv p_0.1),(sv p_0.2.1),(sv p_0.2.2.1),(sv p_0.2.2.2.1),(sv p_0.2.2.2.2.1),(sv p_0.2.2.2.2.2.1)] 32 (0,0)) fun r1=>
 L6 r1 fun t2 t3 t4 t5 t6 t7=>
 L6 r1 fun t8 t9 t10 t11 t12 t13=>
 T.both
 (T.call 106 [(aH t8 t9 t10 t11 t12 t13)] (.one (.agg [.slice, .slice, .slice,(.int .i64)])) fun (t14:Slc×Slc×Slc×Int×Unit)=>
 S6 r1 t2 t3 t4 t5 t6 t7<|
 T.both
 (T.new (.map #[] 0) fun r15=>
 S6 r1 t2 t3 t4 t5 t6 t7<|
 T.new (.map #[] 0) fun r16=>
 S6 r1 t2 t3 t4 t5 t6 t7<|
 T.new (.cells #[(sv t2),(sv t3),(sv t4),(sv t5),(sv t6),(sv t7),(.pointer a_1),(sv t14.1),(sv t14.2.1),(sv t14.2.2.1),(.int .i64 t14.2.2.2.1),(.slice none 0 0),(.map (some r15)),(.map (some r16))] 138 (0,0)) fun r17=>
 T.call 107 [(.pointer (some ⟨r17,0,none⟩)),(.func (.func 108) #[(.pointer (some ⟨r17,0,none⟩))] #[])] (.tuple []) fun (t18:Unit)=>
 T.call 109 [(.pointer (some ⟨r17,0,none⟩))] (.tuple [aS,aS]) fun (t19:Slc×Slc×Unit)=>
 T.call 112 [(.pointer (some ⟨r17,0,none⟩))] (.one aS) fun (t20:Slc)=>
 T.call 111 [(sv t19.2.1),(sv t19.1)] (.one aS) fun (t21:Slc)=>
 T.call 111 [(sv t20),(sv t21)] (.one aS) fun (t22:Slc)=>
 T.call 110 [(.pointer (some ⟨r17,0,none⟩)),(sv t22)] (.tuple []) fun (t23:Unit)=>
 T.ret (.pointer (some ⟨r17,0,none⟩)))
 (T.new (.map #[] 0) fun r24=>
 S6 r1 t2 t3 t4 t5 t6 t7<|
 T.new (.map #[] 0) fun r25=>
 S6 r1 t2 t3 t4 t5 t6 t7<|
 T.new (.cells #[(sv t2),(sv t3),(sv t4),(sv t5),(sv t6),(sv t7),(.pointer a_1),(sv t14.1),(sv t14.2.1),(sv t14.2.2.1),(.int .i64 t14.2.2.2.1),(.slice none 0 0),(.map (some r25)),(.map (some r24))] 138 (0,0)) fun r26=>
 T.call 107 [(.pointer (some ⟨r26,0,none⟩)),(.func (.func 108) #[(.pointer (some ⟨r26,0,none⟩))] #[])] (.tuple []) fun (t27:Unit)=>
 T.call 109 [(.pointer (some ⟨r26,0,none⟩))] (.tuple [aS,aS]) fun (t28:Slc×Slc×Unit)=>
 T.call 112 [(.pointer (some ⟨r26,0,none⟩))] (.one aS) fun (t29:Slc)=>
 T.call 111 [(sv t28.2.1),(sv t28.1)] (.one aS) fun (t30:Slc)=>
 T.call 111 [(sv t29),(sv t30)] (.one aS) fun (t31:Slc)=>
 T.call 110 [(.pointer (some ⟨r26,0,none⟩)),(sv t31)] (.tuple []) fun (t32:Unit)=>
 T.ret (.pointer (some ⟨r26,0,none⟩))))
 (T.both
 (T.new (.map #[] 0) fun r33=>
 S6 r1 t8 t9 t10 t11 t12 t13<|
 S6 r1 t2 t3 t4 t5 t6 t7<|
 T.both
 (T.call 106 [(aH t8 t9 t10 t11 t12 t13)] (.one (.agg [.slice, .slice, .slice,(.int .i64)])) fun (t34:Slc×Slc×Slc×Int×Unit)=>
 S6 r1 t2 t3 t4 t5 t6 t7<|
 T.new (.map #[] 0) fun r35=>
 S6 r1 t2 t3 t4 t5 t6 t7<|
 T.new (.cells #[(sv t2),(sv t3),(sv t4),(sv t5),(sv t6),(sv t7),(.pointer a_1),(sv t34.1),(sv t34.2.1),(sv t34.2.2.1),(.int .i64 t34.2.2.2.1),(.slice none 0 0),(.map (some r33)),(.map (some r35))] 138 (0,0)) fun r36=>
 T.call 107 [(.pointer (some ⟨r36,0,none⟩)),(.func (.func 108) #[(.pointer (some ⟨r36,0,none⟩))] #[])] (.tuple []) fun (t37:Unit)=>
 T.call 109 [(.pointer (some ⟨r36,0,none⟩))] (.tuple [aS,aS]) fun (t38:Slc×Slc×Unit)=>
 T.call 112 [(.pointer (some ⟨r36,0,none⟩))] (.one aS) fun (t39:Slc)=>
 T.call 111 [(sv t38.2.1),(sv t38.1)] (.one aS) fun (t40:Slc)=>
 T.call 111 [(sv t39),(sv t40)] (.one aS) fun (t41:Slc)=>
 T.call 110 [(.pointer (some ⟨r36,0,none⟩)),(sv t41)] (.tuple []) fun (t42:Unit)=>
 T.ret (.pointer (some ⟨r36,0,none⟩)))
 (T.new (.map #[] 0) fun r43=>
 S6 r1 t8 t9 t10 t11 t12 t13<|
 S6 r1 t2 t3 t4 t5 t6 t7<|
 T.call 106 [(aH t8 t9 t10 t11 t12 t13)] (.one (.agg [.slice, .slice, .slice,(.int .i64)])) fun (t44:Slc×Slc×Slc×Int×Unit)=>
 S6 r1 t2 t3 t4 t5 t6 t7<|
 T.new (.cells #[(sv t2),(sv t3),(sv t4),(sv t5),(sv t6),(sv t7),(.pointer a_1),(sv t44.1),(sv t44.2.1),(sv t44.2.2.1),(.int .i64 t44.2.2.2.1),(.slice none 0 0),(.map (some r33)),(.map (some r43))] 138 (0,0)) fun r45=>
 T.call 107 [(.pointer (some ⟨r45,0,none⟩)),(.func (.func 108) #[(.pointer (some ⟨r45,0,none⟩))] #[])] (.tuple []) fun (t46:Unit)=>
 T.call 109 [(.pointer (some ⟨r45,0,none⟩))] (.tuple [aS,aS]) fun (t47:Slc×Slc×Unit)=>
 T.call 112 [(.pointer (some ⟨r45,0,none⟩))] (.one aS) fun (t48:Slc)=>
 T.call 111 [(sv t47.2.1),(sv t47.1)] (.one aS) fun (t49:Slc)=>
 T.call 111 [(sv t48),(sv t49)] (.one aS) fun (t50:Slc)=>
 T.call 110 [(.pointer (some ⟨r45,0,none⟩)),(sv t50)] (.tuple []) fun (t51:Unit)=>
 T.ret (.pointer (some ⟨r45,0,none⟩))))
 (T.new (.map #[] 0) fun r52=>
 S6 r1 t8 t9 t10 t11 t12 t13<|
 S6 r1 t2 t3 t4 t5 t6 t7<|
 T.both
 (T.call 106 [(aH t8 t9 t10 t11 t12 t13)] (.one (.agg [.slice, .slice, .slice,(.int .i64)])) fun (t53:Slc×Slc×Slc×Int×Unit)=>
 S6 r1 t2 t3 t4 t5 t6 t7<|
 T.new (.map #[] 0) fun r54=>
 S6 r1 t2 t3 t4 t5 t6 t7<|
 T.new (.cells #[(sv t2),(sv t3),(sv t4),(sv t5),(sv t6),(sv t7),(.pointer a_1),(sv t53.1),(sv t53.2.1),(sv t53.2.2.1),(.int .i64 t53.2.2.2.1),(.slice none 0 0),(.map (some r54)),(.map (some r52))] 138 (0,0)) fun r55=>
 T.call 107 [(.pointer (some ⟨r55,0,none⟩)),(.func (.func 108) #[(.pointer (some ⟨r55,0,none⟩))] #[])] (.tuple []) fun (t56:Unit)=>
 T.call 109 [(.pointer (some ⟨r55,0,none⟩))] (.tuple [aS,aS]) fun (t57:Slc×Slc×Unit)=>
 T.call 112 [(.pointer (some ⟨r55,0,none⟩))] (.one aS) fun (t58:Slc)=>
 T.call 111 [(sv t57.2.1),(sv t57.1)] (.one aS) fun (t59:Slc)=>
 T.call 111 [(sv t58),(sv t59)] (.one aS) fun (t60:Slc)=>
 T.call 110 [(.pointer (some ⟨r55,0,none⟩)),(sv t60)] (.tuple []) fun (t61:Unit)=>
 T.ret (.pointer (some ⟨r55,0,none⟩)))
 (T.new (.map #[] 0) fun r62=>
 S6 r1 t8 t9 t10 t11 t12 t13<|
 S6 r1 t2 t3 t4 t5 t6 t7<|
 T.call 106 [(aH t8 t9 t10 t11 t12 t13)] (.one (.agg [.slice, .slice, .slice,(.int .i64)])) fun (t63:Slc×Slc×Slc×Int×Unit)=>
 S6 r1 t2 t3 t4 t5 t6 t7<|
 T.new (.cells #[(sv t2),(sv t3),(sv t4),(sv t5),(sv t6),(sv t7),(.pointer a_1),(sv t63.1),(sv t63.2.1),(sv t63.2.2.1),(.int .i64 t63.2.2.2.1),(.slice none 0 0),(.map (some r62)),(.map (some r52))] 138 (0,0)) fun r64=>
 T.call 107 [(.pointer (some ⟨r64,0,none⟩)),(.func (.func 108) #[(.pointer (some ⟨r64,0,none⟩))] #[])] (.tuple []) fun (t65:Unit)=>
 T.call 109 [(.pointer (some ⟨r64,0,none⟩))] (.tuple [aS,aS]) fun (t66:Slc×Slc×Unit)=>
 T.call 112 [(.pointer (some ⟨r64,0,none⟩))] (.one aS) fun (t67:Slc)=>
 T.call 111 [(sv t66.2.1),(sv t66.1)] (.one aS) fun (t68:Slc)=>
 T.call 111 [(sv t67),(sv t68)] (.one aS) fun (t69:Slc)=>
 T.call 110 [(.pointer (some ⟨r64,0,none⟩)),(sv t69)] (.tuple []) fun (t70:Unit)=>
 T.ret (.pointer (some ⟨r64,0,none⟩)))))
theorem Ph (p_0:Pl6) (a_1:Option Addr):Ab Tryz.prog Tryz.f69 [(aG p_0),(.pointer a_1)] =Ns p_0 a_1:=by kernel_rfl
noncomputable def GO (l_0:Option Addr) (k_1:Option Addr):T:=
 deref l_0 fun a1=>
 T.load .pointer (a1.add 6) fun (t2:Option Addr)=>
 T.call 20 [(.pointer t2)] (.one aI) fun (t3:Int)=>
 T.block 0 [aI]
 (T.loop [aI] [(.int .i64 (0:Int))] fun (z5:Int×Unit)=>
 cond (decide (z5.1<t3))
 (deref l_0 fun a6=>
 T.load .pointer (a6.add 6) fun (t7:Option Addr)=>
 T.call 34 [(.pointer t7),(.int .i64 z5.1)] (.one aS) fun (t8:Slc)=>
 T.block 2 [aI]
 (T.loop [aI] [(.int .i64 (0:Int))] fun (z10:Int×Unit)=>
 cond (decide (z10.1< ((t8.2.1:Nat):Int)))
 (deref t8.1 fun a11=>
 chk (0≤z10.1∧z10.1< (t8.2.1:Nat)) <|
 T.load (.int .i64) (a11.add (Int.toNat z10.1 * 2)) fun (t12:Int)=>
 T.load (.int .i64) ((a11.add (Int.toNat z10.1 * 2)).add 1) fun (t13:Int)=>
 T.new (.cells #[(.int .i64 (0:Int)),(.int .i64 (0:Int))] 73 (0,0)) fun r14=>
 T.store ⟨r14,0,none⟩ (.int .i64 t12) <|
 T.store ⟨r14,1,none⟩ (.int .i64 t13) <|
 deref l_0 fun a15=>
 M6 a15 fun t16 t17 t18 t19 t20 t21=>
 T.load (.int .i64) ⟨r14,0,none⟩ fun (t22:Int)=>
 T.call 86 [(aH t16 t17 t18 t19 t20 t21),(.int .i64 t22)] (.one aB) fun (t23:Bool)=>
 T.join []
 (cond (!t23)
 (T.load (.int .i64) ⟨r14,0,none⟩ fun (t25:Int)=>
 T.load (.int .i64) ⟨r14,1,none⟩ fun (t26:Int)=>
 T.call 108 [(.pointer k_1),(.agg #[(.int .i64 z5.1),(.int .i64 t25)]),(.int .i64 t26)] (.tuple []) fun (t27:Unit)=>
 T.out [])
 (T.out [])) fun (z24:Unit)=>
 T.out [(.int .i64 (wN z10.1))])
 (T.brk 2 [(.int .i64 z10.1)])) fun (z9:Int×Unit)=>
 T.out [(.int .i64 (wN z5.1))])
 (T.brk 0 [(.int .i64 z5.1)])) fun (z4:Int×Unit)=>
 T.ret (.tuple #[])
theorem JM (l_0:Option Addr) (k_1:Option Addr):Ab Tryz.prog Tryz.f107 [(.pointer l_0),(.func (.func 108) #[(.pointer k_1)] #[])] =GO l_0 k_1:=by kernel_rfl
noncomputable def GP (l_0:Option Addr) (k_1_0:Nat) (k_1_1:Nat) (k_1_2:Nat):T:=
 deref l_0 fun a1=>
 T.load .pointer (a1.add 6) fun (t2:Option Addr)=>
 T.call 20 [(.pointer t2)] (.one aI) fun (t3:Int)=>
 T.block 0 [aI]
 (T.loop [aI] [(.int .i64 (0:Int))] fun (z5:Int×Unit)=>
 cond (decide (z5.1<t3))
 (deref l_0 fun a6=>
 T.load .pointer (a6.add 6) fun (t7:Option Addr)=>
 T.call 34 [(.pointer t7),(.int .i64 z5.1)] (.one aS) fun (t8:Slc)=>
 T.block 2 [aI]
 (T.loop [aI] [(.int .i64 (0:Int))] fun (z10:Int×Unit)=>
 cond (decide (z10.1< ((t8.2.1:Nat):Int)))
 (deref t8.1 fun a11=>
 chk (0≤z10.1∧z10.1< (t8.2.1:Nat)) <|
 T.load (.int .i64) (a11.add (Int.toNat z10.1 * 2)) fun (t12:Int)=>
 T.load (.int .i64) ((a11.add (Int.toNat z10.1 * 2)).add 1) fun (t13:Int)=>
 T.new (.cells #[(.int .i64 (0:Int)),(.int .i64 (0:Int))] 73 (0,0)) fun r14=>
 T.store ⟨r14,0,none⟩ (.int .i64 t12) <|
 T.store ⟨r14,1,none⟩ (.int .i64 t13) <|
 deref l_0 fun a15=>
 M6 a15 fun t16 t17 t18 t19 t20 t21=>
 T.load (.int .i64) ⟨r14,0,none⟩ fun (t22:Int)=>
 T.call 86 [(aH t16 t17 t18 t19 t20 t21),(.int .i64 t22)] (.one aB) fun (t23:Bool)=>
 T.join []
 (cond (!t23)
 (T.load (.int .i64) ⟨r14,0,none⟩ fun (t25:Int)=>
 T.load (.int .i64) ⟨r14,1,none⟩ fun (t26:Int)=>
 T.call 137 [(.agg #[(.int .i64 z5.1),(.int .i64 t25)]),(.int .i64 t26),(.pointer (some ⟨k_1_0,0,none⟩)),(.pointer (some ⟨k_1_1,0,none⟩)),(.pointer (some ⟨k_1_2,0,none⟩))] (.tuple []) fun (t27:Unit)=>
 T.out [])
 (T.out [])) fun (z24:Unit)=>
 T.out [(.int .i64 (wN z10.1))])
 (T.brk 2 [(.int .i64 z10.1)])) fun (z9:Int×Unit)=>
 T.out [(.int .i64 (wN z5.1))])
 (T.brk 0 [(.int .i64 z5.1)])) fun (z4:Int×Unit)=>
 T.ret (.tuple #[])
theorem JN (l_0:Option Addr) (k_1_0:Nat) (k_1_1:Nat) (k_1_2:Nat):Ab Tryz.prog Tryz.f107 [(.pointer l_0),(.func (.func 137) #[] #[(.pointer (some ⟨k_1_0,0,none⟩)),(.pointer (some ⟨k_1_1,0,none⟩)),(.pointer (some ⟨k_1_2,0,none⟩))])] =GP l_0 k_1_0 k_1_1 k_1_2:=by kernel_rfl
noncomputable def EH (l_0:Option Addr) (s_1:Int×Int×Unit) (to_2:Int):T:=
 T.new (.cells #[(.int .i64 s_1.1),(.int .i64 s_1.2.1)] 224 (0,0)) fun r1=>
 deref l_0 fun a2=>
 T.load .map (a2.add 12) fun (t3:Option Nat)=>
 T.load (.int .i64) ⟨r1,0,none⟩ fun (t4:Int)=>
 T.load (.int .i64) ⟨r1,1,none⟩ fun (t5:Int)=>
 deref l_0 fun a6=>
 T.load .slice (a6.add 11) fun (t7:Slc)=>
 T.sem (Sem.bind (Instr.mapUpdate 135 (.map t3) (.agg #[(.int .i64 t4),(.int .i64 t5)]) (.int .i64 ((t7.2.1:Nat):Int))) fun _=> .pure undef) (.tuple []) fun (u8:Unit)=>
 deref l_0 fun a9=>
 T.load .slice (a9.add 11) fun (t10:Slc)=>
 T.load (.int .i64) ⟨r1,0,none⟩ fun (t11:Int)=>
 T.load (.int .i64) ⟨r1,1,none⟩ fun (t12:Int)=>
 T.new (.cells #[(.int .i64 t11),(.int .i64 t12)] 224 (0,0)) fun r13=>
 T.still (a9.add 11) (sv t10) <|
 T.sem (Builtin.append_ #[134,134] 134 #[(sv t10),(.slice (some ⟨r13,0,none⟩) 1 1)]) (.one aS) fun (t14:Slc)=>
 deref l_0 fun a15=>
 T.store (a15.add 11) (sv t14) <|
 T.ret (.tuple #[])
theorem JO (l_0:Option Addr) (s_1:Int×Int×Unit) (to_2:Int):Ab Tryz.prog Tryz.f108 [(.pointer l_0),(.agg #[(.int .i64 s_1.1),(.int .i64 s_1.2.1)]),(.int .i64 to_2)] =EH l_0 s_1 to_2:=by kernel_rfl
noncomputable def GQ (l_0:Option Addr):T:=
 T.new (.cells #[(.pointer l_0)] 42 (0,0)) fun r1=>
 T.new (.cells #[(.slice none 0 0)] 195 (0,0)) fun r2=>
 T.new (.cells #[(.slice none 0 0)] 97 (0,0)) fun r3=>
 T.load .pointer ⟨r1,0,none⟩ fun (t4:Option Addr)=>
 T.call 107 [(.pointer t4),(.func (.func 137) #[] #[(.pointer (some ⟨r1,0,none⟩)),(.pointer (some ⟨r2,0,none⟩)),(.pointer (some ⟨r3,0,none⟩))])] (.tuple []) fun (t5:Unit)=>
 T.load .slice ⟨r2,0,none⟩ fun (t6:Slc)=>
 T.load .slice ⟨r3,0,none⟩ fun (t7:Slc)=>
 T.ret (.tuple #[(sv t6),(sv t7)])
theorem JP (l_0:Option Addr):Ab Tryz.prog Tryz.f109 [(.pointer l_0)] =GQ l_0:=by kernel_rfl
noncomputable def De (s_0:Int×Int×Unit) (to_1:Int) (c_2:Nat) (c_3:Nat) (c_4:Nat):T:=
 T.new (.cells #[(.int .i64 s_0.1),(.int .i64 s_0.2.1)] 224 (0,0)) fun r1=>
 T.load .pointer ⟨c_2,0,none⟩ fun (t2:Option Addr)=>
 deref t2 fun a3=>
 T.load .slice a3 fun (t4:Slc)=>
 T.call 138 [(.int .i64 ((t4.2.1:Nat):Int))] (.one aP) fun (t5:Option Addr)=>
 T.load .pointer ⟨c_2,0,none⟩ fun (t6:Option Addr)=>
 T.call 71 [(.pointer t6),(.int .i64 to_1),(.int .i64 (0:Int))] (.one aB) fun (t7:Bool)=>
 T.join []
 (cond t7
 (T.call 134 [(.pointer t5),(.int .i64 (0:Int))] (.one aB) fun (t9:Bool)=>
 T.out [])
 (T.out [])) fun (z8:Unit)=>
 T.load .pointer ⟨c_2,0,none⟩ fun (t10:Option Addr)=>
 deref t10 fun a11=>
 T.load .pointer (a11.add 6) fun (t12:Option Addr)=>
 T.call 34 [(.pointer t12),(.int .i64 to_1)] (.one aS) fun (t13:Slc)=>
 T.block 0 [aI,aS]
 (T.loop [aI,aS] [(.int .i64 (0:Int)),(.slice none 0 0)] fun (z15:Int×Slc×Unit)=>
 cond (decide (z15.1< ((t13.2.1:Nat):Int)))
 (deref t13.1 fun a16=>
 chk (0≤z15.1∧z15.1< (t13.2.1:Nat)) <|
 T.load (.int .i64) (a16.add (Int.toNat z15.1 * 2)) fun (t17:Int)=>
 T.load (.int .i64) ((a16.add (Int.toNat z15.1 * 2)).add 1) fun (t18:Int)=>
 T.new (.cells #[(.int .i64 (0:Int)),(.int .i64 (0:Int))] 73 (0,0)) fun r19=>
 T.store ⟨r19,0,none⟩ (.int .i64 t17) <|
 T.store ⟨r19,1,none⟩ (.int .i64 t18) <|
 T.load .pointer ⟨c_2,0,none⟩ fun (t20:Option Addr)=>
 deref t20 fun a21=>
 M6 a21 fun t22 t23 t24 t25 t26 t27=>
 T.load (.int .i64) ⟨r19,0,none⟩ fun (t28:Int)=>
 T.call 86 [(aH t22 t23 t24 t25 t26 t27),(.int .i64 t28)] (.one aB) fun (t29:Bool)=>
 T.join [aS]
 (cond t29
 (T.load (.int .i64) ⟨r19,0,none⟩ fun (t31:Int)=>
 T.call 134 [(.pointer t5),(.int .i64 t31)] (.one aB) fun (t32:Bool)=>
 T.out [(sv z15.2.1)])
 (T.load .pointer ⟨c_2,0,none⟩ fun (t33:Option Addr)=>
 deref t33 fun a34=>
 T.load .slice (a34.add 7) fun (t35:Slc)=>
 T.load (.int .i64) ⟨r19,0,none⟩ fun (t36:Int)=>
 T.load .pointer ⟨c_2,0,none⟩ fun (t37:Option Addr)=>
 deref t37 fun a38=>
 T.load .slice a38 fun (t39:Slc)=>
 deref t35.1 fun a40=>
 chk (0≤(IntKind.wrap .i64 (t36 - ((t39.2.1:Nat):Int)))∧(IntKind.wrap .i64 (t36 - ((t39.2.1:Nat):Int))) < (t35.2.1:Nat)) <|
 T.load .bool (a40.add (Int.toNat (IntKind.wrap .i64 (t36 - ((t39.2.1:Nat):Int))) * 1)) fun (t41:Bool)=>
 T.join [aS]
 (cond t41
 (T.load .pointer ⟨c_2,0,none⟩ fun (t43:Option Addr)=>
 deref t43 fun a44=>
 T.load .map (a44.add 12) fun (t45:Option Nat)=>
 T.load (.int .i64) ⟨r19,0,none⟩ fun (t46:Int)=>
 T.sem (Instr.lookup 135 (.map t45) (.agg #[(.int .i64 to_1),(.int .i64 t46)]) false) (.one aI) fun (t47:Int)=>
 T.new (.cells #[(.int .i64 t47)] 3 (0,0)) fun r48=>
 T.sem (Builtin.append_ #[30,30] 30 #[(sv z15.2.1),(.slice (some ⟨r48,0,none⟩) 1 1)]) (.one aS) fun (t49:Slc)=>
 T.out [(sv t49)])
 (T.out [(sv z15.2.1)])) fun (z42:Slc×Unit)=>
 T.out [(sv z42.1)])) fun (z30:Slc×Unit)=>
 T.out [(.int .i64 (wN z15.1)),(sv z30.1)])
 (T.brk 0 [(.int .i64 z15.1),(sv z15.2.1)])) fun (z14:Int×Slc×Unit)=>
 T.load .slice ⟨c_3,0,none⟩ fun (t50:Slc)=>
 T.load .slice ⟨c_4,0,none⟩ fun (t51:Slc)=>
 T.both
 (T.new (.cells #[(.pointer t5)] 139 (0,0)) fun r52=>
 T.still ⟨c_4,0,none⟩ (sv t51) <|
 T.still ⟨c_3,0,none⟩ (sv t50) <|
 T.both
 (T.sem (Builtin.append_ #[195,195] 195 #[(sv t50),(.slice (some ⟨r52,0,none⟩) 1 1)]) (.one aS) fun (t53:Slc)=>
 T.still ⟨c_4,0,none⟩ (sv t51) <|
 T.new (.cells #[(sv z14.2.1)] 30 (0,0)) fun r54=>
 T.still ⟨c_4,0,none⟩ (sv t51) <|
 T.sem (Builtin.append_ #[97,97] 97 #[(sv t51),(.slice (some ⟨r54,0,none⟩) 1 1)]) (.one aS) fun (t55:Slc)=>
 T.store ⟨c_3,0,none⟩ (sv t53) <|
 T.store ⟨c_4,0,none⟩ (sv t55) <|
 T.ret (.tuple #[]))
 (T.new (.cells #[(sv z14.2.1)] 30 (0,0)) fun r56=>
 T.still ⟨c_4,0,none⟩ (sv t51) <|
 T.still ⟨c_3,0,none⟩ (sv t50) <|
 T.sem (Builtin.append_ #[195,195] 195 #[(sv t50),(.slice (some ⟨r52,0,none⟩) 1 1)]) (.one aS) fun (t57:Slc)=>
 T.still ⟨c_4,0,none⟩ (sv t51) <|
 T.sem (Builtin.append_ #[97,97] 97 #[(sv t51),(.slice (some ⟨r56,0,none⟩) 1 1)]) (.one aS) fun (t58:Slc)=>
 T.store ⟨c_3,0,none⟩ (sv t57) <|
 T.store ⟨c_4,0,none⟩ (sv t58) <|
 T.ret (.tuple #[])))
 (T.new (.cells #[(sv z14.2.1)] 30 (0,0)) fun r59=>
 T.still ⟨c_4,0,none⟩ (sv t51) <|
 T.still ⟨c_3,0,none⟩ (sv t50) <|
 T.new (.cells #[(.pointer t5)] 139 (0,0)) fun r60=>
 T.still ⟨c_4,0,none⟩ (sv t51) <|
 T.still ⟨c_3,0,none⟩ (sv t50) <|
 T.sem (Builtin.append_ #[195,195] 195 #[(sv t50),(.slice (some ⟨r60,0,none⟩) 1 1)]) (.one aS) fun (t61:Slc)=>
 T.still ⟨c_4,0,none⟩ (sv t51) <|
 T.sem (Builtin.append_ #[97,97] 97 #[(sv t51),(.slice (some ⟨r59,0,none⟩) 1 1)]) (.one aS) fun (t62:Slc)=>
 T.store ⟨c_3,0,none⟩ (sv t61) <|
 T.store ⟨c_4,0,none⟩ (sv t62) <|
 T.ret (.tuple #[]))
theorem Hv (s_0:Int×Int×Unit) (to_1:Int) (c_2:Nat) (c_3:Nat) (c_4:Nat):Ab Tryz.prog Tryz.f137 [(.agg #[(.int .i64 s_0.1),(.int .i64 s_0.2.1)]),(.int .i64 to_1),(.pointer (some ⟨c_2,0,none⟩)),(.pointer (some ⟨c_3,0,none⟩)),(.pointer (some ⟨c_4,0,none⟩))] =De s_0 to_1 c_2 c_3 c_4:=by kernel_rfl
noncomputable def Et (l_0:Option Addr):T:=
 deref l_0 fun a1=>
 T.load .slice (a1.add 11) fun (t2:Slc)=>
 T.sem (Instr.makeSlice 97 (.int .i64 ((t2.2.1:Nat):Int)) (.int .i64 ((t2.2.1:Nat):Int))) (.one aS) fun (t3:Slc)=>
 deref l_0 fun a4=>
 T.load .slice (a4.add 11) fun (t5:Slc)=>
 T.block 0 [aI]
 (T.loop [aI] [(.int .i64 (0:Int))] fun (z7:Int×Unit)=>
 cond (decide (z7.1< ((t5.2.1:Nat):Int)))
 (deref t5.1 fun a8=>
 chk (0≤z7.1∧z7.1< (t5.2.1:Nat)) <|
 T.load (.int .i64) (a8.add (Int.toNat z7.1 * 2)) fun (t9:Int)=>
 T.load (.int .i64) ((a8.add (Int.toNat z7.1 * 2)).add 1) fun (t10:Int)=>
 T.new (.cells #[(.int .i64 (0:Int)),(.int .i64 (0:Int))] 224 (0,0)) fun r11=>
 T.store ⟨r11,0,none⟩ (.int .i64 t9) <|
 T.store ⟨r11,1,none⟩ (.int .i64 t10) <|
 deref l_0 fun a12=>
 T.load .slice (a12.add 2) fun (t13:Slc)=>
 T.block 2 [aI]
 (T.loop [aI] [(.int .i64 (0:Int))] fun (z15:Int×Unit)=>
 cond (decide (z15.1< ((t13.2.1:Nat):Int)))
 (T.block 3 []
 (deref t13.1 fun a17=>
 chk (0≤z15.1∧z15.1< (t13.2.1:Nat)) <|
 T.load (.int .i64) (a17.add (Int.toNat z15.1 * 3)) fun (t18:Int)=>
 T.load .slice ((a17.add (Int.toNat z15.1 * 3)).add 1) fun (t19:Slc)=>
 T.load (.int .i64) ((a17.add (Int.toNat z15.1 * 3)).add 2) fun (t20:Int)=>
 T.new (.cells #[(.int .i64 (0:Int)),(.slice none 0 0),(.int .i64 (0:Int))] 65 (0,0)) fun r21=>
 T.store ⟨r21,0,none⟩ (.int .i64 t18) <|
 T.store ⟨r21,1,none⟩ (sv t19) <|
 T.store ⟨r21,2,none⟩ (.int .i64 t20) <|
 T.load (.int .i64) ⟨r21,0,none⟩ fun (t22:Int)=>
 T.load (.int .i64) ⟨r11,1,none⟩ fun (t23:Int)=>
 cond (t22 !=t23)
 (T.brk 3 [])
 (T.load (.int .i64) ⟨r11,0,none⟩ fun (t24:Int)=>
 T.load .slice ⟨r21,1,none⟩ fun (t25:Slc)=>
 T.block 4 [aI,aI]
 (T.loop [aI,aI] [(.int .i64 (0:Int)),(.int .i64 t24)] fun (z27:Int×Int×Unit)=>
 cond (decide (z27.1< ((t25.2.1:Nat):Int)))
 (deref t25.1 fun a28=>
 chk (0≤z27.1∧z27.1< (t25.2.1:Nat)) <|
 T.load (.int .i64) (a28.add (Int.toNat z27.1 * 1)) fun (t29:Int)=>
 deref l_0 fun a30=>
 T.load .slice (a30.add 7) fun (t31:Slc)=>
 T.load .slice ((a30.add 7).add 1) fun (t32:Slc)=>
 T.load .slice ((a30.add 7).add 2) fun (t33:Slc)=>
 T.load (.int .i64) ((a30.add 7).add 3) fun (t34:Int)=>
 deref l_0 fun a35=>
 M6 a35 fun t36 t37 t38 t39 t40 t41=>
 T.load .slice ⟨r21,1,none⟩ fun (t42:Slc)=>
 chk (0≤(wN z27.1)∧(wN z27.1) ≤((t42.2.1:Nat):Int)∧((t42.2.1:Nat):Int) ≤(t42.2.2:Nat)) <|
 T.call 146 [(.agg #[(sv t31),(sv t32),(sv t33),(.int .i64 t34)]),(aH t36 t37 t38 t39 t40 t41),(.slice (if t42.2.2=Int.toNat (wN z27.1) then t42.1 else Option.map (fun x=>Addr.add x (Int.toNat (wN z27.1) * 1)) t42.1) (Int.toNat ((t42.2.1:Nat):Int) - Int.toNat (wN z27.1)) (t42.2.2 - Int.toNat (wN z27.1)))] (.tuple [aS,aB]) fun (t43:Slc×Bool×Unit)=>
 T.join [aB]
 (cond t43.2.1
 (deref l_0 fun a45=>
 M6 a45 fun t46 t47 t48 t49 t50 t51=>
 T.call 86 [(aH t46 t47 t48 t49 t50 t51),(.int .i64 t29)] (.one aB) fun (t52:Bool)=>
 T.out [(.bool (!t52))])
 (T.out [(.bool false)])) fun (z44:Bool×Unit)=>
 T.join []
 (cond z44.1
 (deref l_0 fun a54=>
 T.load .map (a54.add 12) fun (t55:Option Nat)=>
 T.sem (Instr.lookup 135 (.map t55) (.agg #[(.int .i64 z27.2.1),(.int .i64 t29)]) false) (.one aI) fun (t56:Int)=>
 deref t3.1 fun a57=>
 chk (0≤t56∧t56< (t3.2.1:Nat)) <|
 T.load .slice (a57.add (Int.toNat t56 * 1)) fun (t58:Slc)=>
 T.new (.cells #[(.int .i64 z7.1)] 3 (0,0)) fun r59=>
 T.sem (Builtin.append_ #[30,30] 30 #[(sv t58),(.slice (some ⟨r59,0,none⟩) 1 1)]) (.one aS) fun (t60:Slc)=>
 deref t3.1 fun a61=>
 chk (0≤t56∧t56< (t3.2.1:Nat)) <|
 T.store (a61.add (Int.toNat t56 * 1)) (sv t60) <|
 T.out [])
 (T.out [])) fun (z53:Unit)=>
 deref l_0 fun a62=>
 T.load .pointer (a62.add 6) fun (t63:Option Addr)=>
 T.call 41 [(.pointer t63),(.int .i64 z27.2.1),(.int .i64 t29)] (.one aI) fun (t64:Int)=>
 T.out [(.int .i64 (wN z27.1)),(.int .i64 t64)])
 (T.brk 4 [(.int .i64 z27.1),(.int .i64 z27.2.1)])) fun (z26:Int×Int×Unit)=>
 T.out [])) fun (z16:Unit)=>
 T.out [(.int .i64 (wN z15.1))])
 (T.brk 2 [(.int .i64 z15.1)])) fun (z14:Int×Unit)=>
 T.out [(.int .i64 (wN z7.1))])
 (T.brk 0 [(.int .i64 z7.1)])) fun (z6:Int×Unit)=>
 T.ret (sv t3)
theorem HT (l_0:Option Addr):Ab Tryz.prog Tryz.f112 [(.pointer l_0)] =Et l_0:=by kernel_rfl
noncomputable def Gp (l_0:Option Addr) (follow_1_p:Option Addr) (follow_1_n follow_1_c:Nat):T:=
 deref l_0 fun a1=>
 T.load .slice (a1.add 11) fun (t2:Slc)=>
 T.block 0 [aI]
 (T.loop [aI] [(.int .i64 (0:Int))] fun (z4:Int×Unit)=>
 cond (decide (z4.1< ((t2.2.1:Nat):Int)))
 (deref t2.1 fun a5=>
 chk (0≤z4.1∧z4.1< (t2.2.1:Nat)) <|
 T.load (.int .i64) (a5.add (Int.toNat z4.1 * 2)) fun (t6:Int)=>
 T.load (.int .i64) ((a5.add (Int.toNat z4.1 * 2)).add 1) fun (t7:Int)=>
 T.new (.cells #[(.int .i64 (0:Int)),(.int .i64 (0:Int))] 224 (0,0)) fun r8=>
 T.store ⟨r8,0,none⟩ (.int .i64 t6) <|
 T.store ⟨r8,1,none⟩ (.int .i64 t7) <|
 deref l_0 fun a9=>
 T.load .slice (a9.add 2) fun (t10:Slc)=>
 T.block 2 [aI]
 (T.loop [aI] [(.int .i64 (0:Int))] fun (z12:Int×Unit)=>
 cond (decide (z12.1< ((t10.2.1:Nat):Int)))
 (T.block 3 []
 (deref t10.1 fun a14=>
 chk (0≤z12.1∧z12.1< (t10.2.1:Nat)) <|
 T.load (.int .i64) (a14.add (Int.toNat z12.1 * 3)) fun (t15:Int)=>
 T.load .slice ((a14.add (Int.toNat z12.1 * 3)).add 1) fun (t16:Slc)=>
 T.load (.int .i64) ((a14.add (Int.toNat z12.1 * 3)).add 2) fun (t17:Int)=>
 T.new (.cells #[(.int .i64 (0:Int)),(.slice none 0 0),(.int .i64 (0:Int))] 65 (0,0)) fun r18=>
 T.store ⟨r18,0,none⟩ (.int .i64 t15) <|
 T.store ⟨r18,1,none⟩ (sv t16) <|
 T.store ⟨r18,2,none⟩ (.int .i64 t17) <|
 T.load (.int .i64) ⟨r18,0,none⟩ fun (t19:Int)=>
 T.load (.int .i64) ⟨r8,1,none⟩ fun (t20:Int)=>
 cond (t19 !=t20)
 (T.brk 3 [])
 (deref l_0 fun a21=>
 T.load .pointer (a21.add 6) fun (t22:Option Addr)=>
 T.load (.int .i64) ⟨r8,0,none⟩ fun (t23:Int)=>
 T.load .slice ⟨r18,1,none⟩ fun (t24:Slc)=>
 T.both
 (T.call 72 [(.pointer t22),(.int .i64 t23),(sv t24)] (.one aI) fun (t25:Int)=>
 T.new (.cells #[(.int .i64 (0:Int)),(.int .i64 (0:Int))] 141 (0,0)) fun r26=>
 T.store ⟨r26,0,none⟩ (.int .i64 t25) <|
 T.store ⟨r26,1,none⟩ (.int .i64 z12.1) <|
 deref l_0 fun a27=>
 T.load .map (a27.add 13) fun (t28:Option Nat)=>
 T.load (.int .i64) ⟨r26,0,none⟩ fun (t29:Int)=>
 T.load (.int .i64) ⟨r26,1,none⟩ fun (t30:Int)=>
 T.sem (Instr.lookup 136 (.map t28) (.agg #[(.int .i64 t29),(.int .i64 t30)]) false) (.one aP) fun (t31:Option Addr)=>
 T.join []
 (cond (Option.isNone t31)
 (deref l_0 fun a33=>
 T.load .map (a33.add 13) fun (t34:Option Nat)=>
 T.load (.int .i64) ⟨r26,0,none⟩ fun (t35:Int)=>
 T.load (.int .i64) ⟨r26,1,none⟩ fun (t36:Int)=>
 deref l_0 fun a37=>
 T.load .slice a37 fun (t38:Slc)=>
 T.call 138 [(.int .i64 ((t38.2.1:Nat):Int))] (.one aP) fun (t39:Option Addr)=>
 T.still ⟨r26,0,none⟩ (.int .i64 t35) <|
 T.still ⟨r26,1,none⟩ (.int .i64 t36) <|
 T.still (a33.add 13) (.map t34) <|
 T.sem (Sem.bind (Instr.mapUpdate 136 (.map t34) (.agg #[(.int .i64 t35),(.int .i64 t36)]) (.pointer t39)) fun _=> .pure undef) (.tuple []) fun (u40:Unit)=>
 T.out [])
 (T.out [])) fun (z32:Unit)=>
 deref l_0 fun a41=>
 T.load .map (a41.add 13) fun (t42:Option Nat)=>
 T.load (.int .i64) ⟨r26,0,none⟩ fun (t43:Int)=>
 T.load (.int .i64) ⟨r26,1,none⟩ fun (t44:Int)=>
 deref follow_1_p fun a45=>
 chk (0≤z4.1∧z4.1< (follow_1_n:Nat)) <|
 T.load .pointer (a45.add (Int.toNat z4.1 * 1)) fun (t46:Option Addr)=>
 T.sem (Instr.lookup 136 (.map t42) (.agg #[(.int .i64 t43),(.int .i64 t44)]) false) (.one aP) fun (t47:Option Addr)=>
 T.still (a45.add (Int.toNat z4.1 * 1)) (.pointer t46) <|
 T.call 139 [(.pointer t47),(.pointer t46)] (.one aB) fun (t48:Bool)=>
 T.out [])
 (T.new (.cells #[(.int .i64 (0:Int)),(.int .i64 (0:Int))] 141 (0,0)) fun r49=>
 T.still ⟨r18,1,none⟩ (sv t24) <|
 T.still ⟨r8,0,none⟩ (.int .i64 t23) <|
 T.still (a21.add 6) (.pointer t22) <|
 T.call 72 [(.pointer t22),(.int .i64 t23),(sv t24)] (.one aI) fun (t50:Int)=>
 T.store ⟨r49,0,none⟩ (.int .i64 t50) <|
 T.store ⟨r49,1,none⟩ (.int .i64 z12.1) <|
 deref l_0 fun a51=>
 T.load .map (a51.add 13) fun (t52:Option Nat)=>
 T.load (.int .i64) ⟨r49,0,none⟩ fun (t53:Int)=>
 T.load (.int .i64) ⟨r49,1,none⟩ fun (t54:Int)=>
 T.sem (Instr.lookup 136 (.map t52) (.agg #[(.int .i64 t53),(.int .i64 t54)]) false) (.one aP) fun (t55:Option Addr)=>
 T.join []
 (cond (Option.isNone t55)
 (deref l_0 fun a57=>
 T.load .map (a57.add 13) fun (t58:Option Nat)=>
 T.load (.int .i64) ⟨r49,0,none⟩ fun (t59:Int)=>
 T.load (.int .i64) ⟨r49,1,none⟩ fun (t60:Int)=>
 deref l_0 fun a61=>
 T.load .slice a61 fun (t62:Slc)=>
 T.call 138 [(.int .i64 ((t62.2.1:Nat):Int))] (.one aP) fun (t63:Option Addr)=>
 T.still ⟨r49,0,none⟩ (.int .i64 t59) <|
 T.still ⟨r49,1,none⟩ (.int .i64 t60) <|
 T.still (a57.add 13) (.map t58) <|
 T.sem (Sem.bind (Instr.mapUpdate 136 (.map t58) (.agg #[(.int .i64 t59),(.int .i64 t60)]) (.pointer t63)) fun _=> .pure undef) (.tuple []) fun (u64:Unit)=>
 T.out [])
 (T.out [])) fun (z56:Unit)=>
 deref l_0 fun a65=>
 T.load .map (a65.add 13) fun (t66:Option Nat)=>
 T.load (.int .i64) ⟨r49,0,none⟩ fun (t67:Int)=>
 T.load (.int .i64) ⟨r49,1,none⟩ fun (t68:Int)=>
 deref follow_1_p fun a69=>
 chk (0≤z4.1∧z4.1< (follow_1_n:Nat)) <|
 T.load .pointer (a69.add (Int.toNat z4.1 * 1)) fun (t70:Option Addr)=>
 T.sem (Instr.lookup 136 (.map t66) (.agg #[(.int .i64 t67),(.int .i64 t68)]) false) (.one aP) fun (t71:Option Addr)=>
 T.still (a69.add (Int.toNat z4.1 * 1)) (.pointer t70) <|
 T.call 139 [(.pointer t71),(.pointer t70)] (.one aB) fun (t72:Bool)=>
 T.out []))) fun (z13:Unit)=>
 T.out [(.int .i64 (wN z12.1))])
 (T.brk 2 [(.int .i64 z12.1)])) fun (z11:Int×Unit)=>
 T.out [(.int .i64 (wN z4.1))])
 (T.brk 0 [(.int .i64 z4.1)])) fun (z3:Int×Unit)=>
 deref l_0 fun a73=>
 T.load .pointer (a73.add 6) fun (t74:Option Addr)=>
 T.call 20 [(.pointer t74)] (.one aI) fun (t75:Int)=>
 T.block 4 [aI]
 (T.loop [aI] [(.int .i64 (0:Int))] fun (z77:Int×Unit)=>
 cond (decide (z77.1<t75))
 (T.call 71 [(.pointer l_0),(.int .i64 z77.1),(.int .i64 (0:Int))] (.one aB) fun (t78:Bool)=>
 T.join []
 (cond t78
 (deref l_0 fun a80=>
 T.load .map (a80.add 13) fun (t81:Option Nat)=>
 deref l_0 fun a82=>
 T.load .slice a82 fun (t83:Slc)=>
 T.new (.cells #[(.int .i64 (0:Int))] 3 (0,0)) fun r84=>
 T.still a82 (sv t83) <|
 T.still (a80.add 13) (.map t81) <|
 T.call 140 [(.int .i64 ((t83.2.1:Nat):Int)),(.slice (some ⟨r84,0,none⟩) 1 1)] (.one aP) fun (t85:Option Addr)=>
 T.still (a80.add 13) (.map t81) <|
 T.sem (Sem.bind (Instr.mapUpdate 136 (.map t81) (.agg #[(.int .i64 z77.1),(.int .i64 (0:Int))]) (.pointer t85)) fun _=> .pure undef) (.tuple []) fun (u86:Unit)=>
 T.out [])
 (T.out [])) fun (z79:Unit)=>
 T.out [(.int .i64 (wN z77.1))])
 (T.brk 4 [(.int .i64 z77.1)])) fun (z76:Int×Unit)=>
 T.ret (.tuple #[])
theorem J1 (l_0:Option Addr) (follow_1_p:Option Addr) (follow_1_n follow_1_c:Nat):Ab Tryz.prog Tryz.f110 [(.pointer l_0),(.slice follow_1_p follow_1_n follow_1_c)] =Gp l_0 follow_1_p follow_1_n follow_1_c:=by kernel_rfl
noncomputable def Gq (l_0:Option Addr) (state_1:Int) (rule_2:Int):T:=
 T.join [aB]
 (cond (decide (rule_2< (0:Int)))
 (T.out [(.bool true)])
 (deref l_0 fun a2=>
 T.load .slice (a2.add 2) fun (t3:Slc)=>
 T.out [(.bool (decide (rule_2≥ ((t3.2.1:Nat):Int))))])) fun (z1:Bool×Unit)=>
 cond z1.1
 (T.ret (.bool false))
 (deref l_0 fun a4=>
 T.load .pointer (a4.add 6) fun (t5:Option Addr)=>
 deref l_0 fun a6=>
 T.load .slice (a6.add 2) fun (t7:Slc)=>
 deref t7.1 fun a8=>
 chk (0≤rule_2∧rule_2< (t7.2.1:Nat)) <|
 T.load .slice ((a8.add (Int.toNat rule_2 * 3)).add 1) fun (t9:Slc)=>
 T.call 32 [(.pointer t5),(.int .i64 state_1)] (.one aS) fun (t10:Slc)=>
 T.still ((a8.add (Int.toNat rule_2 * 3)).add 1) (sv t9) <|
 T.still (a6.add 2) (sv t7) <|
 T.call 115 [(sv t10),(.agg #[(.int .i64 rule_2),(.int .i64 ((t9.2.1:Nat):Int))])] (.one aB) fun (t11:Bool)=>
 T.ret (.bool t11))
theorem J2 (l_0:Option Addr) (state_1:Int) (rule_2:Int):Ab Tryz.prog Tryz.f71 [(.pointer l_0),(.int .i64 state_1),(.int .i64 rule_2)] =Gq l_0 state_1 rule_2:=by kernel_rfl
noncomputable def Gs (l_0:Option Addr) (state_1:Int):T:=
 deref l_0 fun a1=>
 T.load .pointer (a1.add 6) fun (t2:Option Addr)=>
 T.call 32 [(.pointer t2),(.int .i64 state_1)] (.one aS) fun (t3:Slc)=>
 T.block 0 [aI,aS]
 (T.loop [aI,aS] [(.int .i64 (0:Int)),(.slice none 0 0)] fun (z5:Int×Slc×Unit)=>
 cond (decide (z5.1< ((t3.2.1:Nat):Int)))
 (deref t3.1 fun a6=>
 chk (0≤z5.1∧z5.1< (t3.2.1:Nat)) <|
 T.load (.int .i64) (a6.add (Int.toNat z5.1 * 2)) fun (t7:Int)=>
 T.load (.int .i64) ((a6.add (Int.toNat z5.1 * 2)).add 1) fun (t8:Int)=>
 T.new (.cells #[(.int .i64 (0:Int)),(.int .i64 (0:Int))] 70 (0,0)) fun r9=>
 T.store ⟨r9,0,none⟩ (.int .i64 t7) <|
 T.store ⟨r9,1,none⟩ (.int .i64 t8) <|
 T.load (.int .i64) ⟨r9,1,none⟩ fun (t10:Int)=>
 deref l_0 fun a11=>
 T.load .slice (a11.add 2) fun (t12:Slc)=>
 T.load (.int .i64) ⟨r9,0,none⟩ fun (t13:Int)=>
 deref t12.1 fun a14=>
 chk (0≤t13∧t13< (t12.2.1:Nat)) <|
 T.load .slice ((a14.add (Int.toNat t13 * 3)).add 1) fun (t15:Slc)=>
 T.join [aS]
 (cond (t10==((t15.2.1:Nat):Int))
 (T.load (.int .i64) ⟨r9,0,none⟩ fun (t17:Int)=>
 T.new (.cells #[(.int .i64 t17)] 3 (0,0)) fun r18=>
 T.sem (Builtin.append_ #[30,30] 30 #[(sv z5.2.1),(.slice (some ⟨r18,0,none⟩) 1 1)]) (.one aS) fun (t19:Slc)=>
 T.out [(sv t19)])
 (T.out [(sv z5.2.1)])) fun (z16:Slc×Unit)=>
 T.out [(.int .i64 (wN z5.1)),(sv z16.1)])
 (T.brk 0 [(.int .i64 z5.1),(sv z5.2.1)])) fun (z4:Int×Slc×Unit)=>
 T.ret (sv z4.2.1)
theorem J3 (l_0:Option Addr) (state_1:Int):Ab Tryz.prog Tryz.f22 [(.pointer l_0),(.int .i64 state_1)] =Gs l_0 state_1:=by kernel_rfl
noncomputable def II (l_0:Option Addr) (state_1:Int) (rule_2:Int):T:=
 deref l_0 fun a1=>
 T.load .map (a1.add 13) fun (t2:Option Nat)=>
 T.sem (Instr.lookup 136 (.map t2) (.agg #[(.int .i64 state_1),(.int .i64 rule_2)]) false) (.one aP) fun (t3:Option Addr)=>
 cond (Option.isNone t3)
 (T.ret (.slice none 0 0))
 (T.call 70 [(.pointer t3)] (.one aS) fun (t4:Slc)=>
 T.ret (sv t4))
theorem LJ (l_0:Option Addr) (state_1:Int) (rule_2:Int):Ab Tryz.prog Tryz.f24 [(.pointer l_0),(.int .i64 state_1),(.int .i64 rule_2)] =II l_0 state_1 rule_2:=by kernel_rfl
noncomputable def Gt (l_0:Option Addr) (state_1:Int) (rule_2:Int):T:=
 T.call 71 [(.pointer l_0),(.int .i64 state_1),(.int .i64 rule_2)] (.one aB) fun (t1:Bool)=>
 cond (!t1)
 (T.ret (.slice none 0 0))
 (deref l_0 fun a2=>
 T.load .slice (a2.add 2) fun (t3:Slc)=>
 deref t3.1 fun a4=>
 chk (0≤rule_2∧rule_2< (t3.2.1:Nat)) <|
 T.load (.int .i64) (a4.add (Int.toNat rule_2 * 3)) fun (t5:Int)=>
 T.load .slice ((a4.add (Int.toNat rule_2 * 3)).add 1) fun (t6:Slc)=>
 T.load (.int .i64) ((a4.add (Int.toNat rule_2 * 3)).add 2) fun (t7:Int)=>
 T.new (.cells #[(.int .i64 (0:Int)),(.slice none 0 0),(.int .i64 (0:Int))] 65 (0,0)) fun r8=>
 T.store ⟨r8,0,none⟩ (.int .i64 t5) <|
 T.store ⟨r8,1,none⟩ (sv t6) <|
 T.store ⟨r8,2,none⟩ (.int .i64 t7) <|
 deref l_0 fun a9=>
 T.load .pointer (a9.add 6) fun (t10:Option Addr)=>
 T.call 20 [(.pointer t10)] (.one aI) fun (t11:Int)=>
 T.block 0 [aI,aS]
 (T.loop [aI,aS] [(.int .i64 (0:Int)),(.slice none 0 0)] fun (z13:Int×Slc×Unit)=>
 cond (decide (z13.1<t11))
 (deref l_0 fun a14=>
 T.load .pointer (a14.add 6) fun (t15:Option Addr)=>
 T.load (.int .i64) ⟨r8,0,none⟩ fun (t16:Int)=>
 T.call 41 [(.pointer t15),(.int .i64 z13.1),(.int .i64 t16)] (.one aI) fun (t17:Int)=>
 T.join [aB]
 (cond (decide (t17≥ (0:Int)))
 (deref l_0 fun a19=>
 T.load .pointer (a19.add 6) fun (t20:Option Addr)=>
 T.load .slice ⟨r8,1,none⟩ fun (t21:Slc)=>
 T.call 72 [(.pointer t20),(.int .i64 z13.1),(sv t21)] (.one aI) fun (t22:Int)=>
 T.out [(.bool (t22==state_1))])
 (T.out [(.bool false)])) fun (z18:Bool×Unit)=>
 T.join [aS]
 (cond z18.1
 (T.load (.int .i64) ⟨r8,0,none⟩ fun (t24:Int)=>
 T.new (.cells #[(.int .i64 t24),(.int .i64 t17)] 73 (0,0)) fun r25=>
 T.sem (Builtin.append_ #[54,54] 54 #[(sv z13.2.1),(.slice (some ⟨r25,0,none⟩) 1 1)]) (.one aS) fun (t26:Slc)=>
 T.out [(sv t26)])
 (T.out [(sv z13.2.1)])) fun (z23:Slc×Unit)=>
 T.out [(.int .i64 (wN z13.1)),(sv z23.1)])
 (T.brk 0 [(.int .i64 z13.1),(sv z13.2.1)])) fun (z12:Int×Slc×Unit)=>
 T.ret (sv z12.2.1))
theorem J4 (l_0:Option Addr) (state_1:Int) (rule_2:Int):Ab Tryz.prog Tryz.f27 [(.pointer l_0),(.int .i64 state_1),(.int .i64 rule_2)] =Gt l_0 state_1 rule_2:=by kernel_rfl
end Go.Proofs.YteolcjbobmpdiaaGreatDoor
namespace Go.Proofs.YteolcjbobmpdiaaGreatDoor
open Go Go.Eng Dg
set_option linter.unusedVariables false
set_option maxRecDepth 100000
structure PlK (φ:AC) (t:Slc×Slc×Slc×Slc×Slc×Slc×Unit) (p:dtP):Prop where
 k0:Ro.SliceIs Ro.str φ t.1 p.1
 k1:Ro.SliceIs Ro.str φ t.2.1 p.2.1
 k2:Ro.SliceIs CF φ t.2.2.1 p.2.2.1
 k3:Ro.SliceIs (Ro.int .i64) φ t.2.2.2.1 p.2.2.2.1
 k4:Ro.SliceIs (Ro.int .i64) φ t.2.2.2.2.1 p.2.2.2.2.1
 k5:Ro.SliceIs Ro.str φ t.2.2.2.2.2.1 p.2.2.2.2.2
theorem PlK.mono {φ ψ:AC} {t:Slc×Slc×Slc×Slc×Slc×Slc×Unit} {p:dtP} (H:PlK φ t p) (hs:Sub φ ψ):PlK ψ t p:=
 ⟨H.k0.mono hs,H.k1.mono hs,H.k2.mono hs,H.k3.mono hs,H.k4.mono hs,H.k5.mono hs⟩
abbrev plV (t:Slc×Slc×Slc×Slc×Slc×Slc×Unit):List Value:= [sv t.1,sv t.2.1,sv t.2.2.1,sv t.2.2.2.1,sv t.2.2.2.2.1,sv t.2.2.2.2.2.1]
structure FsK (φ:AC) (a:Addr) (t:Slc×Slc×Slc×Slc×Slc×Slc×Unit) (n f g:Slc) (p:dtP) (ps qs:List (Option Addr)):Prop where
 cells:Cy φ (some a) (plV t++ [sv n,sv f,sv g])
 pl:PlK φ t p
 kf:Ro.SliceIs Ro.pt φ f ps
 kg:Ro.SliceIs Ro.pt φ g qs
section
variable {φ ψ:AC} {h:AH} {F:List Chk} {a:Addr} {t:Slc×Slc×Slc×Slc×Slc×Slc×Unit} {n f g:Slc} {p:dtP} {ps qs:List (Option Addr)}
theorem FsK.mono (H:FsK φ a t n f g p ps qs) (hs:Sub φ ψ):FsK ψ a t n f g p ps qs:=⟨H.cells.mono hs,H.pl.mono hs,H.kf.mono hs,H.kg.mono hs⟩
theorem FsK.at (H:FsK φ a t n f g p ps qs) (st:St φ F h) {j:Nat} {v:Value} (hv:(plV t++ [sv n,sv f,sv g])[j]? =some v):BH h (a.add j)=some v:=AE st.sub (H.cells.at j hv)
theorem Oc {K:Bool→T} {P:Bi→AH→Prop} (cells: ∀j v,(plV t)[j]? =some v→BH h (a.add j)=some v) (k:PlK φ t p) (st:St φ F h) {s:Int} {r:Bool} (hd:BZ p s=some r)
 (hk: ∀ψ h',Sub φ ψ→St ψ F h'→(K r).wp Tryz.prog P h'):
 (T.load .slice a fun (t6:Slc)=>T.load .slice (a.add 1) fun (t7:Slc)=>T.load .slice (a.add 2) fun (t8:Slc)=>T.load .slice (a.add 3) fun (t9:Slc)=>T.load .slice (a.add 4) fun (t10:Slc)=>T.load .slice (a.add 5) fun (t11:Slc)=>
  T.call 86 [(.agg #[(sv t6),(sv t7),(sv t8),(sv t9),(sv t10),(sv t11)]),(.int .i64 s)] (.one aB) K).wp Tryz.prog P h:=by
 have e0:a.add 0=a:=by cases a; rfl
 refine AG (x:=t.1) (by have:=cells 0 _ rfl; rwa [e0] at this) rfl ?_
 refine AG (x:=t.2.1) (cells 1 _ rfl) rfl ?_
 refine AG (x:=t.2.2.1) (cells 2 _ rfl) rfl ?_
 refine AG (x:=t.2.2.2.1) (cells 3 _ rfl) rfl ?_
 refine AG (x:=t.2.2.2.2.1) (cells 4 _ rfl) rfl ?_
 refine AG (x:=t.2.2.2.2.2.1) (cells 5 _ rfl) rfl ?_
 refine AI (EZ (p_0:=t) k.k0 k.k1 k.k2 k.k3 k.k4 k.k5 st hd) ?_
 rintro _ h1 ⟨ψ,y,le,rfl,rfl,s1⟩
 exact ⟨y,rfl,hk ψ h1 le s1⟩
theorem FsK.pv (H:FsK φ a t n f g p ps qs) (st:St φ F h): ∀j v,(plV t)[j]? =some v→BH h (a.add j)=some v:=fun j v hv=>H.at st (by
 rw [List.getElem?_append_left (List.getElem?_eq_some_iff.1 hv).1]; exact hv)
theorem add_zero (a:Addr):a.add 0=a:=by cases a; rfl
theorem M0 (H:FsK φ a t n f g p ps qs) (st:St φ F h) (s:Int):
 CallsH Tryz.prog 160 [.pointer (some a), .int .i64 s] h (Ar fun v h'=>v=((.one aI):Sh).val (IntKind.wrap .i64 (s - nT p))∧St φ F h'):=by
 refine AR mixed Tryz.func160 ?_
 rw [LI]
 unfold IH
 refine AF _ rfl (AG (x:=t.1) (by have:=H.at st (j:=0) rfl; rwa [add_zero] at this) rfl ?_)
 have e:t.1.2.1=p.1.length:=H.pl.k0.length
 rw [e]
 exact AB ⟨rfl,st⟩
theorem T8 {α:Type} {l:List α} {k:Nat} {x:α} (h:idx l (k:Int)=some x):l[k]? =some x:=by rw [Cw] at h; exact h
theorem Qo {ps qs:List (Option Addr)} {k:Nat} {q:Option Addr} (h:ps[k]? =some q):(ps++qs)[k]? =some q:=by rw [List.getElem?_append_left (List.getElem?_eq_some_iff.1 h).1]; exact h
abbrev fsC (n:Slc) (null:List Bool) (ps:List (Option Addr)) (ss:List AW) (F:List Chk):List Chk:=cR 4 Ro.bool n null::(AP ps ss++F)
set_option maxHeartbeats 1000000 in
theorem M1 (gk:Dg.Glob φ) (K:FsK φ a t n f g p ps qs) {sq:Slc} {seq:List Int} (ks:Ro.SliceIs (Ro.int .i64) φ sq seq) {null:List Bool} {ss:List AW} {x:Nat} {q:Option Addr} (hq:(ps++qs)[x]? =some q) (hl:(ps++qs).length=ss.length) {r:Bool×Bool×List AW}
 (hd:Jg p ((ps.length:Nat):Int) null (x:Int) ss seq=some r) (s0:St φ (fsC n null (ps++qs) ss F) h):
 CallsH Tryz.prog 161 [.pointer (some a),sv sq, .func (.func 139) #[.pointer q] #[]] h (Ar fun v h'=> ∃ψ:AC,Sub φ ψ∧v=((.tuple [aB,aB]):Sh).val (r.1,r.2.1,())∧r.2.2.length=ss.length∧St ψ (fsC n null (ps++qs) r.2.2 F) h'):=by
 refine AR mixed Tryz.func161 ?_
 rw [HS]
 unfold Es
 unfold Jg at hd
 have nk:=ks.length
 obtain ⟨g3,hx4,hd⟩:=bS hd
 refine AT (fun (y:Int×Bool×Bool×Unit) w g=> ∃(ψ:AC) (ss':List AW),Sub φ ψ∧g=AU.next (y.2.2.1,ss')∧ss'.length=ss.length∧St ψ (fsC n null (ps++qs) ss' F) w) (g:=g3) ?_ ?_
 ·refine Be hx4 (fun i (y:Int×Bool×Bool×Unit) w g=> ∃(ψ:AC),Sub φ ψ∧y.1=i∧y.2.2.1=g.1∧g.2.length=ss.length∧St ψ (fsC n null (ps++qs) g.2 F) w) ((0:Int),false,false,()) rfl ⟨φ,Sub.refl _,rfl,rfl,rfl,s0⟩ ?_ ?_
  ·rintro i z w ⟨gr,s1⟩ e ⟨ψ,le,rfl,hg,hl1,st⟩ he h0 hlt hw hb
   dsimp only at hg hl1 st he
   subst hg
   refine Ai (by rw [nk]; exact decide_eq_true hlt) ?_
   obtain ⟨sym,hs1,he⟩:=bS he
   obtain ⟨tm,ht1,he⟩:=bS he
   obtain ⟨A1,cs1,ea1,hi1,r1,cl1⟩:=(ks.mono le).get hs1
   refine AF _ ea1 (Aa hi1 ?_)
   obtain rfl:=r1
   refine AG (x:=sym) (AE st.sub (cl1 0 _ rfl)) rfl ?_
   refine AF _ rfl (Oc ((K.mono le).pv st) (K.mono le).pl st ht1 ?_)
   intro ψ1 h1 le1 st1
   have le':=le.trans le1
   refine AL he rfl (fun _ he=> ?_) (fun _ he=> ?_)
   ·obtain ⟨o,ho,he⟩:=bS he
    obtain ⟨u,hu,he⟩:=bS he
    obtain rfl:=iS he
    obtain rfl:=hb _ rfl
    obtain rfl:=iS hd
    unfold U3 at hu
    obtain ⟨s,hs,hu⟩:=bS hu
    obtain ⟨ok,hu⟩:=B0 hu
    obtain rfl:=iS hu
    refine Ao (fun (y:Bool×Bool×Unit) w (_:Unit)=>y=(Ee s o || z.2.2.1,false,())∧ ∃ψ,Sub φ ψ∧St ψ (fsC n null (ps++qs) (s1.set x (BB s o)) F) w) (g:=()) ?_ ?_
    ·refine AF _ rfl ?_
     refine AG (x:=t.1) (by have:=(K.mono le').at st1 (j:=0) rfl; rwa [add_zero] at this) rfl ?_
     refine AY (vs:= [.int .i64 sym]) st1 ?_
     intro r16 h2 st2
     have st3:=St.lit (r:=Ro.int .i64) (l:= [sym]) (n:=1) st2 (.cons (a:= [_]) rfl .nil) rfl (by decide)
     obtain ⟨ψ2,le2,k2,st4⟩:=St.freezeRow (t:=(some ⟨r16,0,none⟩,1,1)) st3
     have e:t.1.2.1=p.1.length:=K.pl.k0.length
     rw [e]
     refine AI (D2 k2 st4 ho) ?_
     rintro _ h3 ⟨ψ3,p',l3,le3,rfl,rfl,st5⟩
     refine ⟨p',rfl,?_⟩
     have st6:St ψ3 (BR p' l3::(AP (ps++qs) s1++(cR 4 Ro.bool n null::F))) h3:=st5.perm (List.Perm.cons _ (List.perm_middle (l₁:=AP (ps++qs) s1)).symm)
     refine AI (PP (gk.mono ((le'.trans le2).trans le3)) (T8 hs) hq ok st6) ?_
     rintro _ h4 ⟨ψ4,le4,rfl,st7⟩
     refine ⟨_,rfl,?_⟩
     have st8:St ψ4 (fsC n null (ps++qs) (s1.set x (BB s l3)) F) h4:=st7.tail.perm (List.perm_middle (l₁:=AP (ps++qs) (s1.set x (BB s l3))))
     cases hgr:Ee s l3
     ·exact AX rfl (AS (z.2.2.1,false,()) rfl ⟨by simp,ψ4,((le'.trans le2).trans le3).trans le4,st8⟩)
     ·exact Ai rfl (AS (true,false,()) rfl ⟨by simp,ψ4,((le'.trans le2).trans le3).trans le4,st8⟩)
    ·rintro y h5 ⟨rfl,ψ5,le5,st9⟩
     exact Af (Ah (AB ⟨ψ5,le5,rfl,by simp [hl1],st9⟩))
   ·obtain ⟨hm,he⟩:=B0 he
    obtain ⟨u,hu,he⟩:=bS he
    obtain ⟨b,hb1,he⟩:=bS he
    unfold SK at hu
    obtain ⟨s,hs,hu⟩:=bS hu
    obtain ⟨o,ho,hu⟩:=bS hu
    obtain ⟨ok,hu⟩:=B0 hu
    obtain rfl:=iS hu
    obtain ⟨y0,y1,y2⟩:=Cz ho
    obtain ⟨k,hk⟩: ∃k:Nat,IntKind.wrap .i64 (sym - nT p)=(k:Int):=⟨_,(Int.toNat_of_nonneg y0).symm⟩
    have hkp:k<ps.length:=by omega
    have hpk:ps[k]? =some ps[k] :=List.getElem?_eq_getElem hkp
    rw [hk] at ho hb1
    refine Ao (fun (y:Bool×Unit) w (_:Unit)=>y=(Ee s o || z.2.2.1,())∧ ∃ψ,Sub φ ψ∧St ψ (fsC n null (ps++qs) (s1.set x (BB s o)) F) w) (g:=()) ?_ ?_
    ·refine AF _ rfl ?_
     refine AG (x:=f) ((K.mono le').at st1 (j:=7) rfl) rfl ?_
     refine AI (M0 (K.mono le') st1 sym) ?_
     rintro _ h2 ⟨rfl,st2⟩
     refine ⟨_,rfl,?_⟩
     refine AO ((K.mono le').at st2 (j:=7) rfl) ?_
     rw [hk]
     obtain ⟨A2,cs2,ea2,hi2,r2,cl2⟩:=((K.mono le').kf).get (i:=(k:Int)) (by rw [Cw]; exact hpk)
     refine AF _ ea2 (Aa hi2 ?_)
     obtain rfl:=r2
     refine AG (x:=ps[k]) (AE st2.sub (cl2 0 _ rfl)) rfl ?_
     have st3:St ψ1 (AP (ps++qs) s1++(cR 4 Ro.bool n null::F)) h2:=st2.perm (List.perm_middle (l₁:=AP (ps++qs) s1)).symm
     refine AI (RF (gk.mono le') (T8 hs) (T8 ho) hq (Qo hpk) ok st3) ?_
     rintro _ h3 ⟨ψ4,le4,rfl,st4⟩
     refine ⟨_,rfl,?_⟩
     have st8:St ψ4 (fsC n null (ps++qs) (s1.set x (BB s o)) F) h3:=st4.perm (List.perm_middle (l₁:=AP (ps++qs) (s1.set x (BB s o))))
     cases hgr:Ee s o
     ·exact AX rfl (AS (z.2.2.1,()) rfl ⟨by simp,ψ4,le'.trans le4,st8⟩)
     ·exact Ai rfl (AS (true,()) rfl ⟨by simp,ψ4,le'.trans le4,st8⟩)
    ·rintro y h5 ⟨rfl,ψ5,le5,st9⟩
     refine AF _ rfl ?_
     refine AG (x:=n) ((K.mono le5).at st9 (j:=6) rfl) rfl ?_
     refine AI (M0 (K.mono le5) st9 sym) ?_
     rintro _ h6 ⟨rfl,st10⟩
     refine ⟨_,rfl,?_⟩
     refine AO ((K.mono le5).at st10 (j:=6) rfl) ?_
     rw [hk]
     obtain ⟨A2,cs2,ea2,hi2,r2,cl2⟩:=st10.get hb1
     refine AF _ ea2 (Aa hi2 ?_)
     obtain rfl:=r2
     refine AG (x:=b) (cl2 0 _ rfl) rfl ?_
     cases b
     ·obtain rfl:=iS he
      obtain rfl:=hb _ rfl
      obtain rfl:=iS hd
      refine Ai rfl ?_
      exact Af (Ah (AB ⟨ψ5,le5,rfl,by simp [hl1],st10⟩))
     ·obtain rfl:=iS he
      refine AX rfl ?_
      exact Ag (IntKind.wrap .i64 (z.1+(1:Int)),z.2.1,Ee s o || z.2.2.1,()) _ rfl rfl ⟨ψ5,le5,hw,rfl,by simp [hl1],st10⟩
  ·rintro i z w ⟨gr,s1⟩ ⟨ψ,le,rfl,hg,hl1,st⟩ hge hr
   subst hr
   dsimp only at hg hl1 st
   refine AX (by rw [nk]; exact decide_eq_false (Int.not_lt.2 hge)) ?_
   exact AJ (AK z rfl ⟨ψ,s1,le,by rw [hg],hl1,st⟩)
 ·rintro z h1 ⟨ψ,ss',le,rfl,hl1,st⟩
  obtain rfl:=iS hd
  exact AB ⟨ψ,le,rfl,hl1,st⟩
end
section
variable {φ ψ:AC} {h:AH} {F:List Chk} {a:Addr} {t:Slc×Slc×Slc×Slc×Slc×Slc×Unit} {n f g:Slc} {p:dtP} {ps qs:List (Option Addr)}
theorem MH {R:Slc} {rs:List BC} {i:Int} {r:BC} {K:Nat→T} {P:Bi→AH→Prop} (k:Ro.SliceIs CF φ R rs) (hr:idx rs i=some r) (st:St φ F h)
 (hk: ∀(r9:Nat) (u:Slc) (h':AH),Ro.SliceIs (Ro.int .i64) φ u r.2.1→St φ (⟨Rep.raw 65, [.pointer (some ⟨r9,0,none⟩)], [.int .i64 r.1,sv u, .int .i64 r.2.2]⟩::F) h'→(K r9).wp Tryz.prog P h'):
 (deref R.1 fun a5=>chk (0≤i∧i< (R.2.1:Nat)) <| T.load (.int .i64) (a5.add (Int.toNat i * 3)) fun (t6:Int)=>T.load .slice ((a5.add (Int.toNat i * 3)).add 1) fun (t7:Slc)=>T.load (.int .i64) ((a5.add (Int.toNat i * 3)).add 2) fun (t8:Int)=>
  T.new (.cells #[(.int .i64 (0:Int)),(.slice none 0 0),(.int .i64 (0:Int))] 65 (0,0)) fun r9=>T.store ⟨r9,0,none⟩ (.int .i64 t6) <| T.store ⟨r9,1,none⟩ (sv t7) <| T.store ⟨r9,2,none⟩ (.int .i64 t8) <| K r9).wp Tryz.prog P h:=by
 obtain ⟨A1,cs1,ea1,hi1,q1,cl1⟩:=k.get hr
 refine AF _ ea1 (Aa hi1 ?_)
 obtain ⟨_,_,rfl,q2,q3⟩:=q1
 obtain rfl:=q2
 obtain ⟨_,_,rfl,q4,q5⟩:=q3
 obtain ⟨u,rfl,ku⟩:=q4
 obtain rfl:=q5
 refine AG (x:=r.1) (AE st.sub (cl1 0 _ rfl)) rfl ?_
 refine AG (x:=u) (by rw [Ae]; exact AE st.sub (cl1 1 _ rfl)) rfl ?_
 refine AG (x:=r.2.2) (by rw [Ae]; exact AE st.sub (cl1 2 _ rfl)) rfl ?_
 refine AY (vs:= [.int .i64 0, .slice none 0 0, .int .i64 0]) st ?_
 intro r9 h1 s1
 refine CP (b:=r9) (j:=0) (v:= .int .i64 r.1) s1 rfl (by simp) ?_
 intro h2 s2
 refine CP (b:=r9) (j:=1) (v:=sv u) s2 rfl (by simp) ?_
 intro h3 s3
 refine CP (b:=r9) (j:=2) (v:= .int .i64 r.2.2) s3 rfl (by simp) ?_
 intro h4 s4
 exact hk r9 u h4 ku s4
set_option maxHeartbeats 1000000 in
theorem SO (gk:Dg.Glob φ) (K:FsK φ a t n f g p ps qs) {null:List Bool} {ss:List AW} (hl:(ps++qs).length=ss.length) {r:Bool×List Bool×List AW}
 (hd:Mx p ((ps.length:Nat):Int) null ss=some r) (s0:St φ (fsC n null (ps++qs) ss F) h):
 CallsH Tryz.prog 133 [.pointer (some a)] h (Ar fun v h'=> ∃ψ:AC,Sub φ ψ∧v=((.one aB):Sh).val r.1∧r.2.2.length=ss.length∧St ψ (fsC n r.2.1 (ps++qs) r.2.2 F) h'):=by
 refine AR mixed Tryz.func133 ?_
 rw [JL]
 unfold GN
 unfold Mx at hd
 refine AF _ rfl ?_
 refine AG (x:=t.2.2.1) (K.at s0 (j:=2) rfl) rfl ?_
 have nk:=K.pl.k2.length
 refine AT (fun (y:Int×Bool×Unit) w g=> ∃(ψ:AC),Sub φ ψ∧y.2.1=g.1∧g.2.2.length=ss.length∧St ψ (fsC n g.2.1 (ps++qs) g.2.2 F) w) (g:=r) ?_ ?_
 ·refine BJ hd (fun i (y:Int×Bool×Unit) w g=>y.1=i∧ ∃(ψ:AC),Sub φ ψ∧y.2.1=g.1∧g.2.2.length=ss.length∧St ψ (fsC n g.2.1 (ps++qs) g.2.2 F) w) ((0:Int),false,()) rfl ⟨rfl,φ,Sub.refl _,rfl,rfl,s0⟩ ?_ ?_
  ·rintro i z w ⟨gr,nu,s1⟩ e ⟨rfl,ψ,le,hg,hl1,st⟩ he h0 hlt hw
   dsimp only at hg hl1 st he
   subst hg
   refine Ai (by rw [nk]; exact decide_eq_true hlt) ?_
   obtain ⟨ru,hr1,he⟩:=bS he
   obtain ⟨hm,he⟩:=B0 he
   obtain ⟨gg,hg1,he⟩:=bS he
   obtain ⟨b,hb1,he⟩:=bS he
   obtain ⟨nu',hn1,he⟩:=bS he
   obtain rfl:=iS he
   obtain ⟨k,hk⟩: ∃k:Nat,IntKind.wrap .i64 (ru.1 - nT p)=(k:Int):=⟨_,(Int.toNat_of_nonneg hm.1).symm⟩
   rw [hk] at hm hg1 hb1 hn1
   have hkp:k<ps.length:=by omega
   have hpk:ps[k]? =some ps[k] :=List.getElem?_eq_getElem hkp
   refine MH (K.pl.k2.mono le) hr1 st ?_
   intro r9 u h1 ku st1
   refine AA (b:=r9) (j:=0) (x:=ru.1) st1 rfl ?_
   refine AI (M0 (K.mono le) st1 ru.1) ?_
   rintro _ h2 ⟨rfl,st2⟩
   refine ⟨_,rfl,?_⟩
   rw [hk]
   refine AA (b:=r9) (j:=1) (x:=u) st2 rfl ?_
   refine AF _ rfl ?_
   refine AG (x:=f) ((K.mono le).at st2 (j:=7) rfl) rfl ?_
   obtain ⟨A2,cs2,ea2,hi2,r2,cl2⟩:=((K.mono le).kf).get (i:=(k:Int)) (by rw [Cw]; exact hpk)
   refine AF _ ea2 (Aa hi2 ?_)
   obtain rfl:=r2
   refine AG (x:=ps[k]) (AE st2.sub (cl2 0 _ rfl)) rfl ?_
   refine AI (M1 (gk.mono le) (K.mono le) ku (Qo hpk) (hl.trans hl1.symm) hg1 st2.tail) ?_
   rintro _ h3 ⟨ψ3,le3,rfl,hl3,st3⟩
   refine ⟨_,rfl,?_⟩
   have le':=le.trans le3
   refine Ao (fun (y:Bool×Unit) w (_:Unit)=>y=(z.2.1 || gg.1 || (gg.2.1 && !b),())∧St ψ3 (fsC n nu (ps++qs) gg.2.2 F) w) (g:=()) ?_ ?_
   ·cases hz:z.2.1
    ·refine AX rfl ?_
     cases hgg:gg.1
     ·refine AX (by dsimp only) ?_
      cases hgn:gg.2.1
      ·refine AX (by dsimp only) ?_
       exact AS (false,()) rfl ⟨by simp,st3⟩
      ·refine Ai (by dsimp only) ?_
       refine AF _ rfl ?_
       refine AG (x:=n) ((K.mono le').at st3 (j:=6) rfl) rfl ?_
       obtain ⟨A3,cs3,ea3,hi3,r3,cl3⟩:=st3.get hb1
       refine AF _ ea3 (Aa hi3 ?_)
       obtain rfl:=r3
       refine AG (x:=b) (cl3 0 _ rfl) rfl ?_
       exact AS (!b,()) rfl ⟨by simp,st3⟩
     ·refine Ai (by dsimp only) ?_
      exact AS (true,()) rfl ⟨by simp,st3⟩
    ·refine Ai rfl ?_
     exact AS (true,()) rfl ⟨by simp,st3⟩
   ·rintro y h4 ⟨rfl,st4⟩
    refine Ao (fun (y:Unit) w (_:Unit)=>St ψ3 (fsC n nu' (ps++qs) gg.2.2 F) w) (g:=()) ?_ ?_
    ·refine AF _ rfl ?_
     refine AG (x:=n) ((K.mono le').at st4 (j:=6) rfl) rfl ?_
     refine AF _ rfl ?_
     refine AG (x:=n) ((K.mono le').at st4 (j:=6) rfl) rfl ?_
     obtain ⟨A3,cs3,ea3,hi3,r3,cl3⟩:=st4.get hb1
     refine AF _ ea3 (Aa hi3 ?_)
     obtain rfl:=r3
     refine AG (x:=b) (cl3 0 _ rfl) rfl ?_
     obtain ⟨A4,ea4,q4⟩:=st4.there hn1
     cases b
     ·refine AX rfl ?_
      refine AF _ ea4 (Aa q4 (ID st4 hn1 rfl ea4 ?_))
      intro h5 st5
      exact AS () rfl st5
     ·refine Ai rfl ?_
      refine AF _ ea4 (Aa q4 (ID st4 hn1 rfl ea4 ?_))
      intro h5 st5
      exact AS () rfl st5
    ·rintro _ h5 st5
     exact Ag (IntKind.wrap .i64 (z.1+(1:Int)),z.2.1 || gg.1 || (gg.2.1 && !b),()) _ rfl rfl ⟨hw,ψ3,le',rfl,hl3.trans hl1,st5⟩
  ·rintro i z w ⟨rfl,H⟩ hge
   refine AX (by rw [nk]; exact decide_eq_false (Int.not_lt.2 hge)) ?_
   exact AJ (AK z rfl H)
 ·rintro z h1 ⟨ψ,le,hg,hl1,st⟩
  exact AB ⟨ψ,le,by rw [hg]; rfl,hl1,st⟩
theorem QK {u:Slc} {l:List Int} {lo:Int} (k:Ro.SliceIs (Ro.int .i64) φ u l) (h0:0≤lo) (h1:lo≤(l.length:Int)):cut l lo ((u.2.1:Nat):Int)=some (l.drop lo.toNat):=by
 have hlen:=k.length
 unfold cut
 rw [if_pos ⟨by omega,by omega,by omega⟩,Int.toNat_natCast,hlen,List.take_length]
theorem LK {ps qs:List (Option Addr)} {k:Nat} {q:Option Addr} (h:qs[k]? =some q):(ps++qs)[ps.length+k]? =some q:=by
 rw [List.getElem?_append_right (by omega),Nat.add_sub_cancel_left]; exact h
set_option maxHeartbeats 2000000 in
theorem Qp (gk:Dg.Glob φ) (K:FsK φ a t n f g p ps qs) (hpq:qs.length=ps.length) {null:List Bool} {ss:List AW} (hl:(ps++qs).length=ss.length) {r:Bool×List AW}
 (hd:LG p ((ps.length:Nat):Int) null ss=some r) (s0:St φ (fsC n null (ps++qs) ss F) h):
 CallsH Tryz.prog 135 [.pointer (some a)] h (Ar fun v h'=> ∃ψ:AC,Sub φ ψ∧v=((.one aB):Sh).val r.1∧r.2.length=ss.length∧St ψ (fsC n null (ps++qs) r.2 F) h'):=by
 refine AR mixed Tryz.func135 ?_
 rw [IV]
 unfold Fh
 unfold LG at hd
 refine AF _ rfl ?_
 refine AG (x:=t.2.2.1) (K.at s0 (j:=2) rfl) rfl ?_
 have nk:=K.pl.k2.length
 refine AT (fun (y:Int×Bool×Unit) w g=> ∃(ψ:AC),Sub φ ψ∧y.2.1=g.1∧g.2.length=ss.length∧St ψ (fsC n null (ps++qs) g.2 F) w) (g:=r) ?_ ?_
 ·refine BJ hd (fun i (y:Int×Bool×Unit) w g=>y.1=i∧ ∃(ψ:AC),Sub φ ψ∧y.2.1=g.1∧g.2.length=ss.length∧St ψ (fsC n null (ps++qs) g.2 F) w) ((0:Int),false,()) rfl ⟨rfl,φ,Sub.refl _,rfl,rfl,s0⟩ ?_ ?_
  ·rintro i z w ⟨gr,s1⟩ e ⟨rfl,ψ,le,hg,hl1,st⟩ he h0 hlt hw
   dsimp only at hg hl1 st he
   subst hg
   refine Ai (by rw [nk]; exact decide_eq_true hlt) ?_
   obtain ⟨ru,hr1,he⟩:=bS he
   refine MH (K.pl.k2.mono le) hr1 st ?_
   intro r9 u h1 ku st1
   refine AA (b:=r9) (j:=1) (x:=u) st1 rfl ?_
   have nu:=ku.length
   obtain ⟨G,hG⟩: ∃G:List Chk,G=⟨Rep.raw 65, [.pointer (some ⟨r9,0,none⟩)], [.int .i64 ru.1,sv u, .int .i64 ru.2.2]⟩::F:=⟨_,rfl⟩
   have st2:St ψ (fsC n null (ps++qs) s1 G) h1:=by
    rw [hG]
    exact st1.perm ((List.Perm.swap _ _ _).trans (List.Perm.cons _ (List.perm_middle (l₁:=AP (ps++qs) s1)).symm))
   have raw: ∀ {ψ':AC} {s':List AW} {h':AH},St ψ' (fsC n null (ps++qs) s' G) h'→St ψ' (⟨Rep.raw 65, [.pointer (some ⟨r9,0,none⟩)], [.int .i64 ru.1,sv u, .int .i64 ru.2.2]⟩::fsC n null (ps++qs) s' F) h':=fun {ψ' s' h'} H=>by
    rw [hG] at H
    exact H.perm ((List.Perm.cons _ (List.perm_middle (l₁:=AP (ps++qs) s'))).trans (List.Perm.swap _ _ _))
   refine AT (fun (y:Int×Bool×Unit) w g=> ∃(ψ:AC),Sub φ ψ∧y.2.1=g.1∧g.2.length=ss.length∧St ψ (fsC n null (ps++qs) g.2 G) w) (g:=e) ?_ ?_
   ·refine BJ he (fun i (y:Int×Bool×Unit) w g=>y.1=i∧ ∃(ψ':AC),Sub ψ ψ'∧y.2.1=g.1∧g.2.length=ss.length∧St ψ' (fsC n null (ps++qs) g.2 G) w) ((0:Int),z.2.1,()) rfl ⟨rfl,ψ,Sub.refl _,rfl,hl1,st2⟩ ?_ ?_
    ·rintro i2 z2 w2 ⟨gr2,s2⟩ e2 ⟨rfl,ψ2,le2,hg2,hl2,st3⟩ he2 h02 hlt2 hw2
     dsimp only at hg2 hl2 st3 he2
     subst hg2
     have le02:=le.trans le2
     refine Ai (by rw [nu]; exact decide_eq_true hlt2) ?_
     obtain ⟨sym,hs1,he2⟩:=bS he2
     obtain ⟨tm,ht1,he2⟩:=bS he2
     refine AT (fun (y:Bool×Unit) w (_:Unit)=> ∃(ψ':AC),Sub ψ ψ'∧y.1=e2.1∧e2.2.length=ss.length∧St ψ' (fsC n null (ps++qs) e2.2 G) w) (g:=()) ?_ ?_
     ·obtain ⟨A1,cs1,ea1,hi1,r1,cl1⟩:=(ku.mono le2).get hs1
      refine AF _ ea1 (Aa hi1 ?_)
      obtain rfl:=r1
      refine AG (x:=sym) (AE st3.sub (cl1 0 _ rfl)) rfl ?_
      refine AF _ rfl (Oc ((K.mono le02).pv st3) (K.mono le02).pl st3 ht1 ?_)
      intro ψ3 h3 le3 st4
      have le03:=le02.trans le3
      refine AL he2 rfl (fun _ he2=> ?_) (fun _ he2=> ?_)
      ·obtain rfl:=iS he2
       exact QF (z2.2.1,()) rfl ⟨ψ3,le2.trans le3,rfl,hl2,st4⟩
      ·obtain ⟨hm,he2⟩:=B0 he2
       obtain ⟨gg,hg1,he2⟩:=bS he2
       obtain ⟨hh,hh1,he2⟩:=bS he2
       obtain rfl:=iS he2
       obtain ⟨k,hk⟩: ∃k:Nat,IntKind.wrap .i64 (sym - nT p)=(k:Int):=⟨_,(Int.toNat_of_nonneg hm.1).symm⟩
       have hx:((ps.length:Nat):Int) +(k:Int)=((ps.length+k:Nat):Int):=by omega
       rw [hk,hx] at hg1 hh1
       rw [hk] at hm
       have hkp:k<qs.length:=by omega
       have hpk:qs[k]? =some qs[k] :=List.getElem?_eq_getElem hkp
       refine AF _ rfl ?_
       refine AG (x:=g) ((K.mono le03).at st4 (j:=8) rfl) rfl ?_
       refine AI (M0 (K.mono le03) st4 sym) ?_
       rintro _ h4 ⟨rfl,st5⟩
       refine ⟨_,rfl,?_⟩
       refine AO ((K.mono le03).at st5 (j:=8) rfl) ?_
       rw [hk]
       obtain ⟨A2,cs2,ea2,hi2,r2,cl2⟩:=((K.mono le03).kg).get (i:=(k:Int)) (by rw [Cw]; exact hpk)
       refine AF _ ea2 (Aa hi2 ?_)
       obtain rfl:=r2
       refine AG (x:=qs[k]) (AE st5.sub (cl2 0 _ rfl)) rfl ?_
       refine AA (b:=r9) (j:=1) (x:=u) (raw st5) rfl ?_
       obtain ⟨q1,kt⟩:=(ku.mono (le2.trans le3)).cut (QK (ku.mono (le2.trans le3)) (lo:=IntKind.wrap .i64 (z2.1+1)) (by rw [hw2]; omega) (by rw [hw2]; omega)) (sz:=1) rfl
       refine Aa q1 ?_
       rw [← hw2] at hg1
       refine AI (M1 (gk.mono le03) (K.mono le03) kt (LK hpk) (hl.trans hl2.symm) hg1 st5) ?_
       rintro _ h5 ⟨ψ5,le5,rfl,hl5,st6⟩
       refine ⟨_,rfl,?_⟩
       have le05:=le03.trans le5
       refine Ao (fun (y:Bool×Unit) w (_:Unit)=>y=(hh.1,())∧hh.2.length=ss.length∧ ∃ψ',Sub ψ ψ'∧St ψ' (fsC n null (ps++qs) hh.2 G) w) (g:=()) ?_ ?_
       ·refine AL hh1 rfl (fun _ hh1=> ?_) (fun _ hh1=> ?_)
        ·obtain ⟨hm2,hh1⟩:=B0 hh1
         obtain ⟨uu,hu,hh1⟩:=bS hh1
         obtain rfl:=iS hh1
         obtain ⟨k2,hk2⟩: ∃k:Nat,IntKind.wrap .i64 (ru.1 - nT p)=(k:Int):=⟨_,(Int.toNat_of_nonneg hm2.1).symm⟩
         have hx2:((ps.length:Nat):Int) +(k2:Int)=((ps.length+k2:Nat):Int):=by omega
         rw [hk2,hx2] at hu
         rw [hk2] at hm2
         have hkp2:k2<qs.length:=by omega
         have hpk2:qs[k2]? =some qs[k2] :=List.getElem?_eq_getElem hkp2
         unfold SK at hu
         obtain ⟨s,hs,hu⟩:=bS hu
         obtain ⟨o,ho,hu⟩:=bS hu
         obtain ⟨ok,hu⟩:=B0 hu
         obtain rfl:=iS hu
         refine Ao (fun (y:Bool×Unit) w (_:Unit)=>y=(Ee s o || gg.1,())∧ ∃ψ',Sub ψ ψ'∧St ψ' (fsC n null (ps++qs) (gg.2.2.set (ps.length+k) (BB s o)) G) w) (g:=()) ?_ ?_
         ·refine AF _ rfl ?_
          refine AG (x:=g) ((K.mono le05).at st6 (j:=8) rfl) rfl ?_
          refine AA (b:=r9) (j:=0) (x:=ru.1) (raw st6) rfl ?_
          refine AI (M0 (K.mono le05) st6 ru.1) ?_
          rintro _ h7 ⟨rfl,st7⟩
          refine ⟨_,rfl,?_⟩
          refine AO ((K.mono le05).at st7 (j:=8) rfl) ?_
          rw [hk2]
          obtain ⟨A3,cs3,ea3,hi3,r3,cl3⟩:=((K.mono le05).kg).get (i:=(k2:Int)) (by rw [Cw]; exact hpk2)
          refine AF _ ea3 (Aa hi3 ?_)
          obtain rfl:=r3
          refine AG (x:=qs[k2]) (AE st7.sub (cl3 0 _ rfl)) rfl ?_
          have st8:St ψ5 (AP (ps++qs) gg.2.2++(cR 4 Ro.bool n null::G)) h7:=st7.perm (List.perm_middle (l₁:=AP (ps++qs) gg.2.2)).symm
          refine AI (RF (gk.mono le05) (T8 hs) (T8 ho) (LK hpk) (LK hpk2) ok st8) ?_
          rintro _ h8 ⟨ψ8,le8,rfl,st9⟩
          refine ⟨_,rfl,?_⟩
          have st10:St ψ8 (fsC n null (ps++qs) (gg.2.2.set (ps.length+k) (BB s o)) G) h8:=st9.perm (List.perm_middle (l₁:=AP (ps++qs) (gg.2.2.set (ps.length+k) (BB s o))))
          have le8':=((le2.trans le3).trans le5).trans le8
          cases hgr:Ee s o
          ·exact AX rfl (AS (gg.1,()) rfl ⟨by simp,ψ8,le8',st10⟩)
          ·exact Ai rfl (AS (true,()) rfl ⟨by simp,ψ8,le8',st10⟩)
         ·rintro y h9 ⟨rfl,ψ9,le9,st11⟩
          refine AS (Ee s o || gg.1,()) rfl ⟨rfl,by simp [hl5,hl2],ψ9,le9,?_⟩
          rw [Int.toNat_natCast]
          exact st11
        ·obtain rfl:=iS hh1
         exact AS (gg.1,()) rfl ⟨rfl,by rw [hl5,hl2],ψ5,(le2.trans le3).trans le5,st6⟩
       ·rintro y h9 ⟨rfl,hl9,ψ9,le9,st11⟩
        refine Ao (fun (y:Bool×Unit) w (_:Unit)=>y=(z2.2.1 || hh.1,())∧St ψ9 (fsC n null (ps++qs) hh.2 G) w) (g:=()) ?_ ?_
        ·cases hz:z2.2.1
         ·exact AX rfl (AS (hh.1,()) rfl ⟨by simp,st11⟩)
         ·exact Ai rfl (AS (true,()) rfl ⟨by simp,st11⟩)
        ·rintro y h10 ⟨rfl,st12⟩
         exact LQ (z2.2.1 || hh.1,()) rfl ⟨ψ9,le9,rfl,hl9,st12⟩
     ·rintro y h10 ⟨ψ10,le10,hy,hl10,st12⟩
      exact Ag (IntKind.wrap .i64 (z2.1+(1:Int)),y.1,()) _ rfl rfl ⟨hw2,ψ10,le10,hy,hl10,st12⟩
    ·rintro i2 z2 w2 ⟨rfl,ψ2,le2,H⟩ hge
     refine AX (by rw [nu]; exact decide_eq_false (Int.not_lt.2 hge)) ?_
     exact AJ (AK z2 rfl ⟨ψ2,le.trans le2,H⟩)
   ·rintro y h10 ⟨ψ10,le10,hy,hl10,st12⟩
    exact Ag (IntKind.wrap .i64 (z.1+(1:Int)),y.2.1,()) _ rfl rfl ⟨hw,ψ10,le10,hy,hl10,(raw st12).tail⟩
  ·rintro i z w ⟨rfl,H⟩ hge
   refine AX (by rw [nk]; exact decide_eq_false (Int.not_lt.2 hge)) ?_
   exact AJ (AK z rfl H)
 ·rintro z h1 ⟨ψ,le,hg,hl1,st⟩
  exact AB ⟨ψ,le,by rw [hg]; rfl,hl1,st⟩
end
section
variable {φ ψ:AC} {h:AH} {F:List Chk} {t:Slc×Slc×Slc×Slc×Slc×Slc×Unit} {p:dtP}
theorem St.blk {ty:TypeId} {b:Nat} {vs:List Value} (H:St φ (⟨Rep.raw ty, [.pointer (some ⟨b,0,none⟩)],vs⟩::F) h): ∃ψ,Sub φ ψ∧Cy ψ (some ⟨b,0,none⟩) vs∧St ψ F h:=by
 obtain ⟨ψ,G,le,⟨b',e,hb,hF⟩,hk,s⟩:=St.hide H
 cases e
 refine ⟨ψ,le,fun i v hv=>⟨_,rfl,?_⟩,s⟩
 have:=hk b ((hF b).2 rfl)
 rw [Dp]
 unfold DS
 dsimp only
 rw [this,hb]
 dsimp only
 rw [Nat.zero_add]
 simp [hv]
theorem St.drop: ∀(L:List Chk) {M:List Chk} {φ:AC} {h:AH},St φ (L++M) h→St φ M h
 | [],_,_,_,H=>H
 | _::L,_,_,_,H=>St.drop L H.tail
theorem JQ {b:Nat} {K:Slc→Slc→Slc→Slc→Slc→Slc→T} {P:Bi→AH→Prop} (hc: ∀j v,(plV t)[j]? =some v→BH h ⟨b,j,none⟩=some v) (H:(K t.1 t.2.1 t.2.2.1 t.2.2.2.1 t.2.2.2.2.1 t.2.2.2.2.2.1).wp Tryz.prog P h):
 (T.load .slice ⟨b,0,none⟩ fun (t3:Slc)=>T.load .slice ⟨b,1,none⟩ fun (t4:Slc)=>T.load .slice ⟨b,2,none⟩ fun (t5:Slc)=>T.load .slice ⟨b,3,none⟩ fun (t6:Slc)=>T.load .slice ⟨b,4,none⟩ fun (t7:Slc)=>T.load .slice ⟨b,5,none⟩ fun (t8:Slc)=>K t3 t4 t5 t6 t7 t8).wp Tryz.prog P h:=by
 refine AG (x:=t.1) (hc 0 _ rfl) rfl ?_
 refine AG (x:=t.2.1) (hc 1 _ rfl) rfl ?_
 refine AG (x:=t.2.2.1) (hc 2 _ rfl) rfl ?_
 refine AG (x:=t.2.2.2.1) (hc 3 _ rfl) rfl ?_
 refine AG (x:=t.2.2.2.2.1) (hc 4 _ rfl) rfl ?_
 exact AG (x:=t.2.2.2.2.2.1) (hc 5 _ rfl) rfl H
theorem HU (k:PlK φ t p) (s0:St φ F h) {r:List AW} (hd:Le p=some r):
 CallsH Tryz.prog 132 [.agg #[sv t.1,sv t.2.1,sv t.2.2.1,sv t.2.2.2.1,sv t.2.2.2.2.1,sv t.2.2.2.2.2.1]] h
  (Ar fun v h'=> ∃(ψ:AC) (y:Slc) (ps:List (Option Addr)),Sub φ ψ∧v=((.one aS):Sh).val y∧ps.length=r.length∧St ψ (EO y ps::(AP ps r++F)) h'):=by
 refine AR mixed Tryz.func132 ?_
 rw [MC]
 unfold KF
 unfold Le at hd
 refine AY (vs:=plV t) s0 ?_
 intro r1 h1 s1
 obtain ⟨φ1,le1,cB,s1⟩:=St.blk s1
 refine AG (x:=t.2.1) (AE s1.sub (cB.at 1 rfl)) rfl ?_
 have n1:t.2.1.2.1=p.2.1.length:=k.k1.length
 have n0:t.1.2.1=p.1.length:=k.k0.length
 refine AT (fun (z:Int×Slc×Unit) w g=> ∃(ψ:AC) (ps:List (Option Addr)),Sub φ ψ∧ps.length=g.length∧St ψ (EO z.2.1 ps::(AP ps g++F)) w) (g:=r) ?_ ?_
 ·refine BJ hd (fun i (z:Int×Slc×Unit) w g=>z.1=i∧ ∃(ψ:AC) (ps:List (Option Addr)),Sub φ1 ψ∧ps.length=g.length∧St ψ (EO z.2.1 ps::(AP ps g++F)) w) ((0:Int),((none,0,0):Slc),()) rfl ⟨rfl,φ1, [],Sub.refl _,rfl,St.nil _ _ s1⟩ ?_ ?_
  ·rintro i z w g e ⟨hz,ψ,ps,le,hl,st⟩ he h0 hlt hw
   subst hz
   refine Ai (by rw [n1]; exact decide_eq_true hlt) ?_
   obtain ⟨s,hs1,he⟩:=bS he
   refine AG (x:=t.1) (AE st.sub ((cB.mono le).at 0 rfl)) rfl ?_
   rw [n0]
   refine AI (DZ st hs1) ?_
   rintro _ h2 ⟨ψ1,q,l3,le2,rfl,rfl,st1⟩
   refine ⟨q,rfl,?_⟩
   refine AY (vs:= [.pointer q]) st1 ?_
   intro r6 h3 st2
   have cw:=St.cells st2
   obtain ⟨hap,rfl⟩:=K9 he hl q
   refine Aj (r:=Ro.pt) (ms:= [q]) Nh (st2.tail.at1) rfl cw (.cons (a:= [_]) rfl .nil) rfl hap ?_
   intro t7 h4 st3
   exact Ag (IntKind.wrap .i64 (z.1+(1:Int)),t7,()) _ rfl rfl ⟨hw,ψ1,ps++ [q],le.trans le2,by simp [hl],Mk hl st3⟩
  ·rintro i z w ⟨hz,ψ,ps,le,H⟩ hge
   subst hz
   refine AX (by rw [n1]; exact decide_eq_false (Int.not_lt.2 hge)) ?_
   exact AJ (AK z rfl ⟨ψ,ps,le1.trans le,H⟩)
 ·rintro z h2 ⟨ψ,ps,le,hl,st⟩
  exact AB ⟨ψ,z.2.1,ps,le,rfl,hl,st⟩
theorem Nt (gk:Dg.Glob φ) {l:Slc} {ws pp:List (Option Addr)} {ss ss':List AW} {off:Nat} (kl:Ro.SliceIs Ro.pt φ l ws) (hw: ∀(i:Nat) q,ws[i]? =some q→pp[off+i]? =some q) (hs': ∀(i:Nat) s,ss'[i]? =some s→ss[off+i]? =some s) (hl:ws.length=ss'.length) (s0:St φ (AP pp ss++F) h) {r:List (List Int)} (hd:JJ ss'=some r):
 CallsH Tryz.prog 136 [sv l] h (Ar fun v h'=> ∃(ψ:AC) (y:Slc),Sub φ ψ∧v=((.one aS):Sh).val y∧Ro.SliceIs (Ro.list (Ro.int .i64)) ψ y r∧St ψ (AP pp ss++F) h'):=by
 refine AR mixed Tryz.func136 ?_
 rw [MD]
 unfold KG
 unfold JJ at hd
 have nl:l.2.1=ss'.length:=kl.length.trans hl
 refine AT (fun (z:Int×Slc×Unit) w (g:List (List Int))=> ∃(ψ:AC),Sub φ ψ∧St ψ (Qa z.2.1 g::(AP pp ss++F)) w) (g:=r) ?_ ?_
 ·refine BJ hd (fun i (z:Int×Slc×Unit) w (g:List (List Int))=>z.1=i∧ ∃(ψ:AC),Sub φ ψ∧St ψ (Qa z.2.1 g::(AP pp ss++F)) w) ((0:Int),((none,0,0):Slc),()) rfl ⟨rfl,φ,Sub.refl _,St.nil _ _ s0⟩ ?_ ?_
  ·rintro i z w g e ⟨hz,ψ,le,st⟩ he h0 hlt hw2
   subst hz
   refine Ai (by rw [nl]; exact decide_eq_true hlt) ?_
   obtain ⟨s,hs,he⟩:=bS he
   obtain ⟨li,hli,he⟩:=bS he
   obtain ⟨i0,i1,i2⟩:=Cz hs
   have hlt2:z.1.toNat<ws.length:=by omega
   have hp:=List.getElem?_eq_getElem hlt2
   obtain ⟨A1,cs1,ea1,hi1,r1,cl1⟩:=(kl.mono le).get (JZ i0 hlt2)
   refine AF _ ea1 (Aa hi1 ?_)
   obtain rfl:=r1
   refine AG (x:=ws[z.1.toNat]) (AE st.sub (cl1 0 _ rfl)) rfl ?_
   have st1:St ψ (AP pp ss++(Qa z.2.1 g::F)) w:=st.perm (List.perm_middle (l₁:=AP pp ss)).symm
   obtain ⟨rr,q1,q2⟩:=GL (hw _ _ hp) (hs' _ _ i2) st1
   refine AI (LA (gk.mono le) q1 hli) ?_
   rintro _ h2 ⟨ψ2,y,le2,rfl,k2,st2⟩
   refine ⟨y,rfl,?_⟩
   have st3:=q2 ψ2 h2 [] st2
   have st4:St ψ2 (Qa z.2.1 g::(AP pp ss++F)) h2:=st3.perm (List.perm_middle (l₁:=AP pp ss))
   refine AY (vs:= [sv y]) st4 ?_
   intro r6 h3 st5
   have cw:=St.cells st5
   refine Aj (r:=Ro.list (Ro.int .i64)) (ms:= [li]) RE st5.tail rfl cw (.cons (a:= [_]) ⟨y,rfl,k2⟩ .nil) rfl he ?_
   intro t7 h4 st6
   exact Ag (IntKind.wrap .i64 (z.1+(1:Int)),t7,()) _ rfl rfl ⟨hw2,ψ2,le.trans le2,st6⟩
  ·rintro i z w ⟨hz,H⟩ hge
   subst hz
   refine AX (by rw [nl]; exact decide_eq_false (Int.not_lt.2 hge)) ?_
   exact AJ (AK z rfl H)
 ·rintro z h2 ⟨ψ,le,st⟩
  obtain ⟨ψ2,le2,k2,st2⟩:=st.freezeRow
  exact AB ⟨ψ2,z.2.1,le.trans le2,rfl,k2,st2⟩
end
noncomputable def Qq (r1 r2 r25:Nat):T:=
 T.block 0 [aI]
 (T.loop [aI] [(.int .i64 (1:Int))] fun (z27:Int×Unit)=>
 T.call 133 [(.pointer (some ⟨r25,0,none⟩))] (.one aB) fun (t28:Bool)=>
 cond t28
 (T.out [(.int .i64 (IntKind.wrap .i64 (z27.1+(1:Int))))])
 (T.brk 0 [(.int .i64 z27.1)])) fun (z26:Int×Unit)=>
 T.load .slice ⟨r25,8,none⟩ fun (t29:Slc)=>
 T.load .slice ⟨r1,1,none⟩ fun (t30:Slc)=>
 deref t29.1 fun a31=>
 chk (0≤((t30.2.1:Nat):Int)∧((t30.2.1:Nat):Int) < (t29.2.1:Nat)) <|
 T.load .pointer (a31.add (Int.toNat ((t30.2.1:Nat):Int) * 1)) fun (t32:Option Addr)=>
 T.call 134 [(.pointer t32),(.int .i64 (0:Int))] (.one aB) fun (t33:Bool)=>
 T.block 2 []
 (T.loop [] [] fun (z35:Unit)=>
 T.call 135 [(.pointer (some ⟨r25,0,none⟩))] (.one aB) fun (t36:Bool)=>
 cond t36
 (T.out [])
 (T.brk 2 [])) fun (z34:Unit)=>
 T.load .slice ⟨r25,6,none⟩ fun (t37:Slc)=>
 T.load .slice ⟨r25,7,none⟩ fun (t38:Slc)=>
 T.load .slice ⟨r25,8,none⟩ fun (t39:Slc)=>
 T.call 136 [(sv t38)] (.one aS) fun (t40:Slc)=>
 T.still ⟨r25,8,none⟩ (sv t39) <|
 T.still ⟨r25,6,none⟩ (sv t37) <|
 T.call 136 [(sv t39)] (.one aS) fun (t41:Slc)=>
 T.still ⟨r25,6,none⟩ (sv t37) <|
 T.store ⟨r2,0,none⟩ (sv t37) <|
 T.store ⟨r2,1,none⟩ (sv t40) <|
 T.store ⟨r2,2,none⟩ (sv t41) <|
 T.store ⟨r2,3,none⟩ (.int .i64 z26.1) <|
 T.load .slice ⟨r2,0,none⟩ fun (res42:Slc)=>
 T.load .slice ⟨r2,1,none⟩ fun (res43:Slc)=>
 T.load .slice ⟨r2,2,none⟩ fun (res44:Slc)=>
 T.load (.int .i64) ⟨r2,3,none⟩ fun (res45:Int)=>
 T.ret (.agg #[(sv res42),(sv res43),(sv res44),(.int .i64 res45)])
abbrev Qr (φ:AC) (F:List Chk) (r:dtF):Value→AH→Prop:=fun v h'=> ∃(ψ:AC) (y:Slc×Slc×Slc×Int×Unit),Sub φ ψ∧v=((.one (.agg [.slice, .slice, .slice, .int .i64])):Sh).val y∧
 Ro.SliceIs Ro.bool ψ y.1 r.1∧Ro.SliceIs (Ro.list (Ro.int .i64)) ψ y.2.1 r.2.1∧Ro.SliceIs (Ro.list (Ro.int .i64)) ψ y.2.2.1 r.2.2.1∧y.2.2.2.1=r.2.2.2∧St ψ F h'
noncomputable def Ji (p:dtP) (m:Nat) (null:List Bool) (ss:List AW):Option dtF:=
 (loop (σ:=Int×List Bool×List AW) (β:=Int×List Bool×List AW) (1,null,ss) fun z=>
  (Mx p ((m:Nat):Int) z.2.1 z.2.2).bind fun r=>cond r.1 (some (.next (IntKind.wrap .i64 (z.1+1),r.2))) (some (.done (z.1,r.2)))).bind fun z=>
 (idx (z.2.2.drop m) ((p.2.1.length:Nat):Int)).bind fun s=>(Aq s 0).bind fun a=>
 (loop (σ:=List AW) (β:=List AW) (z.2.2.set (m+p.2.1.length) a.2) fun ss=>
  (LG p ((m:Nat):Int) z.2.1 ss).bind fun r=>cond r.1 (some (.next r.2)) (some (.done r.2))).bind fun ss=>
 (JJ (ss.take m)).bind fun a=>(JJ (ss.drop m)).bind fun b=>some (z.2.1,a,b,z.1)
section
variable {φ φ0 ψ:AC} {h:AH} {F:List Chk} {t:Slc×Slc×Slc×Slc×Slc×Slc×Unit} {n f g:Slc} {p:dtP} {ps qs:List (Option Addr)}
set_option maxHeartbeats 2000000 in
theorem VD (gk:Dg.Glob φ) (le0:Sub φ0 φ) {r1 r2 r25:Nat} (cB:Cy φ (some ⟨r1,0,none⟩) (plV t)) (K:FsK φ ⟨r25,0,none⟩ t n f g p ps qs) (hpq:qs.length=ps.length) {null:List Bool} {ss:List AW} (hl:(ps++qs).length=ss.length) {r:dtF} (hd:Ji p ps.length null ss=some r)
 (s0:St φ (fsC n null (ps++qs) ss (⟨Rep.raw 133, [.pointer (some ⟨r2,0,none⟩)], [.slice none 0 0, .slice none 0 0, .slice none 0 0, .int .i64 0]⟩::F)) h):(Qq r1 r2 r25).wp Tryz.prog (MQ (Ar (Qr φ0 F r))) h:=by
 unfold Qq
 unfold Ji at hd
 obtain ⟨z,hz,hd⟩:=bS hd
 obtain ⟨s,hs,hd⟩:=bS hd
 obtain ⟨a,ha,hd⟩:=bS hd
 obtain ⟨sf,hsf,hd⟩:=bS hd
 obtain ⟨la,hla,hd⟩:=bS hd
 obtain ⟨lb,hlb,hd⟩:=bS hd
 obtain rfl:=iS hd
 obtain ⟨G,hG⟩: ∃G:List Chk,G=⟨Rep.raw 133, [.pointer (some ⟨r2,0,none⟩)], [.slice none 0 0, .slice none 0 0, .slice none 0 0, .int .i64 0]⟩::F:=⟨_,rfl⟩
 rw [← hG] at s0
 refine AT (fun (y:Int×Unit) w g=> ∃(ψ:AC),Sub φ ψ∧y.1=g.1∧g.2.2.length=ss.length∧St ψ (fsC n g.2.1 (ps++qs) g.2.2 G) w) (g:=z) ?_ ?_
 ·refine Dr hz (fun (y:Int×Unit) w g=> ∃(ψ:AC),Sub φ ψ∧y.1=g.1∧g.2.2.length=ss.length∧St ψ (fsC n g.2.1 (ps++qs) g.2.2 G) w) ((1:Int),()) rfl ⟨φ,Sub.refl _,rfl,rfl,s0⟩ ?_
  rintro y w ⟨gc,gn,gs⟩ e ⟨ψ,le,rfl,hl1,st⟩ he hb
  dsimp only at he hl1 st
  obtain ⟨rr,hr,he⟩:=bS he
  refine AI (SO (gk.mono le) (K.mono le) (hl.trans hl1.symm) hr st) ?_
  rintro _ h1 ⟨ψ1,le1,rfl,hl2,st1⟩
  refine ⟨_,rfl,?_⟩
  refine AL he rfl (fun _ he=> ?_) (fun _ he=> ?_)
  ·obtain rfl:=iS he
   exact Ag (IntKind.wrap .i64 (y.1+(1:Int)),()) _ rfl rfl ⟨ψ1,le.trans le1,rfl,hl2.trans hl1,st1⟩
  ·obtain rfl:=iS he
   obtain rfl:=hb _ rfl
   exact AJ (AK (y.1,()) rfl ⟨ψ1,le.trans le1,rfl,hl2.trans hl1,st1⟩)
 ·rintro y1 h1 ⟨ψ1,le1,hy1,hl1,st1⟩
  refine AG (x:=g) ((K.mono le1).at st1 (j:=8) rfl) rfl ?_
  refine AG (x:=t.2.1) (AE st1.sub ((cB.mono le1).at 1 rfl)) rfl ?_
  have n1:t.2.1.2.1=p.2.1.length:=K.pl.k1.length
  rw [n1]
  obtain ⟨i0,i1,i2⟩:=Cz hs
  rw [Int.toNat_natCast] at i2
  rw [List.getElem?_drop] at i2
  have hlt:p.2.1.length<qs.length:=by
   rw [List.length_drop] at i1
   rw [List.length_append] at hl
   omega
  have hq:=List.getElem?_eq_getElem hlt
  obtain ⟨A2,cs2,ea2,hi2,q2,cl2⟩:=((K.mono le1).kg).get (i:=((p.2.1.length:Nat):Int)) (by rw [Cw]; exact hq)
  refine AF _ ea2 (Aa hi2 ?_)
  obtain rfl:=q2
  refine AG (x:=qs[p.2.1.length]) (AE st1.sub (cl2 0 _ rfl)) rfl ?_
  obtain ⟨rs,a1,a2⟩:=D3 (LK (ps:=ps) hq) i2
  have st2:St ψ1 (BR qs[p.2.1.length] s::(rs++(cR 4 Ro.bool n z.2.1::G))) h1:=(st1.perm (List.perm_middle (l₁:=AP (ps++qs) z.2.2)).symm).perm (List.Perm.append_right _ a1)
  refine AI (CD st2 ha) ?_
  rintro _ h2 ⟨ψ2,y,l2,le2,rfl,e2,st3⟩
  refine ⟨_,rfl,?_⟩
  have e2':l2=a.2:=by rw [← e2]
  subst e2'
  have le12:=le1.trans le2
  have st4:St ψ2 (fsC n z.2.1 (ps++qs) (z.2.2.set (ps.length+p.2.1.length) a.2) G) h2:=(st3.perm (List.Perm.append_right _ (a2 a.2)).symm).perm (List.perm_middle (l₁:=AP (ps++qs) (z.2.2.set (ps.length+p.2.1.length) a.2)))
  refine AT (fun (y:Unit) w g=> ∃(ψ:AC),Sub φ ψ∧g.length=ss.length∧St ψ (fsC n z.2.1 (ps++qs) g G) w) (g:=sf) ?_ ?_
  ·refine Dr hsf (fun (y:Unit) w g=> ∃(ψ:AC),Sub φ ψ∧g.length=ss.length∧St ψ (fsC n z.2.1 (ps++qs) g G) w) () rfl ⟨ψ2,le12,by simp [hl1],st4⟩ ?_
   rintro y w gs e ⟨ψ,le,hl3,st⟩ he hb
   obtain ⟨rr,hr,he⟩:=bS he
   refine AI (Qp (gk.mono le) (K.mono le) hpq (hl.trans hl3.symm) hr st) ?_
   rintro _ h3 ⟨ψ3,le3,rfl,hl4,st5⟩
   refine ⟨_,rfl,?_⟩
   refine AL he rfl (fun _ he=> ?_) (fun _ he=> ?_)
   ·obtain rfl:=iS he
    exact Ag () _ rfl rfl ⟨ψ3,le.trans le3,hl4.trans hl3,st5⟩
   ·obtain rfl:=iS he
    obtain rfl:=hb _ rfl
    exact AJ (AK () rfl ⟨ψ3,le.trans le3,hl4.trans hl3,st5⟩)
  ·rintro _ h3 ⟨ψ3,le3,hl3,st5⟩
   obtain ⟨ψ4,le4,kn,st6⟩:=St.freezeRow (t:=n) st5
   have le34:=le3.trans le4
   refine AG (x:=n) ((K.mono le34).at st6 (j:=6) rfl) rfl ?_
   refine AG (x:=f) ((K.mono le34).at st6 (j:=7) rfl) rfl ?_
   refine AG (x:=g) ((K.mono le34).at st6 (j:=8) rfl) rfl ?_
   have hlen:sf.length=ps.length+qs.length:=by rw [hl3,← hl,List.length_append]
   refine AI (Nt (gk.mono le34) (off:=0) (K.mono le34).kf (fun i q hi=>by rw [Nat.zero_add]; exact Qo hi) (fun i s hi=>by
    rw [List.getElem?_take] at hi
    split at hi
    ·rw [Nat.zero_add]; exact hi
    ·cases hi) (by simp; omega) st6 hla) ?_
   rintro _ h4 ⟨ψ5,y5,le5,rfl,k5,st7⟩
   refine ⟨y5,rfl,?_⟩
   have le35:=le34.trans le5
   refine AO ((K.mono le35).at st7 (j:=8) rfl) ?_
   refine AO ((K.mono le35).at st7 (j:=6) rfl) ?_
   refine AI (Nt (gk.mono le35) (off:=ps.length) (K.mono le35).kg (fun i q hi=>LK hi) (fun i s hi=>by
    rw [List.getElem?_drop] at hi; exact hi) (by simp; omega) st7 hlb) ?_
   rintro _ h5 ⟨ψ6,y6,le6,rfl,k6,st8⟩
   refine ⟨y6,rfl,?_⟩
   have le36:=le35.trans le6
   refine AO ((K.mono le36).at st8 (j:=6) rfl) ?_
   have st9:=St.drop _ st8
   rw [hG] at st9
   refine CP (b:=r2) (j:=0) (v:=sv n) st9 rfl (by simp) ?_
   intro h6 st10
   refine CP (b:=r2) (j:=1) (v:=sv y5) st10 rfl (by simp) ?_
   intro h7 st11
   refine CP (b:=r2) (j:=2) (v:=sv y6) st11 rfl (by simp) ?_
   intro h8 st12
   refine CP (b:=r2) (j:=3) (v:= .int .i64 y1.1) st12 rfl (by simp) ?_
   intro h9 st13
   refine AA (b:=r2) (j:=0) (x:=n) st13 rfl ?_
   refine AA (b:=r2) (j:=1) (x:=y5) st13 rfl ?_
   refine AA (b:=r2) (j:=2) (x:=y6) st13 rfl ?_
   refine AA (b:=r2) (j:=3) (x:=y1.1) st13 rfl ?_
   exact AB ⟨ψ6,(n,y5,y6,y1.1,()),le0.trans le36,rfl,kn.mono (le5.trans le6),k5.mono le6,k6,hy1,st13.tail⟩
theorem Qs:NY Tryz.prog 60 4 (.bool false):=⟨Tryz.underlying60,⟨Tryz.t4,by kernel_rfl,rfl,⟨_,rfl,rfl⟩,by decide⟩⟩
theorem Qt (gk:Dg.Glob φ) (le0:Sub φ0 φ) {r1 r2:Nat} (cB:Cy φ (some ⟨r1,0,none⟩) (plV t)) (k:PlK φ t p) {null:List Bool} {s1 s2:List AW} (h1:ps.length=s1.length) (h2:qs.length=s2.length) (h3:s2.length=s1.length) {r:dtF} (hd:Ji p s1.length null (s1++s2)=some r)
 (s0:St φ (EO f ps::EO g qs::cR 4 Ro.bool n null::(AP ps s1++(AP qs s2++(⟨Rep.raw 133, [.pointer (some ⟨r2,0,none⟩)], [.slice none 0 0, .slice none 0 0, .slice none 0 0, .int .i64 0]⟩::F)))) h):
 (T.new (.cells #[sv t.1,sv t.2.1,sv t.2.2.1,sv t.2.2.2.1,sv t.2.2.2.2.1,sv t.2.2.2.2.2.1,sv n,sv f,sv g] 221 (0,0)) fun r25=>Qq r1 r2 r25).wp Tryz.prog (MQ (Ar (Qr φ0 F r))) h:=by
 refine AY (vs:=plV t++ [sv n,sv f,sv g]) s0 ?_
 intro r25 h4 st1
 obtain ⟨ψ1,le1,c1,st2⟩:=St.blk st1
 obtain ⟨ψ2,le2,kf,st3⟩:=St.freezeRow (t:=f) st2
 obtain ⟨ψ3,le3,kg,st4⟩:=St.freezeRow (t:=g) st3
 have le13:=(le1.trans le2).trans le3
 refine VD (ps:=ps) (qs:=qs) (f:=f) (g:=g) (n:=n) (t:=t) (gk.mono le13) (le0.trans le13) (cB.mono le13) ⟨c1.mono (le2.trans le3),k.mono le13,kf.mono le3,kg⟩ (by omega) (null:=null) (ss:=s1++s2) (by rw [List.length_append,List.length_append,h1,h2]) (by rw [h1]; exact hd) ?_
 have e:AP (ps++qs) (s1++s2)=AP ps s1++AP qs s2:=by
  unfold AP
  exact List.zipWith_append h1
 show St ψ3 (cR 4 Ro.bool n null::(AP (ps++qs) (s1++s2) ++_)) h4
 rw [e,List.append_assoc]
 exact st4
theorem Ws (a c n:Chk) (B D G:List Chk):(a::(B++(c::(D++(n::G))))).Perm (c::a::n::(D++(B++G))):=
 (List.Perm.cons a (List.perm_middle.trans (List.Perm.cons c ((List.Perm.append_left B List.perm_middle).trans (List.perm_middle.trans (List.Perm.cons n (by rw [← List.append_assoc,← List.append_assoc]; exact List.Perm.append_right _ List.perm_append_comm))))))).trans (List.Perm.swap _ _ _)
theorem Wt (a c n:Chk) (B D G:List Chk):(a::(B++(n::c::(D++G)))).Perm (c::a::n::(D++(B++G))):=
 (List.Perm.cons a (List.perm_middle.trans ((List.Perm.cons n (List.perm_middle.trans (List.Perm.cons c (by rw [← List.append_assoc,← List.append_assoc]; exact List.Perm.append_right _ List.perm_append_comm)))).trans (List.Perm.swap _ _ _)))).trans (List.Perm.swap _ _ _)
theorem Wu (a c n:Chk) (B D G:List Chk):(n::a::(B++(c::(D++G)))).Perm (c::a::n::(D++(B++G))):=
 (List.Perm.swap _ _ _).trans (((List.Perm.cons a ((List.Perm.cons n (List.perm_middle.trans (List.Perm.cons c (by rw [← List.append_assoc,← List.append_assoc]; exact List.Perm.append_right _ List.perm_append_comm)))).trans (List.Perm.swap _ _ _)))).trans (List.Perm.swap _ _ _))
set_option maxHeartbeats 2000000 in
theorem Od (gk:Dg.Glob φ) (k:PlK φ t p) (s0:St φ F h) {r:dtF} (hd:My p=some r):
 CallsH Tryz.prog 106 [.agg #[sv t.1,sv t.2.1,sv t.2.2.1,sv t.2.2.2.1,sv t.2.2.2.2.1,sv t.2.2.2.2.2.1]] h (Ar (Qr φ F r)):=by
 refine AR mixed Tryz.func106 ?_
 rw [Ob]
 unfold Mz
 unfold My at hd
 obtain ⟨null,hn,hd⟩:=bS hd
 obtain ⟨f1,hf1,hd⟩:=bS hd
 obtain ⟨g1,hg1,hd⟩:=bS hd
 obtain rfl:f1=g1:=by rw [hf1] at hg1; exact iS hg1
 have hd:Ji p f1.length null (f1++f1)=some r:=hd
 refine AY (vs:=plV t) s0 ?_
 intro r1 h1 s1
 obtain ⟨φ1,le1,cB,s1⟩:=St.blk s1
 refine AY (vs:= [.slice none 0 0, .slice none 0 0, .slice none 0 0, .int .i64 0]) s1 ?_
 intro r2 h2 s2
 have n1:t.2.1.2.1=p.2.1.length:=k.k1.length
 have hc: ∀ {ψ:AC} {Γ:List Chk} {h':AH},Sub φ1 ψ→St ψ Γ h'→ ∀j v,(plV t)[j]? =some v→BH h' ⟨r1,j,none⟩=some v:=fun {ψ Γ h'} le st j v hv=>by
  have:=AE st.sub ((cB.mono le).at j hv)
  rw [Dp,Nat.zero_add] at this
  exact this
 have hc2:=hc (Sub.refl _) s2
 refine JQ hc2 ?_
 refine AG (x:=t.2.1) (hc2 1 _ rfl) rfl ?_
 refine JQ hc2 ?_
 refine JQ hc2 ?_
 have k1:=k.mono le1
 have gk1:=gk.mono le1
 have mk:FB (IntKind.wrap .i64 (((t.2.1.2.1:Nat):Int) +1)) false=some null:=by rw [n1]; exact hn
 refine FZ ?_ ?_
 ·refine Ir (r:=Ro.bool) (x:=false) Qs s2 rfl rfl mk ?_
  intro n h3 s3
  have hc3:=hc (Sub.refl _) s3
  repeat refine AO (hc3 _ _ rfl) ?_
  refine AI (HU k1 s3 hf1) ?_
  rintro _ h4 ⟨ψ4,f,ps,le4,rfl,hl4,s4⟩
  refine ⟨f,rfl,?_⟩
  have hc4:=hc le4 s4
  repeat refine AO (hc4 _ _ rfl) ?_
  refine AI (HU (k1.mono le4) s4 hf1) ?_
  rintro _ h5 ⟨ψ5,g,qs,le5,rfl,hl5,s5⟩
  refine ⟨g,rfl,?_⟩
  have hc5:=hc (le4.trans le5) s5
  repeat refine AO (hc5 _ _ rfl) ?_
  exact Qt (f:=f) (g:=g) (n:=n) (ps:=ps) (qs:=qs) (gk1.mono (le4.trans le5)) (le1.trans (le4.trans le5)) (cB.mono (le4.trans le5)) (k1.mono (le4.trans le5)) hl4 hl5 rfl hd (s5.perm (Ws _ _ _ _ _ _))
 ·refine AI (HU k1 s2 hf1) ?_
  rintro _ h4 ⟨ψ4,f,ps,le4,rfl,hl4,s4⟩
  refine ⟨f,rfl,?_⟩
  have hc4:=hc le4 s4
  repeat refine AO (hc4 _ _ rfl) ?_
  refine FZ ?_ ?_
  ·refine Ir (r:=Ro.bool) (x:=false) Qs s4 rfl rfl mk ?_
   intro n h3 s3
   have hc3:=hc le4 s3
   repeat refine AO (hc3 _ _ rfl) ?_
   refine AI (HU (k1.mono le4) s3 hf1) ?_
   rintro _ h5 ⟨ψ5,g,qs,le5,rfl,hl5,s5⟩
   refine ⟨g,rfl,?_⟩
   have hc5:=hc (le4.trans le5) s5
   repeat refine AO (hc5 _ _ rfl) ?_
   exact Qt (f:=f) (g:=g) (n:=n) (ps:=ps) (qs:=qs) (gk1.mono (le4.trans le5)) (le1.trans (le4.trans le5)) (cB.mono (le4.trans le5)) (k1.mono (le4.trans le5)) hl4 hl5 rfl hd (s5.perm (Wt _ _ _ _ _ _))
  ·refine AI (HU (k1.mono le4) s4 hf1) ?_
   rintro _ h5 ⟨ψ5,g,qs,le5,rfl,hl5,s5⟩
   refine ⟨g,rfl,?_⟩
   have hc5:=hc (le4.trans le5) s5
   repeat refine AO (hc5 _ _ rfl) ?_
   refine Ir (r:=Ro.bool) (x:=false) Qs s5 rfl rfl mk ?_
   intro n h3 s3
   have hc3:=hc (le4.trans le5) s3
   repeat refine AO (hc3 _ _ rfl) ?_
   exact Qt (f:=f) (g:=g) (n:=n) (ps:=ps) (qs:=qs) (gk1.mono (le4.trans le5)) (le1.trans (le4.trans le5)) (cB.mono (le4.trans le5)) (k1.mono (le4.trans le5)) hl4 hl5 rfl hd (s3.perm (Wu _ _ _ _ _ _))
end
end Go.Proofs.YteolcjbobmpdiaaGreatDoor
