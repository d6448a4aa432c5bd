/-
  G1, G2, Lays, Sorts, DgLays2, DgVisitD, DgClone, SimB, DgBits, DgSets, DgLow, DgTz, EngR, EngQ, DgEach, DgCollect, DgList, DgApart, DgUnion, DgFrom, DgVisit, DgSetsB, DgObjs, DgWalk, SimW, DgSolveF, LaysS, Str, SetsL, Laws, Clone, Sim3, Sim4, Cmp, SortItems, Sim5, Add, put together.
  Conditions: none; each part tells its own.
-/
import Derived.Test.YteolcjbobmpdiaaGreatDoorKb2
import Derived.Test.YteolcjbobmpdiaaGreatDoorProg
import Derived.Shelf.Sort.Plain
import Derived.Shelf.SlSortCmp.NoneTotal
import Derived.Shelf.Slices.CompactI
import Derived.Shelf.Small.Wraps
import Derived.KernelRfl
import Derived.Shelf.Slices.In.SortNone
import Derived.Shelf.SlicesE.DeleteFunc
import Derived.Lib.TrailingZeros
import Derived.Test.YteolcjbobmpdiaaGreatDoorKb1
import Derived.WalkKit
import Derived.ProofKit
import Derived.OpenShut
import Derived.ShutString
import Derived.ChangeOld
import Derived.Below
import Derived.RangeFuncNested
import Derived.RangeFuncBound
import Derived.RangeFuncCalls
import Derived.RangeFuncLeaves
import Derived.Shelf.Abstract
import Derived.Shelf.RegionOpen
import Derived.OwnWalkIn
import Derived.TacticsInMore
import Derived.LoopNIn
import Derived.LoopIn
import Derived.RangeFuncBox
import Derived.Maps.AppendAt
import Derived.Shelf.GgClosure.Gives
import Derived.Shelf.Strconv.AppendIntPublic10
import Derived.Lib.ItoaLen
import Derived.Test.YteolcjbobmpdiaaGreatDoorRows
import Derived.MakeChecks
import Derived.Stop.LaidErr
import Derived.Lib.LaidTab
import Derived.Lib.Walk
import Derived.StillTailTactics
import Derived.Sort.Grow
namespace Go.Proofs.YteolcjbobmpdiaaGreatDoor
open Go Go.Eng
set_option linter.unusedVariables false
set_option maxRecDepth 100000
theorem Ly (b:ByteArray):b.toList=b.data.toList:=by
 have hsz:b.size=b.data.toList.length:=by rw [Array.length_toList]; rfl
 have key: ∀(n i:Nat) (r:List UInt8),b.size - i=n→ByteArray.toList.loop b i r=r.reverse++b.data.toList.drop i:=by
  intro n
  induction n with
  | zero=>
   intro i r h
   rw [ByteArray.toList.loop.eq_1,if_neg (by omega),List.drop_eq_nil_of_le (by omega),List.append_nil]
  | succ n ih=>
   intro i r h
   have hi:i<b.size:=by omega
   rw [ByteArray.toList.loop.eq_1,if_pos hi,ih (i+1) _ (by omega)]
   have hi':i<b.data.toList.length:=by omega
   rw [List.drop_eq_getElem_cons hi',List.reverse_cons,List.append_assoc]
   have:b.get! i=b.data.toList[i] :=by
    cases b with
    | mk a=>
     show a[i]! =_
     rw [getElem!_pos a i (by simpa using hi')]
     rw [Array.getElem_toList]
   rw [this]
   rfl
 unfold ByteArray.toList
 rw [key _ 0 [] rfl]
 rfl
theorem DY (a b:ByteArray):(a.toList==b.toList)=decide (a=b):=by
 rw [Ly,Ly]
 by_cases h:a=b
 ·subst h; simp
 ·rw [decide_eq_false h]
  refine beq_eq_false_iff_ne.2 fun e=>h ?_
  cases a; cases b
  simp only [ByteArray.mk.injEq]
  exact Array.toList_inj.1 e
theorem GG {l:List ByteArray} {s:ByteArray} (hl:l.length≤9223372036854775807):Ok (As l s) fun k=>(k= -1∧s ∉ l)∨ ∃j:Nat,k=j∧l[j]? =some s:=by
 unfold As
 refine Ku l (fun _ x=>decide (x=s)) (fun k _=>k) hl (fun k x hx=> ?_) (fun h=> ?_) fun j x hx hq _=> ?_
 ·rw [Cw,hx,Option.bind_some,DY]
  cases decide (x=s) <;>rfl
 ·refine AD (.inl ⟨rfl,fun hm=> ?_⟩)
  obtain ⟨j,hj⟩:=List.getElem?_of_mem hm
  have:=h j s hj
  simp at this
 ·refine AD (.inr ⟨j,rfl,?_⟩)
  rw [hx,of_decide_eq_true hq]
def nm (c i:Nat):ByteArray:=⟨#[UInt8.ofNat (c+i)]⟩
theorem KY {c i d j:Nat} (h1:c+i<256) (h2:d+j<256) (h:nm c i=nm d j):c+i=d+j:=by
 unfold nm at h
 simp only [ByteArray.mk.injEq,Array.mk.injEq,List.cons.injEq,and_true] at h
 have:=congrArg UInt8.toNat h
 simp at this
 omega
theorem Vy {i:Nat} (h:i<5):ByteArray.extract {data:= #[97,98,99,100,101] } i (i+1)=nm 97 i:=by
 match i,h with
 | 0,_ | 1,_ | 2,_ | 3,_ | 4,_=>decide
theorem Vz {i:Nat} (h:i<5):ByteArray.extract {data:= #[112,113,114,115,116] } i (i+1)=nm 112 i:=by
 match i,h with
 | 0,_ | 1,_ | 2,_ | 3,_ | 4,_=>decide
theorem V0 {i:Nat} (h:i<4):ByteArray.extract {data:= #[83,84,85,86] } i (i+1)=nm 83 i:=by
 match i,h with
 | 0,_ | 1,_ | 2,_ | 3,_=>decide
inductive Nm:ByteArray→Prop
 | tok {i:Nat} :i<5→Nm (nm 97 i)
 | lev {i:Nat} :i<5→Nm (nm 112 i)
 | var {i:Nat} :i<4→Nm (nm 83 i)
theorem Q7 {c i:Nat} (h:(65≤c+i∧c+i≤90)∨(97≤c+i∧c+i≤122)):BA (nm c i)=some true:=by
 generalize e:c+i=n at h
 have:nm c i=⟨#[UInt8.ofNat n]⟩:=by unfold nm; rw [e]
 rw [this]
 have all: ∀m:Fin 123,((65≤m.1∧m.1≤90)∨(97≤m.1∧m.1≤122))→(B7 ((UInt8.toNat (UInt8.ofNat m.1):Nat):Int))=some true:=by
  have: ∀m:Fin 123,((65≤m.1∧m.1≤90)∨(97≤m.1∧m.1≤122))→(match B7 ((UInt8.toNat (UInt8.ofNat m.1):Nat):Int) with | some true=>true | _=>false)=true:=by
   decide+kernel
  intro m hm
  have:=this m hm
  split at this
  ·assumption
  ·cases this
 have hl:=all ⟨n,by omega⟩ h
 refine Ok.eq ?_
 unfold BA Cv
 have hs:ByteArray.size {data:= #[UInt8.ofNat n] } =1:=rfl
 rw [hs]
 refine AM (Q:=fun x=>x=true) (Cp rfl (AM (Q:=fun x=>x=true) ?_ fun _ h=>AD h)) fun _ h=>AD h
 refine Eb (fun _ _=>True) (by omega) trivial (fun j s hj _=> ?_) fun s _=> ?_
 ·obtain rfl:j=0:=by omega
  refine AM (Q:=fun x=>x=false) (Bg (by omega) (AN hl (An rfl (AD rfl)))) fun _ h=> ?_
  subst h
  exact E7 trivial
 ·rw [DY,decide_eq_false (fun h=>by simp at h)]
  exact AD rfl
theorem Nm.name {s:ByteArray} (h:Nm s):BA s=some true:=by
 cases h with
 | tok h | lev h | var h=>exact Q7 (by omega)
theorem Nm.ne {s:ByteArray} (h:Nm s):s ≠ ⟨#[]⟩:=by
 cases h with
 | tok h | lev h | var h=>intro e; unfold nm at e; simp at e
theorem Nm.size {s:ByteArray} (h:Nm s):s.size=1:=by
 cases h with
 | tok h | lev h | var h=>rfl
theorem QM:(ByteArray.toList {data:= #[] } ==ByteArray.toList {data:= #[] })=true:=by rw [DY]; rfl
theorem Kv:B9 {data:= #[] } =some true:=by rfl
theorem OJ {s:ByteArray} (h:Nm s):Bf (s,{data:= #[] },false)=some true:=by
 unfold Bf
 dsimp only
 have e:=h.size
 rw [QM,DY,decide_eq_false h.ne,e]
 rfl
theorem Q8 {l:List ByteArray} (hl:l.length≤9223372036854775807) (h: ∀x ∈ l,Nm x) (hn:l.Nodup):BU l=some true:=by
 refine Ok.eq ?_
 unfold BU
 refine Eb (fun _ _=>True) hl trivial (fun k s hk _=> ?_) fun _ _=>AD rfl
 have hk':=List.getElem?_eq_getElem hk
 refine AV hk' (AN (h _ (List.getElem_mem hk)).name ?_)
 refine An rfl ?_
 refine Eb (fun _ _=>True) (by omega) trivial (fun j s hj _=> ?_) fun _ _=>E7 trivial
 have hj':=List.getElem?_eq_getElem (show j<l.length by omega)
 refine AV hj' (AV hk' ?_)
 rw [DY,decide_eq_false (List.pairwise_iff_getElem.1 (List.nodup_iff_pairwise_ne.1 hn) j k (by omega) hk hj)]
 exact E7 trivial
theorem wr {x:Int} (h: -1000000≤x∧x≤1000000):IntKind.wrap .i64 x=x:=w64 (by omega) (by omega)
theorem tm {x n:Int} (h:0≤x):Int.tmod x n=x % n:=Int.tmod_eq_emod_of_nonneg h
theorem Sw {i:Int} (h0:0≤i) (h1:i<5):ByteArray.extract {data:= #[112,113,114,115,116] } (Int.toNat i) (Int.toNat (i+1))=nm 112 i.toNat:=by
 rw [show Int.toNat (i+1)=i.toNat+1 by omega,Vz (by omega)]
theorem Sx {i:Int} (h0:0≤i) (h1:i<5):ByteArray.extract {data:= #[97,98,99,100,101] } (Int.toNat i) (Int.toNat (i+1))=nm 97 i.toNat:=by
 rw [show Int.toNat (i+1)=i.toNat+1 by omega,Vy (by omega)]
theorem QN {i:Int} (h0:0≤i) (h1:i<4):ByteArray.extract {data:= #[83,84,85,86] } (Int.toNat i) (Int.toNat (i+1))=nm 83 i.toNat:=by
 rw [show Int.toNat (i+1)=i.toNat+1 by omega,V0 (by omega)]
def E1 (L:List ET):List ByteArray:=L.flatMap (·.2)
structure Lv (nl nk:Nat) (L:List ET):Prop where
 len:L.length=nl
 each: ∀(j:Nat) x,L[j]? =some x→1≤x.1∧x.1≤3∧nm 112 j ∈ x.2
 names: ∀x ∈ E1 L,(∃i,i<nl∧x=nm 112 i)∨ ∃i,i<nk∧x=nm 97 i
 once:(E1 L).Nodup
 room:(E1 L).length≤nl+nk
def Tk (n:Nat) (l:List F6):Prop:=l.length=n∧ ∀j,j<n→l[j]? =some (nm 97 j,nm 97 j,{data:= #[] },false)
structure Ru1 (nt nv nl:Nat) (r:C3):Prop where
 left: ∃i,i<nv∧r.1=nm 83 i
 few:r.2.1.length≤8
 right: ∀x ∈ r.2.1,(∃i,i<nt∧x=nm 97 i)∨ ∃i,i<nv∧x=nm 83 i
 prec:r.2.2.1= {data:= #[] } ∨ ∃i,i<nl∧r.2.2.1=nm 112 i
 act:r.2.2.2= {data:= #[] }
theorem Lv.snoc {k:Nat} {L:List ET} {a:Int} (H:Lv k 0 L) (ha:1≤a∧a≤3) (hk:k<5):Lv (k+1) 0 (L++ [(a, [nm 112 k])]):=by
 have e:E1 (L++ [(a, [nm 112 k])])=E1 L++ [nm 112 k] :=by unfold E1; rw [List.flatMap_append]; rfl
 refine ⟨by simp [H.len],fun j x hj=> ?_,fun x hx=> ?_,?_,?_⟩
 ·rcases Nat.lt_or_ge j L.length with g | g
  ·rw [List.getElem?_append_left g] at hj; exact H.each j x hj
  ·rw [List.getElem?_append_right g] at hj
   have:j - L.length=0:=by
    rcases Nat.eq_zero_or_pos (j - L.length) with q | q
    ·exact q
    ·rw [List.getElem?_eq_none (by simp; omega)] at hj; cases hj
   rw [this] at hj
   simp at hj
   subst hj
   have:j=k:=by have:=H.len; omega
   subst this
   exact ⟨ha.1,ha.2,by simp⟩
 ·rw [e] at hx
  rcases List.mem_append.1 hx with h | h
  ·rcases H.names x h with ⟨i,h1,h2⟩ | ⟨i,h1,h2⟩
   ·exact .inl ⟨i,by omega,h2⟩
   ·omega
  ·exact .inl ⟨k,by omega,by simpa using h⟩
 ·rw [e]
  refine List.nodup_append.2 ⟨H.once,by simp,fun x hx y hy hxy=> ?_⟩
  have hy:y=nm 112 k:=by simpa using hy
  subst hy
  rcases H.names x hx with ⟨i,h1,h2⟩ | ⟨i,h1,h2⟩
  ·rw [h2] at hxy
   have:=KY (by omega) (by omega) hxy
   omega
  ·omega
 ·rw [e,List.length_append]
  have:=H.room
  simp
  omega
theorem Sz {L:List ET} {q:Nat} {a:Int} {ns:List ByteArray} {y:ByteArray} (h:L[q]? =some (a,ns)):(E1 (L.set q (a,ns++ [y]))).Perm (y::E1 L):=by
 induction L generalizing q with
 | nil=>simp at h
 | cons x L ih=>
  cases q with
  | zero=>
   simp at h
   subst h
   show (ns++ [y] ++E1 L).Perm (y::(ns++E1 L))
   rw [List.append_assoc]
   exact List.perm_middle
  | succ q=>
   have:=ih (q:=q) (by simpa using h)
   show (x.2++E1 (L.set q (a,ns++ [y]))).Perm (y::(x.2++E1 L))
   exact (this.append_left x.2).trans List.perm_middle
theorem Lv.put {nl k:Nat} {L:List ET} {q:Nat} {a:Int} {ns:List ByteArray} (H:Lv nl k L) (hk:k<5) (hn:nl≤5) (h:L[q]? =some (a,ns)):Lv nl (k+1) (L.set q (a,ns++ [nm 97 k])):=by
 have hp:=Sz (y:=nm 97 k) h
 refine ⟨by simp [H.len],fun j x hj=> ?_,fun x hx=> ?_,?_,?_⟩
 ·by_cases hq:j=q
  ·subst hq
   rw [List.getElem?_set_self (List.getElem?_eq_some_iff.1 h).1] at hj
   cases hj
   obtain ⟨h1,h2,h3⟩:=H.each j _ h
   exact ⟨h1,h2,List.mem_append_left _ h3⟩
  ·rw [List.getElem?_set_ne (fun e=>hq e.symm)] at hj
   exact H.each j x hj
 ·rcases List.mem_cons.1 (hp.mem_iff.1 hx) with rfl | h
  ·exact .inr ⟨k,by omega,rfl⟩
  ·rcases H.names x h with h | ⟨i,h1,h2⟩
   ·exact .inl h
   ·exact .inr ⟨i,by omega,h2⟩
 ·rw [hp.nodup_iff]
  refine List.nodup_cons.2 ⟨fun hm=> ?_,H.once⟩
  rcases H.names _ hm with ⟨i,h1,h2⟩ | ⟨i,h1,h2⟩
  ·have:=KY (by omega) (by omega) h2
   omega
  ·have:=KY (by omega) (by omega) h2
   omega
 ·rw [hp.length_eq,List.length_cons]
  have:=H.room
  omega
theorem Lv.up {nl k:Nat} {L:List ET} (H:Lv nl k L):Lv nl (k+1) L:=⟨H.len,H.each,fun x hx=>by
 rcases H.names x hx with h | ⟨i,h1,h2⟩
 ·exact .inl h
 ·exact .inr ⟨i,by omega,h2⟩,H.once,by have:=H.room; omega⟩
theorem Tk.snoc {k:Nat} {l:List F6} (H:Tk k l):Tk (k+1) (l++ [(nm 97 k,nm 97 k,{data:= #[] },false)]):=by
 refine ⟨by simp [H.1],fun j hj=> ?_⟩
 rcases Nat.lt_or_ge j k with g | g
 ·rw [List.getElem?_append_left (by rw [H.1]; exact g)]; exact H.2 j g
 ·have:j=k:=by omega
  subst this
  rw [List.getElem?_append_right (by rw [H.1]; omega),H.1]
  simp
structure Sg (nt nv nl:Nat) (g:CW):Prop where
 nt1:1≤nt
 nt5:nt≤5
 nv1:1≤nv
 nv4:nv≤4
 nl5:nl≤5
 toks:Tk nt g.1
 skips:g.2.1= []
 levs:Lv nl nt g.2.2.1
 start:g.2.2.2.1=nm 83 0
 rules: ∀r ∈ g.2.2.2.2,Ru1 nt nv nl r
 all: ∀v,v<nv→ ∃r ∈ g.2.2.2.2,r.1=nm 83 v
 room:g.2.2.2.2.length≤24
structure SmG (s:KQ):Prop where
 t0:0≤s.1∧s.1<256
 v0:0≤s.2.1∧s.2.1<256
 lefts:s.2.2.1.length≤9223372036854775807∧ ∀x ∈ s.2.2.1,0≤x∧x<256
 rights:s.2.2.2.1.length≤9223372036854775807∧ ∀l ∈ s.2.2.2.1,l.length≤9223372036854775807∧ ∀x ∈ l,0≤x∧x<256
 precs:s.2.2.2.2.1.length≤9223372036854775807∧ ∀x ∈ s.2.2.2.2.1,0≤x∧x<256
 assocs:s.2.2.2.2.2.1.length≤9223372036854775807∧ ∀x ∈ s.2.2.2.2.2.1,0≤x∧x<256
 levels:s.2.2.2.2.2.2.length≤9223372036854775807∧ ∀x ∈ s.2.2.2.2.2.2,0≤x∧x<256
structure SmF (n m:Nat) (s:KQ):Prop where
 lefts:s.2.2.1.length≤n
 assocs:s.2.2.2.2.2.1.length≤5
 rights: ∀l ∈ s.2.2.2.1,l.length≤m
theorem SmF.up {s:KQ} (F:SmF 12 5 s):SmF 20 8 s:=⟨by have:=F.lefts; omega,F.assocs,fun l hl=>by have:=F.rights l hl; omega⟩
theorem S1 {s:KQ} (G:SmG s) (n m:Nat):Ok (BS s (n:Int) (m:Int)) fun b=>b=true→SmF n m s:=by
 unfold BS
 refine AM (Q:=fun c=>c=false→s.2.2.1.length≤n∧s.2.2.2.2.2.1.length≤5) (Ac (fun h=>AD (by simp)) fun h=>AD fun h'=> ?_) fun c hc=> ?_
 ·have h:=of_decide_eq_false h; have h':=of_decide_eq_false h'; omega
 refine Ac (fun _=>AD (by simp)) fun h=> ?_
 obtain ⟨h1,h2⟩:=hc h
 refine Ku s.2.2.2.1 (fun _ l=>decide (((l.length:Nat):Int) >(m:Int))) (fun _ _=>false) (by have:=G.rights.1; omega) (fun j x hx=> ?_) (fun h=>AD fun _=>⟨h1,h2,fun l hl=> ?_⟩) fun j x hx hq _=>AD (by simp)
 ·rw [Cw,hx,Option.bind_some]
  cases decide (((x.length:Nat):Int) >(m:Int)) <;>rfl
 ·obtain ⟨j,hj⟩:=List.getElem?_of_mem hl
  have:=of_decide_eq_false (h j l hj)
  omega
set_option maxHeartbeats 4000000 in
theorem QO {s:KQ} (G:SmG s) (F:SmF 20 8 s):Ok (BQ s) (Sg (s.1.toNat % 5+1) (s.2.1.toNat % 4+1) s.2.2.2.2.2.1.length):=by
 obtain ⟨tk,vr,lefts,rights,precs,assocs,levels⟩:=s
 obtain ⟨g1,g2,g3,g4,g5,g6,g7⟩:=G
 obtain ⟨f1,f2,f3⟩:=F
 dsimp only at *
 unfold BQ
 dsimp only
 have et:IntKind.wrap .i64 ((IntKind.wrap .i64 (Int.tmod tk (5:Int))) +(1:Int))=((tk.toNat % 5+1:Nat):Int):=by
  rw [tm g1.1,wr (show -1000000≤tk % 5∧tk % 5≤1000000 by omega),wr (by omega)]; omega
 have ev:IntKind.wrap .i64 ((IntKind.wrap .i64 (Int.tmod vr (4:Int))) +(1:Int))=((vr.toNat % 4+1:Nat):Int):=by
  rw [tm g2.1,wr (show -1000000≤vr % 4∧vr % 4≤1000000 by omega),wr (by omega)]; omega
 rw [et,ev]
 generalize hnt:tk.toNat % 5+1=nt
 generalize hnv:vr.toNat % 4+1=nv
 have s5:(ByteArray.size {data:= #[112,113,114,115,116] } :Nat)=5:=rfl
 have s5':(ByteArray.size {data:= #[97,98,99,100,101] } :Nat)=5:=rfl
 have s4:(ByteArray.size {data:= #[83,84,85,86] } :Nat)=4:=rfl
 rw [s5,s5',s4]
 refine Bg (by decide) (Bg (by decide) ?_)
 refine B5 (fun k (z:CW)=>z.1= [] ∧z.2.1= [] ∧Lv k 0 z.2.2.1∧z.2.2.2.1=nm 83 0∧z.2.2.2.2= []) (by omega) ⟨rfl,rfl,⟨rfl,fun j x h=>by simp at h,fun x h=>by simp [E1] at h,by simp [E1],by simp [E1]⟩,rfl,rfl⟩ (fun k z hk h=> ?_) fun z hz=> ?_
 ·obtain ⟨z1,z2,z3,z4,z5⟩:=z
  obtain ⟨rfl,rfl,h,rfl,rfl⟩:=h
  have hx:=List.getElem?_eq_getElem hk
  have hb:=g6.2 _ (List.getElem_mem hk)
  refine AV hx (Bg (by decide) (Bg ?_ ?_))
  ·rw [wr (by omega)]; omega
  have hl:=h.len
  dsimp only at hl ⊢
  refine Bm (by simp; omega) (AD ⟨rfl,rfl,?_,rfl,rfl⟩)
  rw [tm hb.1,wr (show -1000000≤assocs[k] % 3∧assocs[k] % 3≤1000000 by omega),wr (show -1000000≤assocs[k] % 3+1∧assocs[k] % 3+1≤1000000 by omega),wr (show -1000000≤(k:Int) +1∧(k:Int) +1≤1000000 by omega),Sw (by omega) (by omega)]
  exact h.snoc (by omega) (by omega)
 obtain ⟨z1,z2,z3,z4,z5⟩:=z
 obtain ⟨rfl,rfl,hz,rfl,rfl⟩:=hz
 dsimp only at hz
 refine B5 (fun k (z:CW)=>Tk k z.1∧z.2.1= [] ∧Lv assocs.length k z.2.2.1∧z.2.2.2.1=nm 83 0∧z.2.2.2.2= []) (by omega) ⟨⟨rfl,fun j h=>by omega⟩,rfl,hz,rfl,rfl⟩ (fun k z hk h=> ?_) fun z hz=> ?_
 ·obtain ⟨z1,z2,z3,z4,z5⟩:=z
  obtain ⟨ht,rfl,hL,rfl,rfl⟩:=h
  dsimp only at ht hL ⊢
  have hl:=hL.len
  have htl:=ht.1
  refine Bg (by rw [wr (by omega)]; omega) ?_
  rw [wr (show -1000000≤(k:Int) +1∧(k:Int) +1≤1000000 by omega),Sx (by omega) (by omega),Int.toNat_natCast]
  refine Bm (by simp; omega) ?_
  refine AM (Q:=fun (z:CW)=>Tk (k+1) z.1∧z.2.1= [] ∧Lv assocs.length (k+1) z.2.2.1∧z.2.2.2.1=nm 83 0∧z.2.2.2.2= []) (Ac (fun hc=> ?_) fun _=>AD ⟨ht.snoc,rfl,hL.up,rfl,rfl⟩) fun _ h=>AD h
  have hc:=of_decide_eq_true hc
  have hx:=List.getElem?_eq_getElem (show k<levels.length by omega)
  have hb:=g7.2 _ (List.getElem_mem (show k<levels.length by omega))
  refine AV hx (Bg (by rw [wr (by omega)]; omega) ?_)
  have hm:0≤levels[k] % ((z3.length:Int) +1)∧levels[k] % ((z3.length:Int) +1) < (z3.length:Int) +1:=⟨Int.emod_nonneg _ (by omega),Int.emod_lt_of_pos _ (by omega)⟩
  rw [wr (show -1000000≤levels[k] ∧levels[k] ≤1000000 by omega),wr (show -1000000≤(z3.length:Int) +1∧(z3.length:Int) +1≤1000000 by omega),tm hb.1]
  generalize levels[k] % ((z3.length:Int) +1)=q at hm
  refine AM (Q:=fun (z:CW)=>Tk (k+1) z.1∧z.2.1= [] ∧Lv assocs.length (k+1) z.2.2.1∧z.2.2.2.1=nm 83 0∧z.2.2.2.2= []) (Ac (fun hq=> ?_) fun _=>AD ⟨ht.snoc,rfl,hL.up,rfl,rfl⟩) fun _ h=>AD h
  have hq:=of_decide_eq_true hq
  rw [wr (show -1000000≤q - 1∧q - 1≤1000000 by omega)]
  have hq':(q - 1).toNat<z3.length:=by omega
  have hy:=List.getElem?_eq_getElem hq'
  have hroom:z3[(q - 1).toNat].2.length≤(E1 z3).length:=(List.sublist_flatten_of_mem (List.mem_map_of_mem (List.getElem_mem hq'))).length_le
  have hr:=hL.room
  refine Dt (by omega) hy (Bm (by simp only [List.length_nil]; omega) (Bm (by simp only [List.length_nil,List.length_append,List.length_cons]; omega) (Dt (by omega) hy (Hm (by omega) (by omega) (AD ⟨ht.snoc,rfl,?_,rfl,rfl⟩)))))
  exact hL.put (by omega) (by omega) hy
 obtain ⟨z1,z2,z3,z4,z5⟩:=z
 obtain ⟨hT,rfl,hL,rfl,rfl⟩:=hz
 dsimp only at hT hL
 have hl:=hL.len
 refine B5 (fun k (z:CW)=>z.1=z1∧z.2.1= [] ∧z.2.2.1=z3∧z.2.2.2.1=nm 83 0∧z.2.2.2.2.length=k∧ ∀r ∈ z.2.2.2.2,Ru1 nt nv assocs.length r) (by omega) ⟨rfl,rfl,rfl,rfl,rfl,by simp⟩ (fun k z hk h=> ?_) fun z hz=> ?_
 ·obtain ⟨y1,y2,y3,y4,y5⟩:=z
  obtain ⟨rfl,rfl,rfl,rfl,hlen,hr⟩:=h
  dsimp only at hlen hr hl ⊢
  have hx:=List.getElem?_eq_getElem hk
  have hb:=g3.2 _ (List.getElem_mem hk)
  have hm:0≤lefts[k] % (nv:Int)∧lefts[k] % (nv:Int) < (nv:Int):=⟨Int.emod_nonneg _ (by omega),Int.emod_lt_of_pos _ (by omega)⟩
  refine AV hx (Bg (by omega) (AV hx (Bg (by omega) ?_)))
  rw [wr (show -1000000≤lefts[k] ∧lefts[k] ≤1000000 by omega),tm hb.1]
  generalize lefts[k] % (nv:Int)=q at hm
  rw [wr (show -1000000≤q+1∧q+1≤1000000 by omega)]
  refine Bg (by omega) ?_
  rw [QN (by omega) (by omega)]
  refine AM (Q:=fun (x:C3)=>x.2.2.1= {data:= #[] } ∧Ru1 nt nv assocs.length x) (Ac (fun hc=> ?_) fun _=>AD ⟨rfl,⟨q.toNat,by omega,rfl⟩,by simp,by simp, .inl rfl,rfl⟩) fun x hx'=> ?_
  ·have hc:=of_decide_eq_true hc
   have hR:=List.getElem?_eq_getElem (show k<rights.length by omega)
   have hRm:=List.getElem_mem (show k<rights.length by omega)
   have hR5:=f3 _ hRm
   have hRb:=(g4.2 _ hRm).2
   generalize rights[k] =R at hR hR5 hRb
   refine DL (fun (z:Int×C3)=>0≤z.1∧z.1≤(R.length:Int)∧(z.2.2.1.length:Int)=z.1∧z.2.2.2.1= {data:= #[] } ∧Ru1 nt nv assocs.length z.2) (fun z=>(R.length:Nat) - z.1.toNat) (fun x=>x.2.2.1= {data:= #[] } ∧Ru1 nt nv assocs.length x) ⟨Int.le_refl _,by dsimp only; omega,rfl,rfl,⟨q.toNat,by omega,rfl⟩,by simp,by simp, .inl rfl,rfl⟩ (fun z hz=> ?_) fun x hx=>AD hx
   obtain ⟨i,z⟩:=z
   obtain ⟨h0,h1,h2,h3,h4⟩:=hz
   dsimp only at h0 h1 h2 h3 h4 ⊢
   refine AV hR (Ac (fun hc=> ?_) fun hc=>Bs ⟨h3,h4⟩)
   have hc:=of_decide_eq_true hc
   have hi:i.toNat<R.length:=by omega
   have hy:=List.getElem?_eq_getElem hi
   have hyb:=hRb _ (List.getElem_mem hi)
   refine AV hR (Dt h0 hy ?_)
   generalize R[i.toNat] =e at hyb
   rw [wr (show -1000000≤e∧e≤1000000 by omega),wr (show -1000000≤(nt:Int) +(nv:Int)∧(nt:Int) +(nv:Int) ≤1000000 by omega),tm hyb.1]
   have hm2:0≤e % ((nt:Int) +(nv:Int))∧e % ((nt:Int) +(nv:Int)) < (nt:Int) +(nv:Int):=⟨Int.emod_nonneg _ (by omega),Int.emod_lt_of_pos _ (by omega)⟩
   generalize e % ((nt:Int) +(nv:Int))=w at hm2
   rw [tm hm2.1,wr (show -1000000≤w % 5+1∧w % 5+1≤1000000 by omega)]
   refine Bg (by omega) (Bg (by decide) (Bg (by decide) (Bg (by omega) ?_)))
   refine AM (Q:=fun x=>(∃i,i<nt∧x=nm 97 i)∨ ∃i,i<nv∧x=nm 83 i) (Ac (fun hw=> ?_) fun hw=>AD ?_) fun x hx=> ?_
   ·have hw:=of_decide_eq_true hw
    rw [wr (show -1000000≤w - (nt:Int)∧w - (nt:Int) ≤1000000 by omega),wr (show -1000000≤w - (nt:Int) +1∧w - (nt:Int) +1≤1000000 by omega)]
    refine Bg (by omega) (AD ?_)
    rw [QN (by omega) (by omega)]
    exact .inr ⟨_,by omega,rfl⟩
   ·have hw:=of_decide_eq_false hw
    rw [Sx (by omega) (by omega)]
    exact .inl ⟨_,by omega,rfl⟩
   ·refine Bm (by simp; omega) (CQ ⟨⟨?_,?_,?_,h3,⟨h4.left,?_,?_,h4.prec,h4.act⟩⟩,?_⟩)
    ·rw [wr (by omega)]; omega
    ·rw [wr (by omega)]; omega
    ·rw [wr (by omega),List.length_append]; simp; omega
    ·rw [List.length_append]; simp; omega
    ·intro x' hx'
     rcases List.mem_append.1 hx' with h | h
     ·exact h4.right _ h
     ·have:x'=x:=by simpa using h
      subst this; exact hx
    ·rw [wr (by omega)]; omega
  ·obtain ⟨hp,hr1⟩:=hx'
   obtain ⟨x1,x2,x3,x4⟩:=x
   dsimp only at hp ⊢
   subst hp
   refine AM (Q:=Ru1 nt nv assocs.length) (Ac (fun hc=> ?_) fun _=>AD hr1) fun x hx=> ?_
   ·have hc:=of_decide_eq_true hc
    have hP:=List.getElem?_eq_getElem (show k<precs.length by omega)
    have hPb:=g5.2 _ (List.getElem_mem (show k<precs.length by omega))
    refine AV hP ?_
    generalize precs[k] =e at hPb
    rw [wr (show -1000000≤e∧e≤1000000 by omega),wr (show -1000000≤(y3.length:Int) +1∧(y3.length:Int) +1≤1000000 by omega),tm hPb.1]
    have hm2:0≤e % ((y3.length:Int) +1)∧e % ((y3.length:Int) +1) < (y3.length:Int) +1:=⟨Int.emod_nonneg _ (by omega),Int.emod_lt_of_pos _ (by omega)⟩
    generalize e % ((y3.length:Int) +1)=w at hm2
    refine Bg (by omega) ?_
    refine AM (Q:=Ru1 nt nv assocs.length) (Ac (fun hw=> ?_) fun _=>AD hr1) fun x hx=>AD hx
    have hw:=of_decide_eq_true hw
    rw [wr (show -1000000≤w - 1∧w - 1≤1000000 by omega)]
    refine Bg (by omega) (AD ⟨hr1.left,hr1.few,hr1.right, .inr ⟨(w - 1).toNat,by omega,?_⟩,hr1.act⟩)
    have:=Sw (i:=w - 1) (by omega) (by omega)
    rw [show w - 1+1=w by omega] at this
    exact this
   ·refine Bm (by simp; omega) (AD ⟨rfl,rfl,rfl,rfl,by simp [hlen],fun r hr'=> ?_⟩)
    rcases List.mem_append.1 hr' with h | h
    ·exact hr _ h
    ·have:r=x:=by simpa using h
     subst this; exact hx
 obtain ⟨y1,y2,y3,y4,y5⟩:=z
 obtain ⟨rfl,rfl,rfl,rfl,hlen,hr⟩:=hz
 dsimp only at hlen hr
 refine B5 (fun k (z:CW)=>z.1=y1∧z.2.1= [] ∧z.2.2.1=y3∧z.2.2.2.1=nm 83 0∧z.2.2.2.2.length≤lefts.length+k∧(∀r ∈ z.2.2.2.2,Ru1 nt nv assocs.length r)∧ ∀v,v<k→ ∃r ∈ z.2.2.2.2,r.1=nm 83 v) (by omega) ⟨rfl,rfl,rfl,rfl,by dsimp only; omega,hr,fun v hv=>by omega⟩ (fun k z hk h=> ?_) fun z hz=> ?_
 ·obtain ⟨x1,x2,x3,x4,x5⟩:=z
  obtain ⟨rfl,rfl,rfl,rfl,h1,h2,h3⟩:=h
  dsimp only at h1 h2 h3 ⊢
  refine Bg (by rw [wr (by omega)]; omega) ?_
  rw [wr (show -1000000≤(k:Int) +1∧(k:Int) +1≤1000000 by omega),QN (by omega) (by omega),Int.toNat_natCast]
  refine DL (fun (z:Int×Bool)=>0≤z.1∧z.1≤(x5.length:Int)∧(z.2=true→ ∃r ∈ x5,r.1=nm 83 k)) (fun z=>x5.length - z.1.toNat) (fun b=>b=true→ ∃r ∈ x5,r.1=nm 83 k) ⟨by decide,by dsimp only; omega,by simp⟩ (fun z hz=> ?_) fun b hb=> ?_
  ·obtain ⟨i,b⟩:=z
   obtain ⟨j1,j2,j3⟩:=hz
   dsimp only at j1 j2 j3 ⊢
   refine Ac (fun hc=> ?_) fun hc=>Bs j3
   have hc:=of_decide_eq_true hc
   have hi:i.toNat<x5.length:=by omega
   have hy:=List.getElem?_eq_getElem hi
   refine AM (Q:=fun b=>b=true→ ∃r ∈ x5,r.1=nm 83 k) (Ac (fun hb=>AD fun _=>j3 hb) fun _=>Dt j1 hy (AD fun he=> ?_)) fun b' hb'=> ?_
   ·rw [DY] at he
    exact ⟨_,List.getElem_mem hi,of_decide_eq_true he⟩
   ·refine CQ ⟨⟨?_,?_,hb'⟩,?_⟩
    ·rw [wr (by omega)]; omega
    ·rw [wr (by omega)]; omega
    ·rw [wr (by omega)]; omega
  ·refine AM (Q:=fun (z:CW)=>z.1=x1∧z.2.1= [] ∧z.2.2.1=x3∧z.2.2.2.1=nm 83 0∧z.2.2.2.2.length≤lefts.length+(k+1)∧(∀r ∈ z.2.2.2.2,Ru1 nt nv assocs.length r)∧ ∀v,v<k+1→ ∃r ∈ z.2.2.2.2,r.1=nm 83 v) (Ac (fun hc=> ?_) fun hc=>AD ⟨rfl,rfl,rfl,rfl,by dsimp only; omega,h2,fun v hv=> ?_⟩) fun z hz=>AD hz
   ·refine Bm (by simp; omega) (AD ⟨rfl,rfl,rfl,rfl,by dsimp only; rw [List.length_append]; simp; omega,fun r hr'=> ?_,fun v hv=> ?_⟩)
    ·rcases List.mem_append.1 hr' with h | h
     ·exact h2 _ h
     ·obtain rfl:=List.mem_singleton.1 h
      exact ⟨⟨k,hk,rfl⟩,by simp,by simp, .inl rfl,rfl⟩
    ·rcases Nat.lt_succ_iff_lt_or_eq.1 hv with h | rfl
     ·obtain ⟨r,a,b⟩:=h3 v h
      exact ⟨r,List.mem_append_left _ a,b⟩
     ·exact ⟨_,List.mem_append_right _ (List.mem_singleton.2 rfl),rfl⟩
   ·rcases Nat.lt_succ_iff_lt_or_eq.1 hv with h | rfl
    ·exact h3 v h
    ·exact hb (by simpa using hc)
 obtain ⟨x1,x2,x3,x4,x5⟩:=z
 obtain ⟨rfl,rfl,rfl,rfl,h1,h2,h3⟩:=hz
 dsimp only at h1 h2 h3
 exact AD ⟨by omega,by omega,by omega,by omega,by omega,hT,rfl,hL,rfl,h2,h3,by dsimp only; omega⟩
end Go.Proofs.YteolcjbobmpdiaaGreatDoor
namespace Go.Proofs.YteolcjbobmpdiaaGreatDoor
open Go Go.Shelf Go.Proofs
set_option maxRecDepth 100000
def Ax:Ren:=⟨fun x=>bif Nat.beq x 125 then 156 else bif Nat.beq x 128 then 178 else bif Nat.beq x 129 then 179 else bif Nat.beq x 189 then 130 else bif Nat.beq x 215 then 180 else bif Nat.beq x 216 then 187 else bif Nat.beq x 257 then 159 else bif Nat.beq x 294 then 181 else bif Nat.beq x 295 then 182 else bif Nat.beq x 296 then 183 else bif Nat.beq x 297 then 184 else bif Nat.beq x 298 then 185 else bif Nat.beq x 299 then 186 else bif Nat.beq x 300 then 188 else bif Nat.beq x 301 then 189 else bif Nat.beq x 328 then 201 else bif Nat.beq x 329 then 197 else bif Nat.beq x 330 then 198 else bif Nat.beq x 331 then 202 else bif Nat.beq x 332 then 203 else bif Nat.beq x 343 then 210 else 0,fun x=>bif Nat.beq x 0 then 0 else bif Nat.beq x 3 then 3 else bif Nat.beq x 4 then 4 else bif Nat.beq x 5 then 5 else bif Nat.beq x 9 then 9 else bif Nat.beq x 28 then 30 else bif Nat.beq x 46 then 244 else bif Nat.beq x 51 then 263 else bif Nat.beq x 53 then 237 else bif Nat.beq x 131 then 186 else bif Nat.beq x 182 then 256 else bif Nat.beq x 183 then 257 else bif Nat.beq x 218 then 275 else bif Nat.beq x 222 then 279 else bif Nat.beq x 228 then 287 else bif Nat.beq x 229 then 288 else 0,fun _=>0⟩
theorem Kw:Lays.n189 Tryz.prog Ax where
 mixed:=by kernel_rfl
 f125:=Tryz.func156.trans (congrArg some (show Tryz.f156=Body.n125 Ax by kernel_rfl))
 f128:=Tryz.func178.trans (congrArg some (show Tryz.f178=Body.n128 Ax by kernel_rfl))
 f129:=Tryz.func179.trans (congrArg some (show Tryz.f179=Body.n129 Ax by kernel_rfl))
 f189:=Tryz.func130.trans (congrArg some (show Tryz.f130=Body.n189 Ax by kernel_rfl))
 f215:=Tryz.func180.trans (congrArg some (show Tryz.f180=Body.n215 Ax by kernel_rfl))
 f216:=Tryz.func187.trans (congrArg some (show Tryz.f187=Body.n216 Ax by kernel_rfl))
 f257:=Tryz.func159.trans (congrArg some (show Tryz.f159=Body.n257 Ax by kernel_rfl))
 f294:=Tryz.func181.trans (congrArg some (show Tryz.f181=Body.n294 Ax by kernel_rfl))
 f295:=Tryz.func182.trans (congrArg some (show Tryz.f182=Body.n295 Ax by kernel_rfl))
 f296:=Tryz.func183.trans (congrArg some (show Tryz.f183=Body.n296 Ax by kernel_rfl))
 f297:=Tryz.func184.trans (congrArg some (show Tryz.f184=Body.n297 Ax by kernel_rfl))
 f298:=Tryz.func185.trans (congrArg some (show Tryz.f185=Body.n298 Ax by kernel_rfl))
 f299:=Tryz.func186.trans (congrArg some (show Tryz.f186=Body.n299 Ax by kernel_rfl))
 f300:=Tryz.func188.trans (congrArg some (show Tryz.f188=Body.n300 Ax by kernel_rfl))
 f301:=Tryz.func189.trans (congrArg some (show Tryz.f189=Body.n301 Ax by kernel_rfl))
 f328:=Tryz.func201.trans (congrArg some (show Tryz.f201=Body.n328 Ax by kernel_rfl))
 f329:=Tryz.func197.trans (congrArg some (show Tryz.f197=Body.n329 Ax by kernel_rfl))
 f330:=Tryz.func198.trans (congrArg some (show Tryz.f198=Body.n330 Ax by kernel_rfl))
 f331:=Tryz.func202.trans (congrArg some (show Tryz.f202=Body.n331 Ax by kernel_rfl))
 f332:=Tryz.func203.trans (congrArg some (show Tryz.f203=Body.n332 Ax by kernel_rfl))
 f343:=Tryz.func210.trans (congrArg some (show Tryz.f210=Body.n343 Ax by kernel_rfl))
 t0:=Tryz.underlying0
 a0:=Tryz.isAgg0
 z0:=Tryz.sizeOf0
 v0:=Tryz.zeroValue0
 t3:=Tryz.underlying3
 a3:=Tryz.isAgg3
 z3:=Tryz.sizeOf3
 v3:=Tryz.zeroValue3
 t4:=Tryz.underlying4
 a4:=Tryz.isAgg4
 z4:=Tryz.sizeOf4
 v4:=Tryz.zeroValue4
 t5:=Tryz.underlying5
 a5:=Tryz.isAgg5
 z5:=Tryz.sizeOf5
 v5:=Tryz.zeroValue5
 t9:=Tryz.underlying9
 a9:=Tryz.isAgg9
 z9:=Tryz.sizeOf9
 v9:=Tryz.zeroValue9
 t28:=Tryz.underlying30
 a28:=Tryz.isAgg30
 z28:=Tryz.sizeOf30
 v28:=Tryz.zeroValue30
 t46:=Tryz.underlying244
 a46:=Tryz.isAgg244
 z46:=Tryz.sizeOf244
 v46:=Tryz.zeroValue244
 t51:=Tryz.underlying263
 a51:=Tryz.isAgg263
 z51:=Tryz.sizeOf263
 v51:=Tryz.zeroValue263
 t53:=Tryz.underlying237
 a53:=Tryz.isAgg237
 z53:=Tryz.sizeOf237
 v53:=Tryz.zeroValue237
 t131:=Tryz.underlying186
 a131:=Tryz.isAgg186
 z131:=Tryz.sizeOf186
 v131:=Tryz.zeroValue186
 t182:=Tryz.underlying256
 a182:=Tryz.isAgg256
 z182:=Tryz.sizeOf256
 v182:=Tryz.zeroValue256
 t183:=Tryz.underlying257
 a183:=Tryz.isAgg257
 z183:=Tryz.sizeOf257
 v183:=Tryz.zeroValue257
 t218:=Tryz.underlying275
 a218:=Tryz.isAgg275
 z218:=Tryz.sizeOf275
 v218:=Tryz.zeroValue275
 t222:=Tryz.underlying279
 a222:=Tryz.isAgg279
 z222:=Tryz.sizeOf279
 v222:=Tryz.zeroValue279
 t228:=Tryz.underlying287
 a228:=Tryz.isAgg287
 z228:=Tryz.sizeOf287
 v228:=Tryz.zeroValue287
 t229:=Tryz.underlying288
 a229:=Tryz.isAgg288
 z229:=Tryz.sizeOf288
 v229:=Tryz.zeroValue288
def DF:Ren:=⟨fun x=>bif Nat.beq x 6 then 127 else bif Nat.beq x 14 then 155 else bif Nat.beq x 15 then 156 else bif Nat.beq x 20 then 170 else bif Nat.beq x 21 then 171 else bif Nat.beq x 22 then 172 else bif Nat.beq x 23 then 173 else bif Nat.beq x 24 then 174 else bif Nat.beq x 25 then 175 else bif Nat.beq x 26 then 176 else bif Nat.beq x 27 then 177 else bif Nat.beq x 28 then 178 else bif Nat.beq x 29 then 179 else bif Nat.beq x 46 then 196 else bif Nat.beq x 47 then 197 else bif Nat.beq x 48 then 198 else bif Nat.beq x 49 then 199 else bif Nat.beq x 50 then 200 else bif Nat.beq x 57 then 209 else 0,fun x=>bif Nat.beq x 0 then 0 else bif Nat.beq x 3 then 3 else bif Nat.beq x 4 then 4 else bif Nat.beq x 5 then 5 else bif Nat.beq x 9 then 9 else bif Nat.beq x 22 then 67 else bif Nat.beq x 24 then 70 else bif Nat.beq x 25 then 216 else bif Nat.beq x 39 then 244 else bif Nat.beq x 45 then 256 else bif Nat.beq x 46 then 257 else bif Nat.beq x 50 then 186 else bif Nat.beq x 53 then 263 else bif Nat.beq x 55 then 237 else bif Nat.beq x 66 then 275 else bif Nat.beq x 70 then 279 else bif Nat.beq x 76 then 287 else bif Nat.beq x 77 then 288 else 0,fun _=>0⟩
theorem I7:SlLaysF0.n6 Tryz.prog DF where
 mixed:=by kernel_rfl
 f6:=⟨ "slices.SortFunc[[]tronage/api.Item,tronage/api.Item]",by decide,Tryz.func127.trans (congrArg some (by kernel_rfl))⟩
 f14:=⟨ "slices.pdqsortCmpFunc[tronage/api.Item]",by decide,Tryz.func155.trans (congrArg some (by kernel_rfl))⟩
 f15:=Tryz.func156.trans (congrArg some (show Tryz.f156=SlBodyF.n15 DF by kernel_rfl))
 f20:=⟨ "slices.insertionSortCmpFunc[tronage/api.Item]",by decide,Tryz.func170.trans (congrArg some (by kernel_rfl))⟩
 f21:=⟨ "slices.heapSortCmpFunc[tronage/api.Item]",by decide,Tryz.func171.trans (congrArg some (by kernel_rfl))⟩
 f22:=⟨ "slices.breakPatternsCmpFunc[tronage/api.Item]",by decide,Tryz.func172.trans (congrArg some (by kernel_rfl))⟩
 f23:=⟨ "slices.choosePivotCmpFunc[tronage/api.Item]",by decide,Tryz.func173.trans (congrArg some (by kernel_rfl))⟩
 f24:=⟨ "slices.reverseRangeCmpFunc[tronage/api.Item]",by decide,Tryz.func174.trans (congrArg some (by kernel_rfl))⟩
 f25:=⟨ "slices.partialInsertionSortCmpFunc[tronage/api.Item]",by decide,Tryz.func175.trans (congrArg some (by kernel_rfl))⟩
 f26:=⟨ "slices.partitionEqualCmpFunc[tronage/api.Item]",by decide,Tryz.func176.trans (congrArg some (by kernel_rfl))⟩
 f27:=⟨ "slices.partitionCmpFunc[tronage/api.Item]",by decide,Tryz.func177.trans (congrArg some (by kernel_rfl))⟩
 f28:=Tryz.func178.trans (congrArg some (show Tryz.f178=SlBodyF.n28 DF by kernel_rfl))
 f29:=Tryz.func179.trans (congrArg some (show Tryz.f179=SlBodyF.n29 DF by kernel_rfl))
 f46:=⟨ "slices.siftDownCmpFunc[tronage/api.Item]",by decide,Tryz.func196.trans (congrArg some (by kernel_rfl))⟩
 f47:=Tryz.func197.trans (congrArg some (show Tryz.f197=SlBodyF.n47 DF by kernel_rfl))
 f48:=Tryz.func198.trans (congrArg some (show Tryz.f198=SlBodyF.n48 DF by kernel_rfl))
 f49:=⟨ "slices.medianAdjacentCmpFunc[tronage/api.Item]",by decide,Tryz.func199.trans (congrArg some (by kernel_rfl))⟩
 f50:=⟨ "slices.medianCmpFunc[tronage/api.Item]",by decide,Tryz.func200.trans (congrArg some (by kernel_rfl))⟩
 f57:=⟨ "slices.order2CmpFunc[tronage/api.Item]",by decide,Tryz.func209.trans (congrArg some (by kernel_rfl))⟩
 t0:=Tryz.underlying0
 a0:=Tryz.isAgg0
 z0:=Tryz.sizeOf0
 v0:=Tryz.zeroValue0
 t3:=Tryz.underlying3
 a3:=Tryz.isAgg3
 z3:=Tryz.sizeOf3
 v3:=Tryz.zeroValue3
 t4:=Tryz.underlying4
 a4:=Tryz.isAgg4
 z4:=Tryz.sizeOf4
 v4:=Tryz.zeroValue4
 t5:=Tryz.underlying5
 a5:=Tryz.isAgg5
 z5:=Tryz.sizeOf5
 v5:=Tryz.zeroValue5
 t9:=Tryz.underlying9
 a9:=Tryz.isAgg9
 z9:=Tryz.sizeOf9
 v9:=Tryz.zeroValue9
 t22:=Tryz.underlying67
 a22:=Tryz.isAgg67
 z22:=Tryz.sizeOf67
 v22:=Tryz.zeroValue67
 t25:=Tryz.underlying216
 a25:=Tryz.isAgg216
 z25:=Tryz.sizeOf216
 v25:=Tryz.zeroValue216
 t39:=Tryz.underlying244
 a39:=Tryz.isAgg244
 z39:=Tryz.sizeOf244
 v39:=Tryz.zeroValue244
 t45:=Tryz.underlying256
 a45:=Tryz.isAgg256
 z45:=Tryz.sizeOf256
 v45:=Tryz.zeroValue256
 t46:=Tryz.underlying257
 a46:=Tryz.isAgg257
 z46:=Tryz.sizeOf257
 v46:=Tryz.zeroValue257
 t50:=Tryz.underlying186
 a50:=Tryz.isAgg186
 z50:=Tryz.sizeOf186
 v50:=Tryz.zeroValue186
 t53:=Tryz.underlying263
 a53:=Tryz.isAgg263
 z53:=Tryz.sizeOf263
 v53:=Tryz.zeroValue263
 t55:=Tryz.underlying237
 a55:=Tryz.isAgg237
 z55:=Tryz.sizeOf237
 v55:=Tryz.zeroValue237
 t66:=Tryz.underlying275
 a66:=Tryz.isAgg275
 z66:=Tryz.sizeOf275
 v66:=Tryz.zeroValue275
 t70:=Tryz.underlying279
 a70:=Tryz.isAgg279
 z70:=Tryz.sizeOf279
 v70:=Tryz.zeroValue279
 t76:=Tryz.underlying287
 a76:=Tryz.isAgg287
 z76:=Tryz.sizeOf287
 v76:=Tryz.zeroValue287
 t77:=Tryz.underlying288
 a77:=Tryz.isAgg288
 z77:=Tryz.sizeOf288
 v77:=Tryz.zeroValue288
def Lz:Ren:=⟨fun x=>bif Nat.beq x 20 then 131 else 0,fun x=>bif Nat.beq x 0 then 0 else bif Nat.beq x 3 then 3 else bif Nat.beq x 4 then 4 else bif Nat.beq x 22 then 30 else 0,fun _=>0⟩
theorem Kx:Lays2.n20 Tryz.prog Lz where
 mixed:=by kernel_rfl
 f20:=Tryz.func131.trans (congrArg some (show Tryz.f131=Body2.n20 Lz by kernel_rfl))
 t0:=Tryz.underlying0
 a0:=Tryz.isAgg0
 z0:=Tryz.sizeOf0
 v0:=Tryz.zeroValue0
 t3:=Tryz.underlying3
 a3:=Tryz.isAgg3
 z3:=Tryz.sizeOf3
 v3:=Tryz.zeroValue3
 t4:=Tryz.underlying4
 a4:=Tryz.isAgg4
 z4:=Tryz.sizeOf4
 v4:=Tryz.zeroValue4
 t22:=Tryz.underlying30
 a22:=Tryz.isAgg30
 z22:=Tryz.sizeOf30
 v22:=Tryz.zeroValue30
 i3:=by kernel_rfl
def I8:Ren:=⟨fun x=>bif Nat.beq x 122 then 158 else bif Nat.beq x 215 then 180 else 0,fun x=>bif Nat.beq x 3 then 3 else bif Nat.beq x 4 then 4 else 0,fun _=>0⟩
theorem Kz:Lays.n122 Tryz.prog I8 where
 mixed:=by kernel_rfl
 f122:=Tryz.func158.trans (congrArg some (show Tryz.f158=Body.n122 I8 by kernel_rfl))
 f215:=Tryz.func180.trans (congrArg some (show Tryz.f180=Body.n215 I8 by kernel_rfl))
 t3:=Tryz.underlying3
 a3:=Tryz.isAgg3
 z3:=Tryz.sizeOf3
 v3:=Tryz.zeroValue3
 t4:=Tryz.underlying4
 a4:=Tryz.isAgg4
 z4:=Tryz.sizeOf4
 v4:=Tryz.zeroValue4
end Go.Proofs.YteolcjbobmpdiaaGreatDoor
namespace Go.Proofs.YteolcjbobmpdiaaGreatDoor
open Go Go.Eng Go.RowKit Go.Shelf Go.Sort
set_option linter.unusedVariables false
set_option maxRecDepth 100000
theorem Ec {k:IntKind} {φ:AC} (l:List Int):(Ro.int k).All φ (l.map (BW.int k).val) l:=by
 induction l with
 | nil=>exact .nil
 | cons x l ih=>exact Ro.All.cons (a:= [(BW.int k).val x]) rfl ih
def ins {α:Type} (le:α→α→Bool) (x:α):List α→List α
 | [] => [x]
 | y::l=>if le x y then x::y::l else y::ins le x l
def Na {α:Type} (le:α→α→Bool):List α→List α
 | [] => []
 | x::l=>ins le x (Na le l)
theorem O8 {α:Type} (le:α→α→Bool) (x:α) (l:List α):(ins le x l).Perm (x::l):=by
 induction l with
 | nil=>exact .refl _
 | cons y l ih=>
  unfold ins
  split
  ·exact .refl _
  ·exact (ih.cons y).trans (.swap x y l)
theorem Cu {α:Type} (le:α→α→Bool) (l:List α):(Na le l).Perm l:=by
 induction l with
 | nil=>exact .refl _
 | cons x l ih=>exact (O8 le x _).trans (ih.cons x)
theorem V1 {α:Type} {le:α→α→Bool} (ht: ∀a b c,le a b=true→le b c=true→le a c=true) (hl: ∀a b,(le a b || le b a)=true) (x:α) {l:List α} (h:l.Pairwise fun a b=>le a b=true):(ins le x l).Pairwise fun a b=>le a b=true:=by
 induction l with
 | nil=>exact List.pairwise_singleton _ _
 | cons y l ih=>
  unfold ins
  rw [List.pairwise_cons] at h
  split
  ·rename_i hxy
   refine List.pairwise_cons.2 ⟨fun z hz=> ?_,List.pairwise_cons.2 h⟩
   rcases List.mem_cons.1 hz with rfl | hz
   ·exact hxy
   ·exact ht _ _ _ hxy (h.1 z hz)
  ·rename_i hxy
   refine List.pairwise_cons.2 ⟨fun z hz=> ?_,ih h.2⟩
   rcases List.mem_cons.1 ((O8 le x l).mem_iff.1 hz) with rfl | hz
   ·have:=hl z y
    rw [Bool.or_eq_true] at this
    rcases this with g | g
    ·exact absurd g hxy
    ·exact g
   ·exact h.1 z hz
theorem MZ {α:Type} {le:α→α→Bool} (ht: ∀a b c,le a b=true→le b c=true→le a c=true) (hl: ∀a b,(le a b || le b a)=true) (l:List α):(Na le l).Pairwise fun a b=>le a b=true:=by
 induction l with
 | nil=>exact .nil
 | cons x l ih=>exact V1 ht hl x ih
theorem O9 {α:Type} {le:α→α→Bool} (ht: ∀a b c,le a b=true→le b c=true→le a c=true) (hl: ∀a b,(le a b || le b a)=true) (ha: ∀a b,le a b=true→le b a=true→a=b) (l:List α):Na le l=l.mergeSort le:=
 List.Perm.eq_of_pairwise (fun a b _ _ h1 h2=>ha a b h1 h2) (MZ ht hl l) (List.pairwise_mergeSort ht hl l) ((Cu le l).trans (List.mergeSort_perm l le).symm)
def I9 (l:List Int):List Int:=Na (fun x y=>decide (x≤y)) l
theorem S2 (l:List Int):I9 l=l.mergeSort fun x y=>decide (x≤y):=
 O9 (fun a b c h1 h2=>by simp only [decide_eq_true_eq] at *; omega) (fun a b=>by simp only [Bool.or_eq_true,decide_eq_true_eq]; omega) (fun a b h1 h2=>by simp only [decide_eq_true_eq] at *; omega) l
theorem OK {k:IntKind} {a b:List Int} (h:a.map (Value.int k)=b.map (Value.int k)):a=b:=
 (List.map_inj_right (f:=Value.int k) fun x y hxy=>by cases hxy; rfl).1 h
def Q9 (l:List Int):Option (List Int):=if l.length<4611686018427387904 then some (I9 l) else none
def K0 (l:List Int):Option (List Int):=if l.length<4611686018427387904 then some (Lib.compact l) else none
theorem St.rowTake {α:Type} {φ:AC} {h:AH} {Γ:List Chk} {ty:TypeId} {r:Ro α} {t:Slc} {l:List α} (H:St φ (⟨Rep.row ty r, [.slice t.1 t.2.1 t.2.2],l⟩::Γ) h) {k:Nat} (hk:k≤l.length):
 St φ (⟨Rep.row ty r, [.slice t.1 k t.2.2],l.take k⟩::Γ) h:=by
 obtain ⟨F,⟨p,n,c,vs,e,hn,hc,hfu,ho,hall,hF⟩,h2,H⟩:=H
 have hn:l.length=n:=hn
 simp only [List.cons.injEq,Value.slice.injEq,and_true] at e
 obtain ⟨e1,e2,e3⟩:=e
 refine ⟨F,⟨p,k,c,vs.take (k * r.sz),by rw [e1,e3],by rw [List.length_take]; omega,hc,hfu,?_,hall.take k,hF⟩,h2,H⟩
 rcases ho with ⟨hp,hn0,hc0,hv0⟩ | ⟨b,off,arr,hp,hb0,g1,g2,g3,g4⟩
 ·exact .inl ⟨hp,by omega,hc0,by rw [hv0]; exact List.take_nil⟩
 ·refine .inr ⟨b,off,arr,hp,hb0,?_,by omega,g3,fun i v hv=> ?_⟩
  ·rw [List.length_take,g1]
   exact Nat.min_eq_left (Nat.mul_le_mul_right _ (by omega))
  ·rw [List.getElem?_take] at hv
   split at hv
   ·exact g4 i v hv
   ·cases hv
theorem St.rowCap {α:Type} {φ:AC} {h:AH} {Γ:List Chk} {ty:TypeId} {r:Ro α} {t:Slc} {l:List α} (H:St φ (⟨Rep.row ty r, [.slice t.1 t.2.1 t.2.2],l⟩::Γ) h):l.length≤t.2.2:=by
 obtain ⟨F,⟨p,n,c,vs,e,hn,hc,hfu,ho,hall,hF⟩,h2,H⟩:=H
 have hn:l.length=n:=hn
 simp only [List.cons.injEq,Value.slice.injEq,and_true] at e
 obtain ⟨e1,e2,e3⟩:=e
 rcases ho with ⟨hp,hn0,hc0,hv0⟩ | ⟨b,off,arr,hp,hb0,g1,g2,g3,g4⟩ <;>omega
theorem St.rowHoldsF {α:Type} {φ:AC} {w:World} {Γ:List Chk} {ty:TypeId} {r:Ro α} {t:Slc} {l:List α} (H:St φ (⟨Rep.row ty r, [.slice t.1 t.2.1 t.2.2],l⟩::Γ) w.heap):
 (l= [] ∧t.2.1=0)∨ ∃(b off:Nat) (vs:List Value),t.1=some ⟨b,off,none⟩∧r.All φ vs l∧t.2.1=l.length∧b<w.heap.size∧(∀arr,w.heap[b]? =some (.cells arr ty (0,0))→off+vs.length≤arr.size)∧Sort.Holds id w b off vs.toArray:=by
 obtain ⟨F,⟨p,n,c,vs,e,hn,hc,hfu,ho,hall,hF⟩,h2,H⟩:=H
 have hn:l.length=n:=hn
 simp only [List.cons.injEq,Value.slice.injEq,and_true] at e
 obtain ⟨e1,e2,e3⟩:=e
 rcases ho with ⟨hp,hn0,hc0,hv0⟩ | ⟨b,off,arr,hp,hb0,g1,g2,g3,g4⟩
 ·exact .inl ⟨List.eq_nil_of_length_eq_zero (by omega),by omega⟩
 ·right
  refine ⟨b,off,vs,by rw [e1,hp],hall,by omega,Au hb0,fun arr' ha=> ?_,fun j hj=> ?_⟩
  ·rw [hb0] at ha
   cases ha
   have:=Nat.mul_le_mul_right r.sz g2
   omega
  have hj':j<vs.length:=by simpa using hj
  have hc:=g4 j vs[j] (List.getElem?_eq_getElem hj')
  refine ⟨?_,?_⟩
  ·unfold World.cell?
   dsimp only
   rw [hb0]
   dsimp only
   rw [getElem!_pos _ j hj]
   simpa using hc
  ·unfold World.frozen?
   dsimp only
   rw [hb0]
   simp
theorem St.rowSortedF {α:Type} {φ:AC} {w:World} {Γ:List Chk} {ty:TypeId} {r:Ro α} {t:Slc} {l m:List α} (H:St φ (⟨Rep.row ty r, [.slice t.1 t.2.1 t.2.2],l⟩::Γ) w.heap)
 {b off:Nat} (ht:t.1=some ⟨b,off,none⟩) (ms:List Value) (hall:r.All φ ms m) (hm:m.length=l.length) (hfit: ∀arr,w.heap[b]? =some (.cells arr ty (0,0))→off+ms.length≤arr.size) (k:Nat) (os:Array Obj):
 St φ (⟨Rep.row ty r, [.slice t.1 t.2.1 t.2.2],m⟩::Γ) (grow (putRow id (Sort.ahead w k) b off ms.toArray) os).heap:=by
 have hheap:(grow (putRow id (Sort.ahead w k) b off ms.toArray) os).heap=w.heap.modify b (onCells (putCells id off ms.toArray)) ++os:=rfl
 rw [hheap]
 refine H.rowPut hall hm (fun b' off' he arr harr=> ?_) fun j hj hne=> ?_
 ·rw [ht] at he
  cases he
  have hlt:=Au harr
  refine ⟨putCells id off ms.toArray arr,?_,by simp [putCells],fun i v hv=> ?_⟩
  ·rw [Array.getElem?_append_left (by simpa using hlt),Array.getElem?_modify,if_pos rfl,harr]
   rfl
  ·have hi:i<ms.length:=by
    rcases Nat.lt_or_ge i ms.length with g | g
    ·exact g
    ·rw [List.getElem?_eq_none g] at hv; cases hv
   have hf:=hfit arr harr
   unfold putCells
   rw [Array.getElem?_mapIdx,Array.getElem?_eq_getElem (by omega)]
   have hc:off≤off+i∧off+i<off+ms.toArray.size:=by simp; exact hi
   simp only [Option.map_some]
   rw [if_pos hc,Nat.add_sub_cancel_left,getElem!_pos _ i (by simpa using hi)]
   rw [List.getElem?_eq_getElem hi] at hv
   cases hv
   simp
 ·rw [Array.getElem?_append_left (by simpa using hj),Array.getElem?_modify,if_neg fun e=>hne b off ht e.symm]
section
variable {φ:AC} {h:AH} {F:List Chk}
theorem R0 {t:Slc} {l r:List Int} (s0:St φ (cR 3 (Ro.int .i64) t l::F) h) (hd:Q9 l=some r):
 CallsH Tryz.prog 130 [.slice t.1 t.2.1 t.2.2] h (Ar fun v h'=> ∃ψ:AC,∃y:Unit,∃l1:List Int,Sub φ ψ∧v=((.tuple []):Sh).val y∧l1=r∧St ψ (cR 3 (Ro.int .i64) t l1::F) h'):=by
 unfold Q9 at hd
 split at hd
 ·rename_i hb
  cases hd
  intro w hw
  subst hw
  rcases s0.rowHolds rfl (Value.int .i64) (fun vs ha=>⟨l,Ck ha⟩) with ⟨hl,hn⟩ | ⟨b,off,bs,ht,hall,hn,hlen,hlt,hfit,hH⟩
  ·subst hl
   rw [hn]
   have hc:=Any.slices_Sort_int_none Kw t.1 t.2.2 w
   refine (show Calls Tryz.prog 130 #[.slice t.1 0 t.2.2] w _ from hc).mono ?_
   rintro e w' ⟨rfl,rfl⟩
   exact ⟨Bn.refl _,_,rfl,φ,(),_,Sub.refl _,rfl,rfl,by rw [show I9 [] = [] from rfl]; exact s0⟩
  ·have hbl:bs=l:=OK (Ck hall)
   subst hbl
   rw [ht,hn]
   have hc:=Any.slices_Sort_int Kw b off t.2.2 bs w hH hlt hb
   rw [← S2] at hc
   refine (show Calls Tryz.prog 130 #[.slice (some ⟨b,off,none⟩) bs.length t.2.2] w _ from hc).mono ?_
   rintro e w' ⟨rfl,k,os,rfl⟩
   refine ⟨⟨rfl,rfl,rfl,by rw [Go.Sort.size_grow,Go.Sort.size_putRow]; exact Nat.le_add_right _ _⟩,_,rfl,φ,(),_,Sub.refl _,rfl,rfl,?_⟩
   exact s0.rowSorted ht (Value.int .i64) (I9 bs) (Ec _) (Cu _ _).length_eq (Cu _ _).length_eq hfit k os
 ·cases hd
theorem Ma (l:List Int):(Lib.compact l).length≤l.length:=by
 unfold Lib.compact Lib.compactUpTo
 rw [List.length_map]
 refine Nat.le_trans (List.length_filter_le _ _) ?_
 simp
theorem PA {t:Slc} {l r:List Int} (s0:St φ (cR 3 (Ro.int .i64) t l::F) h) (hd:K0 l=some r):
 CallsH Tryz.prog 131 [.slice t.1 t.2.1 t.2.2] h (Ar fun v h'=> ∃ψ:AC,∃y:Slc,∃l1:List Int,Sub φ ψ∧v=((.one aS):Sh).val y∧l1=r∧St ψ (cR 3 (Ro.int .i64) y l1::F) h'):=by
 unfold K0 at hd
 split at hd
 ·rename_i hb
  cases hd
  intro w hw
  subst hw
  have hcap:=St.rowCap s0
  rcases s0.rowHolds rfl (Value.int .i64) (fun vs ha=>⟨l,Ck ha⟩) with ⟨hl,hn⟩ | ⟨b,off,bs,ht,hall,hn,hlen,hlt,hfit,hH⟩
  ·subst hl
   rw [hn]
   have hc:=Any.slices_Compact_int_empty Kx t.1 t.2.2 w
   refine (show Calls Tryz.prog 131 #[.slice t.1 0 t.2.2] w _ from hc).mono ?_
   rintro e w' ⟨rfl,rfl⟩
   rw [show t=(t.1,t.2.1,t.2.2) from rfl,hn] at s0
   exact ⟨Bn.refl _,_,rfl,φ,(t.1,0,t.2.2),_,Sub.refl _,rfl,rfl,s0⟩
  ·have hbl:bs=l:=OK (Ck hall)
   subst hbl
   rw [ht,hn]
   have hc:=Any.slices_Compact_int Kx b off t.2.2 bs w hH (by omega) hcap
   refine (show Calls Tryz.prog 131 #[.slice (some ⟨b,off,none⟩) bs.length t.2.2] w _ from hc).mono ?_
   rintro e w' ⟨rfl,k,rfl⟩
   have hle:=Ma bs
   have hlz:(Lib.compact bs++List.replicate (bs.length - (Lib.compact bs).length) 0).length=bs.length:=by simp; omega
   have s1:=s0.rowSorted ht (Value.int .i64) (Lib.compact bs++List.replicate (bs.length - (Lib.compact bs).length) 0) (Ec _) hlz hlz hfit k #[]
   have s2:=St.rowTake s1 (k:=(Lib.compact bs).length) (by rw [hlz]; exact hle)
   rw [List.take_left,grow_empty] at s2
   refine ⟨⟨rfl,rfl,rfl,by rw [Go.Sort.size_putRow]; exact Nat.le_refl _⟩,_,rfl,φ,(t.1,(Lib.compact bs).length,t.2.2),_,Sub.refl _,by rw [ht]; rfl,rfl,s2⟩
 ·cases hd
end
end Go.Proofs.YteolcjbobmpdiaaGreatDoor
namespace Go.Proofs.YteolcjbobmpdiaaGreatDoor
open Go Go.Shelf Go.Proofs
set_option maxRecDepth 100000
def NJ:Ren:=⟨fun x=>bif Nat.beq x 6 then 204 else bif Nat.beq x 10 then 190 else 0,fun x=>bif Nat.beq x 0 then 0 else bif Nat.beq x 3 then 3 else bif Nat.beq x 4 then 4 else bif Nat.beq x 22 then 30 else bif Nat.beq x 23 then 3 else bif Nat.beq x 25 then 161 else 0,fun _=>0⟩
theorem Mb:SlLaysH.n10 Tryz.prog NJ where
 mixed:=by kernel_rfl
 f6:=⟨ "slices.IndexFunc[[]int,int]",by decide,Tryz.func204.trans (congrArg some (by kernel_rfl))⟩
 f10:=⟨ "slices.DeleteFunc[[]int,int]",by decide,Tryz.func190.trans (congrArg some (by kernel_rfl))⟩
 t0:=Tryz.underlying0
 a0:=Tryz.isAgg0
 z0:=Tryz.sizeOf0
 v0:=Tryz.zeroValue0
 t3:=Tryz.underlying3
 a3:=Tryz.isAgg3
 z3:=Tryz.sizeOf3
 v3:=Tryz.zeroValue3
 t4:=Tryz.underlying4
 a4:=Tryz.isAgg4
 z4:=Tryz.sizeOf4
 v4:=Tryz.zeroValue4
 t22:=Tryz.underlying30
 a22:=Tryz.isAgg30
 z22:=Tryz.sizeOf30
 v22:=Tryz.zeroValue30
 a23:=Tryz.isAgg3
 z23:=Tryz.sizeOf3
 t25:=Tryz.underlying161
 a25:=Tryz.isAgg161
 z25:=Tryz.sizeOf161
 v25:=Tryz.zeroValue161
end Go.Proofs.YteolcjbobmpdiaaGreatDoor
namespace Go.Proofs.YteolcjbobmpdiaaGreatDoor.Dg
open Go Go.Eng
set_option linter.unusedVariables false
def JA (n x:Int):Bool:=decide (x<0) || decide (n≤x)
def Ce (ll:List (List Int)) (x n:Int):List Int:=if x≥ (ll.length:Int) then [] else (ll[x.toNat]?.getD []).filter fun y=> !JA n y
section
variable {A:Type} (ll:List (List Int)) (n:Int) (ledA:A→Int→Int→Option A) (partA:A→List Int→Option A)
abbrev DE (A:Type):=List Int×List Int×A
noncomputable def toD (rec:DE A→Int→Option (DE A)) (x to:Int) (st:DE A):Option (DE A):=
 (idx st.1 to).bind fun e=>
 (cond (e==0) (rec st to) (some st)).bind fun st=>
 (idx st.1 x).bind fun p=>
 (idx st.1 to).bind fun q=>
 (Dq st.1 x (if q<p then q else p)).bind fun low=>
 (ledA st.2.2 x to).bind fun a=>some (low,st.2.1,a)
noncomputable def S5 (x:Int) (deep:Nat) (st:DE A):Option (DE A):=
 (idx st.1 x).bind fun e=>
 cond (e !=(deep:Int)) (some st) <|
 need (1≤deep∧deep - 1≤st.2.1.length∧st.2.1.length≤1073741824) <|
 (forS 0 ((st.2.1.drop (deep - 1)).length:Int) st.1 fun i low=>(idx (st.2.1.drop (deep - 1)) i).bind fun y=>Dq low y 9223372036854775807).bind fun low=>
 (partA st.2.2 (st.2.1.drop (deep - 1))).bind fun a=>some (low,st.2.1.take (deep - 1),a)
noncomputable def Mc (rec:DE A→Int→Option (DE A)) (st:DE A) (x:Int):Option (DE A):=
 (app st.2.1 [x]).bind fun stk=>
 (Dq st.1 x (stk.length:Int)).bind fun low=>
 need (∀l ∈ ll,l.length≤1073741824) <|
 (forS 0 ((Ce ll x n).length:Int) ((low,stk,st.2.2):DE A) fun i st=>(idx (Ce ll x n) i).bind fun to=>toD ledA rec x to st).bind fun st=>
 S5 partA x stk.length st
noncomputable def JB:Nat→DE A→Int→Option (DE A)
 | 0=>fun _ _=>none
 | k+1=>Mc ll n ledA partA (JB k)
end
noncomputable def Nb {A:Type} (ll:List (List Int)) (n:Int) (ledA:A→Int→Int→Option A) (partA:A→List Int→Option A) (fuel:Nat) (a:A):Option (DE A):=
 need (0≤n∧n≤1073741824) <|
 forS 0 n ((List.replicate n.toNat (0:Int), [],a):DE A) fun i st=>(idx st.1 i).bind fun e=>cond (e==0) (JB ll n ledA partA fuel st i) (some st)
set_option maxRecDepth 100000
def cloneD (l:List Int):Option (List Int):=if l.length≤1073741824 then some l else none
theorem FK {l r:List Int} (h:cloneD l=some r):l.length≤1073741824∧r=l:=by
 unfold cloneD at h
 split at h
 ·rename_i g; exact ⟨g,(Option.some.inj h).symm⟩
 ·cases h
theorem S7:G5 Tryz.prog 30 30 3 1:=⟨Tryz.underlying30, .inl Tryz.underlying30,⟨Tryz.t3,by kernel_rfl,rfl,⟨_,rfl,rfl⟩,by decide,by decide⟩,by decide⟩
theorem Wh:G5 Tryz.prog 235 235 237 1:=⟨Tryz.underlying235, .inl Tryz.underlying235,⟨Tryz.t237,by kernel_rfl,rfl,⟨_,rfl,rfl⟩,by decide,by decide⟩,by decide⟩
theorem Ec {k:IntKind} {φ:AC} (l:List Int):(Ro.int k).All φ (l.map (BW.int k).val) l:=by
 induction l with
 | nil=>exact .nil
 | cons x l ih=>exact Ro.All.cons (a:= [(BW.int k).val x]) rfl ih
section
variable {φ:AC} {h:AH} {F:List Chk}
theorem K2 {t:Slc} {l:List Int} (s0:St φ F h) (hl:l.length=t.2.1) (hc: ∀h',St φ F h'→BD h' t.1 (l.map (BW.int .i64).val)) (hn:t.1=none→l= []) (hb:l.length≤1073741824):
 CallsH Tryz.prog 84 [.slice t.1 t.2.1 t.2.2] h (Ar fun v h'=> ∃y:Slc,v=((.one aS):Sh).val y∧St φ (⟨Rep.row 3 (Ro.int .i64), [.slice y.1 y.2.1 y.2.2],l⟩::F) h'):=by
 refine AR mixed Tryz.func84 ?_
 rw [Gz]
 unfold EX
 cases hp:t.1 with
 | none=>
  rw [hn hp]
  exact AB ⟨(none,0,0),rfl,s0.nil _ _⟩
 | some a=>
  rw [Option.isNone_some]
  refine AY (vs:= []) s0 fun r h1 s1=> ?_
  have s2:=St.lit (r:=Ro.int .i64) (l:= []) (n:=0) s1 .nil rfl (by decide)
  refine Aj (r:=Ro.int .i64) (ms:=l) (l':=l) S7 s2 rfl (by rw [← hp]; exact hc h1 s1.tail) (Ec l) hl (by unfold app; rw [if_pos (by simpa using hb)]; rfl) fun y h2 s3=> ?_
  exact AB ⟨y,rfl,s3⟩
theorem OL {t:Slc} {l:List Int} (s0:St φ F h) (hl:l.length=t.2.1) (hc: ∀h',St φ F h'→BD h' t.1 (l.map (BW.int .u64).val)) (hn:t.1=none→l= []) (hb:l.length≤1073741824):
 CallsH Tryz.prog 148 [.slice t.1 t.2.1 t.2.2] h (Ar fun v h'=> ∃y:Slc,v=((.one aS):Sh).val y∧St φ (⟨Rep.row 237 (Ro.int .u64), [.slice y.1 y.2.1 y.2.2],l⟩::F) h'):=by
 refine AR mixed Tryz.func148 ?_
 rw [Ey]
 unfold DC
 cases hp:t.1 with
 | none=>
  rw [hn hp]
  exact AB ⟨(none,0,0),rfl,s0.nil _ _⟩
 | some a=>
  rw [Option.isNone_some]
  refine AY (vs:= []) s0 fun r h1 s1=> ?_
  have s2:=St.lit (r:=Ro.int .u64) (l:= []) (n:=0) s1 .nil rfl (by decide)
  refine Aj (r:=Ro.int .u64) (ms:=l) (l':=l) Wh s2 rfl (by rw [← hp]; exact hc h1 s1.tail) (Ec l) hl (by unfold app; rw [if_pos (by simpa using hb)]; rfl) fun y h2 s3=> ?_
  exact AB ⟨y,rfl,s3⟩
theorem V2 {k:IntKind} {t:Slc} {l:List Int} (H:Ro.SliceIs (Ro.int k) φ t l):t.1=none→l= [] :=H.2.2.2.1
theorem S8 {k:IntKind} {t:Slc} {l:List Int} (H:Ro.SliceIs (Ro.int k) φ t l) {h':AH} (s:St φ F h'):BD h' t.1 (l.map (BW.int k).val):=by
 obtain ⟨vs,ha,hc⟩:=H.heap s.sub
 rw [Ck ha] at hc
 exact hc
theorem Uk {k:IntKind} {ty:TypeId} {t:Slc} {l:List Int} (H:St φ (⟨Rep.row ty (Ro.int k), [.slice t.1 t.2.1 t.2.2],l⟩::F) h):t.1=none→l= [] :=by
 intro hp
 obtain ⟨vs,ha,hc⟩:=H.all
 cases l with
 | nil=>rfl
 | cons x l=>
  have e:=Ck ha
  obtain ⟨a,ha',_⟩:=hc 0 ((BW.int k).val x) (by rw [e]; rfl)
  rw [hp] at ha'; cases ha'
theorem LU {k:IntKind} {ty:TypeId} {t:Slc} {l:List Int} {h':AH} (s:St φ (⟨Rep.row ty (Ro.int k), [.slice t.1 t.2.1 t.2.2],l⟩::F) h'):BD h' t.1 (l.map (BW.int k).val):=by
 obtain ⟨vs,ha,hc⟩:=s.all
 rw [Ck ha] at hc
 exact hc
theorem QP {t:Slc} {l:List Int} (k:Ro.SliceIs (Ro.int .i64) φ t l) (s0:St φ F h) {r:List Int} (hd:cloneD l=some r):CallsH Tryz.prog 84 [.slice t.1 t.2.1 t.2.2] h
 (Ar fun v h'=> ∃ψ:AC,∃y:Slc,∃l1:List Int,Sub φ ψ∧v=((.one aS):Sh).val y∧l1=r∧St ψ (⟨Rep.row 3 (Ro.int .i64), [.slice y.1 y.2.1 y.2.2],l1⟩::F) h'):=by
 obtain ⟨hb,rfl⟩:=FK hd
 refine (K2 s0 k.length.symm (fun h' s=>S8 k s) (V2 k) hb).mono fun e h' ⟨v,hv,y,h1,h2⟩=>⟨v,hv,φ,y,_,Sub.refl _,h1,rfl,h2⟩
theorem clone53_own {t:Slc} {l:List Int} (s0:St φ (⟨Rep.row 237 (Ro.int .u64), [.slice t.1 t.2.1 t.2.2],l⟩::F) h) {r:List Int} (hd:cloneD l=some r):CallsH Tryz.prog 148 [.slice t.1 t.2.1 t.2.2] h
 (Ar fun v h'=> ∃ψ:AC,∃y:Slc,∃l1:List Int,Sub φ ψ∧v=((.one aS):Sh).val y∧l1=r∧St ψ (⟨Rep.row 237 (Ro.int .u64), [.slice y.1 y.2.1 y.2.2],l1⟩::⟨Rep.row 237 (Ro.int .u64), [.slice t.1 t.2.1 t.2.2],l⟩::F) h'):=by
 obtain ⟨hb,rfl⟩:=FK hd
 refine (OL s0 s0.rowLen.symm (fun h' s=>LU s) (Uk s0) hb).mono fun e h' ⟨v,hv,y,h1,h2⟩=>⟨v,hv,φ,y,_,Sub.refl _,h1,rfl,h2⟩
end
end Go.Proofs.YteolcjbobmpdiaaGreatDoor.Dg
namespace Go.Proofs.YteolcjbobmpdiaaGreatDoor
open Go Go.Eng
set_option linter.unusedVariables false
set_option maxRecDepth 100000
theorem R1:NY Tryz.prog 235 237 (.int .u64 (0:Int)):=⟨Tryz.underlying235,⟨Tryz.t237,by kernel_rfl,rfl,⟨_,rfl,rfl⟩,by decide⟩⟩
noncomputable def Ed (s_0:List Int) (v_1:Int):Option Int:=
 (Cf (σ:=Unit) (β:=Int) (0:Int) (((List.length s_0):Nat):Int) () fun i_z2 z2=>
  (idx s_0 i_z2).bind fun e17=>
  cond (v_1==e17)
  (some (AU.done i_z2))
  (some (AU.next ()))).bind fun e_z1=>match e_z1 with
 | .next z1=>
  some (-1:Int)
 | .done q30=>some q30
noncomputable def Do (s_0:List Int) (v_1:Int):Option Bool:=
 (Ed s_0 v_1).bind fun t1=>
 some (decide (t1≥ (0:Int)))
noncomputable def Ch (s_0:CY) (i_1:Int):Option Bool:=
 (cond (decide (i_1≥ (0:Int)))
 (some (decide (i_1< (s_0.1))))
 (some false)).bind fun z1=>
 some z1
theorem Gj {φ:AC} {h:AH} {F:List Chk} {s_0:Option Addr} {a:CY} {i_1:Int} (s0:St φ (cO 239 DJ s_0 a::F) h) {r:Bool} (hd:Ch a i_1=some r):
 CallsH Tryz.prog 162 [(.pointer s_0),(.int .i64 i_1)] h (Ar fun v h'=> ∃ψ:AC,∃y:Bool,Sub φ ψ∧v=((.one aB):Sh).val y∧y=r∧St ψ (cO 239 DJ s_0 a::F) h'):=by
 refine AR mixed Tryz.func162 ?_
 rw [Kq]
 unfold IE
 unfold Ch at hd
 obtain ⟨d,b,hd⟩:=bS hd
 refine Ao (fun (y:Bool×Unit) w_ g=> ∃ψ:AC,Sub φ ψ∧y.1=g∧St ψ (cO 239 DJ s_0 a::F) w_) (g:=d) ?_ ?_
 ·refine AL b rfl (fun _ b=> ?_) (fun _ b=> ?_)
  ·obtain ⟨k,l,e,c⟩:=Kl s0
   obtain rfl:=e
   refine AF _ rfl ?_
   refine AA (x:=(a.1)) c.at1 rfl ?_
   obtain rfl:=iS b
   exact AS ((decide (i_1< (a.1))),()) rfl ⟨φ,(Sub.refl _),rfl,(He (x0:=(a.1)) c.at1.at1)⟩
  obtain rfl:=iS b
  exact AS (false,()) rfl ⟨φ,(Sub.refl _),rfl,s0⟩
 rintro z1 m ⟨f,i,rfl,j⟩
 try dsimp only at hd
 obtain rfl:=iS hd
 exact AB ⟨f,z1.1,i,rfl,rfl,j⟩
noncomputable def C2 (s_0:CY) (i_1:Int):Option Bool:=
 ((Ch s_0 i_1).bind fun t2=>
 cond t2
 (need ((64:Int) ≠ 0) <|
  (idx s_0.2 (IntKind.wrap .i64 (Int.tdiv i_1 (64:Int)))).bind fun e17=>
  need ((64:Int) ≠ 0) <|
  need (0≤(Int.tmod i_1 (64:Int))) <|
  some ((IntKind.wrap .u64 (BitVec.toNat (BitVec.ofInt (IntKind.bits .u64) (Int.fdiv e17 (2 ^ (min (Int.toNat (Int.tmod i_1 (64:Int))) (IntKind.bits .u64)))) &&& (BitVec.ofInt (IntKind.bits .u64) (1:Int))):Nat))==(1:Int)))
 (some false)).bind fun z1=>
 some z1
theorem KZ {φ:AC} {h:AH} {F:List Chk} {s_0:Option Addr} {b:CY} {i_1:Int} (s0:St φ (cO 239 DJ s_0 b::F) h) {r:Bool} (hd:C2 b i_1=some r):
 CallsH Tryz.prog 163 [(.pointer s_0),(.int .i64 i_1)] h (Ar fun v h'=> ∃ψ:AC,∃y:Bool,Sub φ ψ∧v=((.one aB):Sh).val y∧y=r∧St ψ (cO 239 DJ s_0 b::F) h'):=by
 refine AR mixed Tryz.func163 ?_
 rw [KV]
 unfold HG
 unfold C2 at hd
 obtain ⟨i,a,hd⟩:=bS hd
 refine Ao (fun (y:Bool×Unit) w_ g=> ∃ψ:AC,Sub φ ψ∧y.1=g∧St ψ (cO 239 DJ s_0 b::F) w_) (g:=i) ?_ ?_
 ·obtain ⟨s,j,a⟩:=bS a
  refine AI (Gj s0 j) ?_
  rintro _ t ⟨d,t2,e,rfl,rfl,f⟩
  refine ⟨t2,rfl,?_⟩
  refine AL a rfl (fun _ a=> ?_) (fun _ a=> ?_)
  ·obtain ⟨u,k,l,c⟩:=Kl f
   obtain rfl:=l
   refine AF _ rfl ?_
   refine AA (x:=k) c.at1 rfl ?_
   refine Cd a id fun w a=> ?_
   obtain ⟨m,n,a⟩:=bS a
   refine Is c n ?_
   refine Cd a id fun z a=> ?_
   refine Cd a id fun a0 a=> ?_
   obtain rfl:=iS a
   exact AS (((IntKind.wrap .u64 (BitVec.toNat (BitVec.ofInt (IntKind.bits .u64) (Int.fdiv m (2 ^ (min (Int.toNat (Int.tmod i_1 (64:Int))) (IntKind.bits .u64)))) &&& (BitVec.ofInt (IntKind.bits .u64) (1:Int))):Nat))==(1:Int)),()) rfl ⟨d,e,rfl,(He (x0:=(b.1)) c.at1.at1)⟩
  obtain rfl:=iS a
  exact AS (false,()) rfl ⟨d,e,rfl,f⟩
 rintro z1 a1 ⟨o,p,rfl,q⟩
 try dsimp only at hd
 obtain rfl:=iS hd
 exact AB ⟨o,z1.1,p,rfl,rfl,q⟩
noncomputable def Aq (s_0:CY) (i_1:Int):Option (Bool×CY):=
 ((Ch s_0 i_1).bind fun t2=>
 cond (!t2)
 (some true)
 ((C2 s_0 i_1).bind fun t3=>
  some t3)).bind fun z1=>
 cond z1
 (some (false,s_0))
 (need ((64:Int) ≠ 0) <|
  (idx s_0.2 (IntKind.wrap .i64 (Int.tdiv i_1 (64:Int)))).bind fun e30=>
  need ((64:Int) ≠ 0) <|
  need (0≤(Int.tmod i_1 (64:Int))) <|
  (Dq s_0.2 (IntKind.wrap .i64 (Int.tdiv i_1 (64:Int))) (IntKind.wrap .u64 (BitVec.toNat (BitVec.ofInt (IntKind.bits .u64) e30 ||| (BitVec.ofInt (IntKind.bits .u64) (IntKind.wrap .u64 ((1:Int) * 2 ^ (min (Int.toNat (Int.tmod i_1 (64:Int))) (IntKind.bits .u64)))))):Nat))).bind fun m45=>
  some (true,((s_0.1),m45)))
theorem CD {φ:AC} {h:AH} {F:List Chk} {s_0:Option Addr} {b:CY} {i_1:Int} (s0:St φ (cO 239 DJ s_0 b::F) h) {r:(Bool×CY)} (hd:Aq b i_1=some r):
 CallsH Tryz.prog 134 [(.pointer s_0),(.int .i64 i_1)] h (Ar fun v h'=> ∃ψ:AC,∃y:Bool,∃d:CY,Sub φ ψ∧v=((.one aB):Sh).val y∧(y,d)=r∧St ψ (cO 239 DJ s_0 d::F) h'):=by
 refine AR mixed Tryz.func134 ?_
 rw [KU]
 unfold HF
 unfold Aq at hd
 obtain ⟨n,a,hd⟩:=bS hd
 refine Ao (fun (y:Bool×Unit) w_ g=> ∃ψ:AC,Sub φ ψ∧y.1=g∧St ψ (cO 239 DJ s_0 b::F) w_) (g:=n) ?_ ?_
 ·obtain ⟨a4,o,a⟩:=bS a
  refine AI (Gj s0 o) ?_
  rintro _ a5 ⟨p,t2,e,rfl,rfl,f⟩
  refine ⟨t2,rfl,?_⟩
  refine AL a rfl (fun _ a=> ?_) (fun _ a=> ?_)
  ·obtain rfl:=iS a
   exact AS (true,()) rfl ⟨p,e,rfl,f⟩
  obtain ⟨a6,q,a⟩:=bS a
  refine AI (KZ f q) ?_
  rintro _ a7 ⟨s,t3,t,rfl,rfl,u⟩
  refine ⟨t3,rfl,?_⟩
  obtain rfl:=iS a
  exact AS (t3,()) rfl ⟨s,(e.trans t),rfl,u⟩
 rintro z1 a8 ⟨i,j,rfl,k⟩
 try dsimp only at hd
 refine AL hd rfl (fun _ hd=> ?_) (fun _ hd=> ?_)
 ·obtain rfl:=iS hd
  exact AB ⟨i,false,b,j,rfl,rfl,k⟩
 obtain ⟨a9,w,z,c⟩:=Kl k
 obtain rfl:=z
 refine AF _ rfl ?_
 refine AA (x:=w) c.at1 rfl ?_
 refine Cd hd id fun aa hd=> ?_
 obtain ⟨ab,a0,hd⟩:=bS hd
 refine Is c a0 ?_
 refine Cd hd id fun ac hd=> ?_
 refine Cd hd id fun ad hd=> ?_
 obtain ⟨a1,l,hd⟩:=bS hd
 obtain ⟨ae,m,a2⟩:=c.there l
 refine AF _ m (Aa a2 (ID c l rfl m ?_))
 intro af a3
 obtain rfl:=iS hd
 exact AB ⟨i,true,((b.1),a1),j,rfl,rfl,(He (x0:=(b.1)) a3.at1.at1)⟩
noncomputable def Bo (n_0:Int):Option CY:=
 need ((64:Int) ≠ 0) <|
 (FB (IntKind.wrap .i64 (Int.tdiv (IntKind.wrap .i64 ((IntKind.wrap .i64 ((if (if (1000:Int) <n_0 then (1000:Int) else n_0) >(0:Int) then (if (1000:Int) <n_0 then (1000:Int) else n_0) else (0:Int)) +(64:Int))) - (1:Int))) (64:Int))) (0:Int)).bind fun t1=>
 some ((if (if (1000:Int) <n_0 then (1000:Int) else n_0) >(0:Int) then (if (1000:Int) <n_0 then (1000:Int) else n_0) else (0:Int)),t1)
theorem DZ {φ:AC} {h:AH} {F:List Chk} {n_0:Int} (s0:St φ (F) h) {r:CY} (hd:Bo n_0=some r):
 CallsH Tryz.prog 138 [(.int .i64 n_0)] h (Ar fun v h'=> ∃ψ:AC,∃y:Option Addr,∃a:CY,Sub φ ψ∧v=((.one aP):Sh).val y∧a=r∧St ψ (cO 239 DJ y a::F) h'):=by
 refine AR mixed Tryz.func138 ?_
 rw [MX]
 unfold Kp
 unfold Bo at hd
 refine Cd hd id fun g hd=> ?_
 obtain ⟨b,c,hd⟩:=bS hd
 refine Ir (r:=(Ro.int .u64)) (x:=(0:Int)) R1 s0 rfl rfl c ?_
 intro t1 i d
 refine AY (vs:= [.int .i64 (if (if (1000:Int) <n_0 then (1000:Int) else n_0) >(0:Int) then (if (1000:Int) <n_0 then (1000:Int) else n_0) else (0:Int)),sv t1]) d fun r2 j e=> ?_
 have f:=He (x0:=(if (if (1000:Int) <n_0 then (1000:Int) else n_0) >(0:Int) then (if (1000:Int) <n_0 then (1000:Int) else n_0) else (0:Int))) e.at1.at1.at1
 obtain rfl:=iS hd
 exact AB ⟨φ,(some ⟨r2,0,none⟩),((if (if (1000:Int) <n_0 then (1000:Int) else n_0) >(0:Int) then (if (1000:Int) <n_0 then (1000:Int) else n_0) else (0:Int)),b),(Sub.refl _),rfl,rfl,f⟩
noncomputable def CZ (n_0:Int) (l_1:List Int):Option CY:=
 (Bo n_0).bind fun t1=>
 (forS (σ:=CY) (0:Int) (((List.length l_1):Nat):Int) t1 fun i_z3 z3=>
  (idx l_1 i_z3).bind fun e28=>
  (Aq z3 e28).bind fun t6=>
  some t6.2).bind fun z2=>
 some z2
theorem D2 {φ:AC} {h:AH} {F:List Chk} {n_0:Int} {l_1:Slc} {b:List Int} (d:Ro.SliceIs (Ro.int .i64) φ l_1 b) (s0:St φ (F) h) {r:CY} (hd:CZ n_0 b=some r):
 CallsH Tryz.prog 140 [(.int .i64 n_0),(sv l_1)] h (Ar fun v h'=> ∃ψ:AC,∃y:Option Addr,∃e:CY,Sub φ ψ∧v=((.one aP):Sh).val y∧e=r∧St ψ (cO 239 DJ y e::F) h'):=by
 refine AR mixed Tryz.func140 ?_
 rw [NI]
 unfold Lx
 unfold CZ at hd
 have f:l_1.2.1=List.length b:=d.length
 obtain ⟨ae,p,hd⟩:=bS hd
 refine AI (DZ s0 p) ?_
 rintro _ af ⟨c,t1,q,i,rfl,rfl,s⟩
 refine ⟨t1,rfl,?_⟩
 obtain ⟨t,u,hd⟩:=bS hd
 refine AT (fun (y:Int×Unit) w_ g=> ∃ψ:AC,∃j:CY,Sub c ψ∧j=g∧St ψ (cO 239 DJ t1 j::F) w_) (g:=t) ?_ ?_
 ·refine BJ u (fun w (y:Int×Unit) w_ g=> ∃ψ:AC,∃k:CY,Sub c ψ∧y.1=w∧k=g∧St ψ (cO 239 DJ t1 k::F) w_) ((0:Int),()) rfl ⟨c,q,(Sub.refl _),rfl,rfl,s⟩ ?_ ?_
  ·rintro _ z3 ag _ _ ⟨ah,ai,l,rfl,rfl,m⟩ a x n o
   try dsimp only at a x n o
   refine Ai (dT f n) ?_
   obtain ⟨aj,z,a⟩:=bS a
   refine CV d z (Sub.trans (i.trans l) m.sub) ?_
   obtain ⟨ak,a0,a⟩:=bS a
   refine AI (CD m a0) ?_
   rintro _ al ⟨a1,t6,a2,a3,rfl,rfl,a4⟩
   refine ⟨t6,rfl,?_⟩
   try dsimp only at a
   obtain rfl:=iS a
   exact Ag ((wN z3.1),()) _ rfl rfl ⟨a1,a2,(l.trans a3),o,rfl,a4⟩
  ·rintro _ z3 am ⟨a5,a6,a7,rfl,rfl,a8⟩ a9
   refine AX (dF f a9) ?_
   exact AJ (AK (z3.1,()) rfl ⟨a5,a6,a7,rfl,a8⟩)
 rintro z2 an ⟨aa,ab,ac,rfl,ad⟩
 try dsimp only at hd
 obtain rfl:=iS hd
 exact AB ⟨aa,t1,ab,(i.trans ac),rfl,rfl,ad⟩
noncomputable def CM (s_0:CY):Option CY:=
 (Dg.cloneD s_0.2).bind fun t5=>
 some ((s_0.1),t5)
theorem Jy {φ:AC} {h:AH} {F:List Chk} {s_0:Option Addr} {a:CY} (s0:St φ (cO 239 DJ s_0 a::F) h) {r:CY} (hd:CM a=some r):
 CallsH Tryz.prog 145 [(.pointer s_0)] h (Ar fun v h'=> ∃ψ:AC,∃y:Option Addr,∃d:CY,Sub φ ψ∧v=((.one aP):Sh).val y∧d=r∧St ψ (cO 239 DJ y d::cO 239 DJ s_0 a::F) h'):=by
 refine AR mixed Tryz.func145 ?_
 rw [Jt]
 unfold Gf
 unfold CM at hd
 obtain ⟨f,g,i,c⟩:=Kl s0
 obtain rfl:=i
 refine AF _ rfl ?_
 refine AA (x:=(a.1)) c.at1 rfl ?_
 refine AF _ rfl ?_
 refine AA (x:=g) c.at1 rfl ?_
 obtain ⟨p,k,hd⟩:=bS hd
 refine AI (Dg.clone53_own c k) ?_
 rintro _ q ⟨l,t5,m,n,rfl,rfl,e⟩
 refine ⟨t5,rfl,?_⟩
 refine AO (St.cell (b:=f) (j:=0) e.at2 rfl) ?_
 refine AY (vs:= [.int .i64 (a.1),sv t5]) e fun r6 s o=> ?_
 obtain rfl:=iS hd
 exact AB ⟨l,(some ⟨r6,0,none⟩),((a.1),m),n,rfl,rfl,((He (x0:=(a.1)) ((He (x0:=(a.1)) o.at1.at1.at1).at1).at2.at1).at1)⟩
end Go.Proofs.YteolcjbobmpdiaaGreatDoor
namespace Go.Proofs.YteolcjbobmpdiaaGreatDoor.Dg
open Go Go.Eng
set_option linter.unusedVariables false
theorem V3 {n:Nat} (h:n<18446744073709551616):IntKind.wrap .u64 (n:Int)=(n:Int):=by
 unfold IntKind.wrap
 simp only [IntKind.bits,IntKind.signed]
 have:(n:Int) % 18446744073709551616=(n:Int):=by omega
 simp
 omega
theorem R4 {n:Int} (h0: -9223372036854775808≤n) (h1:n≤9223372036854775807):IntKind.wrap .i64 n=n:=by
 unfold IntKind.wrap
 simp only [IntKind.bits,IntKind.signed]
 simp
 omega
theorem Ja {w:Nat} (hw:w<18446744073709551616):(BitVec.ofInt (IntKind.bits .u64) (w:Int)).toNat=w:=by
 rw [BitVec.toNat_ofInt]
 have e:((2 ^ IntKind.bits .u64:Nat):Int)=18446744073709551616:=by decide
 rw [e]
 omega
theorem S9 {k:Nat} (hk:k<64):IntKind.wrap .u64 ((1:Int) * 2 ^ (min k (IntKind.bits .u64)))=((2 ^ k:Nat):Int):=by
 have h1:min k (IntKind.bits .u64)=k:=by simp only [IntKind.bits]; omega
 have h2:(1:Int) * 2 ^ k=((2 ^ k:Nat):Int):=by simp
 rw [h1,h2]
 exact V3 (by
  have:2 ^ k<2 ^ 64:=Nat.pow_lt_pow_right (by decide) hk
  simpa using this)
theorem PB {k:Nat} (hk:k<64):(2:Nat) ^ k<18446744073709551616:=by
 have:2 ^ k<2 ^ 64:=Nat.pow_lt_pow_right (by decide) hk
 simpa using this
theorem Vb {a b:Nat} (ha:a<18446744073709551616) (hb:b<18446744073709551616):a ||| b<18446744073709551616:=by
 have:=Nat.or_lt_two_pow (n:=64) (x:=a) (y:=b) (by simpa using ha) (by simpa using hb)
 simpa using this
theorem V4 {a b:Nat} (ha:a<18446744073709551616):a &&& b<18446744073709551616:=Nat.lt_of_le_of_lt Nat.and_le_left ha
theorem Ul {w v:Nat} (hw:w<18446744073709551616) (hv:v<18446744073709551616):
 IntKind.wrap .u64 (BitVec.toNat (BitVec.ofInt (IntKind.bits .u64) (w:Int) ||| (BitVec.ofInt (IntKind.bits .u64) (v:Int))):Nat)=((w ||| v:Nat):Int):=by
 rw [BitVec.toNat_or,Ja hw,Ja hv]
 exact V3 (Vb hw hv)
theorem Md {w v:Nat} (hw:w<18446744073709551616) (hv:v<18446744073709551616):
 IntKind.wrap .u64 (BitVec.toNat (BitVec.ofInt (IntKind.bits .u64) (w:Int) &&& (BitVec.ofInt (IntKind.bits .u64) (v:Int))):Nat)=((w &&& v:Nat):Int):=by
 rw [BitVec.toNat_and,Ja hw,Ja hv]
 exact V3 (V4 hw)
theorem PC {w j:Nat} (hw:w<18446744073709551616) (hj:64≤j):w.testBit j=false:=Nat.testBit_lt_two_pow (Nat.lt_of_lt_of_le hw (by
 have:2 ^ 64≤2 ^ j:=Nat.pow_le_pow_right (by decide) hj
 simpa using this))
theorem TA {w k:Nat} (hw:w<18446744073709551616) (hk:k<64):
 ((IntKind.wrap .u64 (BitVec.toNat (BitVec.ofInt (IntKind.bits .u64) (Int.fdiv (w:Int) (2 ^ (min k (IntKind.bits .u64)))) &&& (BitVec.ofInt (IntKind.bits .u64) (1:Int))):Nat))==(1:Int))=w.testBit k:=by
 have h1:min k (IntKind.bits .u64)=k:=by simp only [IntKind.bits]; omega
 have h2:Int.fdiv (w:Int) (2 ^ k)=((w / 2 ^ k:Nat):Int):=by
  rw [Int.fdiv_eq_ediv_of_nonneg _ (Int.pow_nonneg (by decide))]
  simp
 have h3:(1:Int)=((1:Nat):Int):=rfl
 rw [h1,h2,h3,Md (Nat.lt_of_le_of_lt (Nat.div_le_self _ _) hw) (by decide)]
 have h4:w / 2 ^ k &&& 1=(w / 2 ^ k) % 2:=Nat.and_one_is_mod _
 rw [h4,Nat.testBit_eq_decide_div_mod_eq]
 by_cases h:w / 2 ^ k % 2=1
 ·rw [h]; rfl
 ·have:w / 2 ^ k % 2=0:=by omega
  rw [this]
  rfl
abbrev AW:=Int×List Int
def IS (ws:List Int) (i:Nat):Bool:=((ws[i / 64]?).getD 0).toNat.testBit (i % 64)
def mem (s:AW) (i:Int):Bool:=decide (0≤i) && IS s.2 i.toNat
structure OkS (s:AW):Prop where
 lo:0≤s.1
 hi:s.1≤1000
 len:s.2.length=(s.1.toNat+63) / 64
 word: ∀x ∈ s.2,0≤x∧x<18446744073709551616
 top: ∀i:Nat,s.1≤(i:Int)→IS s.2 i=false
def okB (s:AW):Bool:=decide (0≤s.1) && decide (s.1≤1000) && decide (s.2.length=(s.1.toNat+63) / 64) && s.2.all (fun x=>decide (0≤x) && decide (x<18446744073709551616)) && (List.range (64 * s.2.length - s.1.toNat)).all fun k=> !IS s.2 (s.1.toNat+k)
theorem Um (s:AW):okB s=true ↔ OkS s:=by
 unfold okB
 simp only [Bool.and_eq_true,decide_eq_true_eq,List.all_eq_true,Bool.not_eq_true',List.mem_range]
 constructor
 ·rintro ⟨⟨⟨⟨h1,h2⟩,h3⟩,h4⟩,h5⟩
  refine ⟨h1,h2,h3,h4,fun i hi=> ?_⟩
  by_cases hl:i<64 * s.2.length
  ·have:=h5 (i - s.1.toNat) (by omega)
   rwa [show s.1.toNat+(i - s.1.toNat)=i by omega] at this
  ·unfold IS
   rw [List.getElem?_eq_none (by omega)]
   simp
 ·rintro ⟨h1,h2,h3,h4,h5⟩
  exact ⟨⟨⟨⟨h1,h2⟩,h3⟩,h4⟩,fun k _=>h5 _ (by omega)⟩
instance (s:AW):Decidable (OkS s):=decidable_of_iff _ (Um s)
theorem OkS.at {s:AW} (H:OkS s) {k:Nat} (hk:(k:Int) <s.1): ∃w:Nat,∃h:k / 64<s.2.length,s.2[k / 64] =(w:Int)∧w<18446744073709551616∧IS s.2 k=w.testBit (k % 64):=by
 have h1:=H.len
 have h:k / 64<s.2.length:=by omega
 have h2:=H.word _ (List.getElem_mem h)
 refine ⟨s.2[k / 64].toNat,h,by omega,by omega,?_⟩
 unfold IS
 rw [List.getElem?_eq_getElem h]
 rfl
theorem RA {s:AW} (H:OkS s) {i:Int} (h:i<0∨s.1≤i):mem s i=false:=by
 unfold mem
 rcases h with h | h
 ·rw [decide_eq_false (by omega)]; rfl
 ·rw [H.top i.toNat (by omega),Bool.and_false]
theorem LV {s:AW} (H:OkS s) {i:Int} (h:mem s i=true):0≤i∧i<s.1:=by
 by_cases h1:i<0∨s.1≤i
 ·rw [RA H h1] at h; cases h
 ·omega
theorem K5 (s:AW) (k:Nat):mem s (k:Int)=IS s.2 k:=by
 unfold mem
 rw [decide_eq_true (by omega),Int.toNat_natCast,Bool.true_and]
theorem TB (k:Nat) (hk:k<1000):IntKind.wrap .i64 (Int.tdiv (k:Int) 64)=((k / 64:Nat):Int):=by
 rw [Int.tdiv_eq_ediv_of_nonneg (by omega),R4 (by omega) (by omega)]
 omega
theorem TC (k:Nat):Int.tmod (k:Int) 64=((k % 64:Nat):Int):=by
 rw [Int.tmod_eq_emod_of_nonneg (by omega)]
 omega
theorem Vc (s:AW) (i:Int):Ch s i=some (decide (0≤i∧i<s.1)):=by
 unfold Ch
 by_cases h:0≤i
 ·rw [decide_eq_true (show i≥0 from h),cond_true,Option.bind_some]
  by_cases h2:i<s.1
  ·rw [decide_eq_true h2,decide_eq_true ⟨h,h2⟩]
  ·rw [decide_eq_false h2,decide_eq_false fun g=>h2 g.2]
 ·rw [decide_eq_false (show ¬i≥0 from h),cond_false,Option.bind_some,decide_eq_false fun g=>h g.1]
theorem V5 {s:AW} (H:OkS s) (i:Int):C2 s i=some (mem s i):=by
 unfold C2
 rw [Vc,Option.bind_some]
 by_cases h:0≤i∧i<s.1
 ·obtain ⟨k,rfl⟩: ∃k:Nat,i=(k:Int):=⟨i.toNat,by omega⟩
  obtain ⟨w,hk,e1,e2,e3⟩:=H.at h.2
  have:=H.hi
  rw [decide_eq_true h,cond_true,TB k (by omega),TC,E0 hk,Ea (by decide)]
  simp only [Option.bind_some]
  rw [Ea (by decide),Ea (by omega),e1,Int.toNat_natCast,TA e2 (Nat.mod_lt _ (by decide)),K5,e3]
  rfl
 ·rw [decide_eq_false h,RA H (by omega)]
  rfl
theorem RB {ws:List Int} {k:Nat} (hk:k / 64<ws.length) (v:Nat) (j:Nat):IS (ws.set (k / 64) (v:Int)) j=if j / 64=k / 64 then v.testBit (j % 64) else IS ws j:=by
 unfold IS
 rw [List.getElem?_set]
 by_cases h:j / 64=k / 64
 ·rw [if_pos h.symm,if_pos hk,if_pos h]
  rfl
 ·rw [if_neg fun e=>h e.symm,if_neg h]
theorem PD {j k:Nat} (h:j / 64=k / 64):(decide (k % 64=j % 64))=decide (j=k):=by
 by_cases e:j=k
 ·subst e; simp
 ·rw [decide_eq_false e,decide_eq_false (by omega)]
theorem OkS.set {s:AW} (H:OkS s) {k v:Nat} (hk:(k:Int) <s.1) (hv:v<18446744073709551616) (ht: ∀j:Nat,s.1≤(j:Int)→j / 64=k / 64→v.testBit (j % 64)=false):OkS (s.1,s.2.set (k / 64) (v:Int)):=by
 obtain ⟨w,h,_⟩:=H.at hk
 refine ⟨H.lo,H.hi,?_,?_,?_⟩
 ·show (s.2.set _ _).length=_
  rw [List.length_set]; exact H.len
 ·intro x hx
  rcases List.mem_or_eq_of_mem_set hx with hx | hx
  ·exact H.word x hx
  ·subst hx; omega
 ·intro j hj
  show IS (s.2.set _ _) j=false
  rw [RB h]
  by_cases e:j / 64=k / 64
  ·rw [if_pos e]; exact ht j hj e
  ·rw [if_neg e]; exact H.top j hj
theorem add_ok {s:AW} (H:OkS s) (i:Int): ∃s',Aq s i=some (decide (0≤i∧i<s.1) && !mem s i,s')∧OkS s'∧s'.1=s.1∧ ∀j,mem s' j=(mem s j || decide (j=i∧0≤i∧i<s.1)):=by
 unfold Aq
 rw [Vc,V5 H]
 simp only [Option.bind_some]
 by_cases h:0≤i∧i<s.1
 ·rw [decide_eq_true h]
  simp only [Bool.not_true,cond_false,Option.bind_some,Bool.true_and]
  cases hm:mem s i with
  | true=>
   refine ⟨s,rfl,H,rfl,fun j=> ?_⟩
   by_cases hj:j=i
   ·subst hj; rw [hm]; rfl
   ·rw [decide_eq_false fun g=>hj g.1,Bool.or_false]
  | false=>
   obtain ⟨k,rfl⟩: ∃k:Nat,i=(k:Int):=⟨i.toNat,by omega⟩
   obtain ⟨w,hk,e1,e2,e3⟩:=H.at h.2
   have:=H.hi
   have h64:k % 64<64:=Nat.mod_lt _ (by decide)
   have hor:=Vb e2 (PB h64)
   refine ⟨(s.1,s.2.set (k / 64) ((w ||| 2 ^ (k % 64):Nat):Int)),?_,H.set h.2 hor ?_,rfl,fun j=> ?_⟩
   ·rw [cond_false,TB k (by omega),TC,E0 hk,Ea (by decide)]
    simp only [Option.bind_some]
    rw [Ea (by decide),Ea (by omega),e1,Int.toNat_natCast,S9 h64,Ul e2 (PB h64),Gi (by omega) (by omega),Int.toNat_natCast]
    rfl
   ·intro j hj e
    have ht:=H.top j hj
    have:IS s.2 j=w.testBit (j % 64):=by
     unfold IS
     rw [e,List.getElem?_eq_getElem hk,e1]
     rfl
    rw [this] at ht
    rw [Nat.testBit_or,ht,Nat.testBit_two_pow,PD e,decide_eq_false (by omega)]
    rfl
   ·by_cases hj:0≤j
    ·obtain ⟨j,rfl⟩: ∃q:Nat,j=(q:Int):=⟨j.toNat,by omega⟩
     rw [K5,K5]
     show IS (s.2.set _ _) j=_
     rw [RB hk]
     have ed:decide (((j:Nat):Int)=(k:Int)∧(0:Int) ≤(k:Int)∧(k:Int) <s.1)=decide (j=k):=by
      by_cases e:j=k
      ·rw [decide_eq_true e,decide_eq_true ⟨by omega,h.1,h.2⟩]
      ·rw [decide_eq_false e,decide_eq_false (by omega)]
     rw [ed]
     by_cases e:j / 64=k / 64
     ·rw [if_pos e,Nat.testBit_or,Nat.testBit_two_pow,PD e]
      unfold IS
      rw [e,List.getElem?_eq_getElem hk,e1]
      rfl
     ·rw [if_neg e,decide_eq_false (by intro g; subst g; exact e rfl),Bool.or_false]
    ·unfold mem
     rw [decide_eq_false hj,decide_eq_false (by omega)]
     rfl
 ·rw [decide_eq_false h]
  refine ⟨s,rfl,H,rfl,fun j=> ?_⟩
  rw [decide_eq_false fun g=>h g.2,Bool.or_false]
theorem PE (n j:Nat):IS (List.replicate n 0) j=false:=by
 unfold IS
 rw [List.getElem?_replicate]
 split<;>simp
def Jz (n:Int):Int:=if n<0 then 0 else if 1000<n then 1000 else n
theorem new_ok (n:Int): ∃s,Bo n=some s∧OkS s∧s.1=Jz n∧ ∀j,mem s j=false:=by
 have hc:(if (if (1000:Int) <n then (1000:Int) else n) >(0:Int) then (if (1000:Int) <n then (1000:Int) else n) else (0:Int))=Jz n:=by
  unfold Jz
  split<;>split<;>(try split) <;>omega
 have h0:0≤Jz n∧Jz n≤1000:=by
  unfold Jz
  split
  ·omega
  ·split<;>omega
 unfold Bo
 rw [hc]
 obtain ⟨k,hk⟩: ∃k:Nat,Jz n=(k:Int):=⟨(Jz n).toNat,by omega⟩
 rw [hk] at h0 ⊢
 have e1:IntKind.wrap .i64 ((k:Int) +64)=((k+64:Nat):Int):=by rw [R4 (by omega) (by omega)]; omega
 have e2:IntKind.wrap .i64 (((k+64:Nat):Int) - 1)=((k+63:Nat):Int):=by rw [R4 (by omega) (by omega)]; omega
 have e3:IntKind.wrap .i64 (Int.tdiv ((k+63:Nat):Int) 64)=(((k+63) / 64:Nat):Int):=by
  rw [Int.tdiv_eq_ediv_of_nonneg (by omega),R4 (by omega) (by omega)]
  omega
 rw [e1,e2,e3,Ea (by decide)]
 have hm:FB (((k+63) / 64:Nat):Int) (0:Int)=some (List.replicate ((k+63) / 64) 0):=by
  unfold FB
  rw [if_pos ⟨by omega,by omega⟩,Int.toNat_natCast]
 rw [hm]
 refine ⟨_,rfl,⟨h0.1,h0.2,?_,?_,?_⟩,rfl,?_⟩
 ·simp
 ·intro x hx
  have:=List.eq_of_mem_replicate hx
  subst this
  decide
 ·intro i _; exact PE _ _
 ·intro j
  unfold mem
  rw [PE,Bool.and_false]
theorem of_ok (n:Int) (l:List Int) (hl:l.length≤9223372036854775807): ∃s,CZ n l=some s∧OkS s∧s.1=Jz n∧ ∀j,mem s j=(decide (0≤j∧j<Jz n) && l.contains j):=by
 obtain ⟨s0,h1,h2,h3,h4⟩:=new_ok n
 unfold CZ
 rw [h1]
 simp only [Option.bind_some]
 obtain ⟨s,e1,e2,e3,e4⟩:=CA (σ:=AW) (n:=l.length) (fun k s=>OkS s∧s.1=Jz n∧ ∀j,mem s j=(decide (0≤j∧j<Jz n) && (l.take k).contains j)) hl (s:=s0) (f:=fun i_z3 z3=>
  (idx l i_z3).bind fun e25=>
  (Aq z3 e25).bind fun t8=>
  some t8.2) ⟨h2,h3,fun j=>by rw [h4]; simp⟩ (fun k s hk ⟨i1,i2,i3⟩=>by
   obtain ⟨s',g1,g2,g3,g4⟩:=add_ok i1 l[k]
   refine ⟨s',?_,g2,g3.trans i2,fun j=> ?_⟩
   ·rw [E0 hk,Option.bind_some,g1]
    rfl
   ·rw [g4,i3,i2,List.take_add_one,List.getElem?_eq_getElem hk]
    simp only [Option.toList_some,List.contains_append,List.contains_cons,List.contains_nil,Bool.or_false]
    by_cases hj:j=l[k]
    ·rw [← hj]
     simp
     intro a b _
     exact ⟨a,b⟩
    ·have e1:(j==l[k])=false:=by simpa using hj
     have e2:decide (j=l[k] ∧0≤l[k] ∧l[k] <Jz n)=false:=decide_eq_false fun g=>hj g.1
     rw [e1,e2,Bool.or_false,Bool.or_false])
 rw [List.take_length] at e4
 refine ⟨s,?_,e2,e3,e4⟩
 rw [e1]
 rfl
theorem TD: ∀w:Nat,w ≠ 0→ ∃k m,w=2 ^ k * (2 * m+1):=by
 intro w
 induction w using Nat.strongRecOn with
 | ind w ih=>
  intro hw
  by_cases h:w % 2=1
  ·exact ⟨0,w / 2,by rw [Nat.pow_zero,Nat.one_mul]; omega⟩
  ·obtain ⟨k,m,e⟩:=ih (w / 2) (by omega) (by omega)
   refine ⟨k+1,m,?_⟩
   rw [Nat.pow_succ,Nat.mul_comm (2 ^ k) 2,Nat.mul_assoc,← e]
   omega
def FL (w:Nat):List Nat:=(List.range 64).filter w.testBit
theorem Me:FL 0= [] :=by
 unfold FL
 rw [List.filter_eq_nil_iff]
 intro a _
 simp
theorem LW {w j:Nat} :j ∈ FL w ↔ j<64∧w.testBit j=true:=by
 unfold FL
 rw [List.mem_filter,List.mem_range]
theorem RC {w:Nat} (hw:w ≠ 0) (hlt:w<18446744073709551616): ∃k,k<64∧w.testBit k=true∧(∀j,j<k→w.testBit j=false)∧(∀j,(w &&& (w - 1)).testBit j=(w.testBit j && !decide (j=k)))∧w &&& (18446744073709551616 - w)=2 ^ k:=by
 obtain ⟨k,m,e⟩:=TD w hw
 have hbit: ∀j,w.testBit j=(decide (k≤j) && (2 * m+1).testBit (j - k)):=fun j=>by rw [e,Nat.testBit_two_pow_mul]
 have hk:w.testBit k=true:=by
  rw [hbit,Nat.sub_self,decide_eq_true (Nat.le_refl k),Bool.true_and,Nat.testBit_zero]
  simp
 have hk64:k<64:=by
  rcases Nat.lt_or_ge k 64 with h | h
  ·exact h
  ·rw [PC hlt h] at hk; cases hk
 have hlow: ∀j,j<k→w.testBit j=false:=fun j hj=>by rw [hbit,decide_eq_false (by omega),Bool.false_and]
 have hpow:0<2 ^ k:=Nat.two_pow_pos k
 have epred:w - 1=2 ^ (k+1) * m+(2 ^ k - 1):=by
  rw [e,Nat.mul_add,Nat.mul_one,Nat.pow_succ,← Nat.mul_assoc]
  omega
 have hpred: ∀j,(w - 1).testBit j=if j<k then true else if j=k then false else w.testBit j:=fun j=>by
  rw [epred,Nat.testBit_two_pow_mul_add _ (by rw [Nat.pow_succ]; omega),Nat.testBit_two_pow_sub_one]
  by_cases h1:j<k
  ·rw [if_pos (by omega),if_pos h1,decide_eq_true h1]
  ·by_cases h2:j=k
   ·rw [if_pos (by omega),if_neg h1,if_pos h2,decide_eq_false h1]
   ·rw [if_neg (by omega),if_neg h1,if_neg h2,hbit,decide_eq_true (by omega),Bool.true_and,show j - k=(j - (k+1)) +1 by omega,Nat.testBit_succ]
    rw [show (2 * m+1) / 2=m by omega]
 refine ⟨k,hk64,hk,hlow,fun j=> ?_,?_⟩
 ·rw [Nat.testBit_and,hpred]
  by_cases h1:j<k
  ·rw [if_pos h1,hlow j h1]; rfl
  ·rw [if_neg h1]
   by_cases h2:j=k
   ·subst h2; simp
   ·rw [if_neg h2,decide_eq_false h2,Bool.and_self,Bool.not_false,Bool.and_true]
 ·apply Nat.eq_of_testBit_eq
  intro j
  rw [Nat.testBit_and,Nat.testBit_two_pow]
  have e2:18446744073709551616 - w=2 ^ 64 - ((w - 1) +1):=by omega
  rw [e2,Nat.testBit_two_pow_sub_succ (by omega),hpred]
  by_cases hj:j<64
  ·rw [decide_eq_true hj,Bool.true_and]
   by_cases h1:j<k
   ·rw [if_pos h1,hlow j h1,decide_eq_false (by omega)]; rfl
   ·rw [if_neg h1]
    by_cases h2:j=k
    ·rw [if_pos h2,h2,hk]; simp
    ·rw [if_neg h2,decide_eq_false (fun h=>h2 h.symm)]
     cases w.testBit j<;>rfl
  ·rw [PC hlt (by omega),Bool.false_and]
   exact (decide_eq_false (by omega)).symm
theorem Ka {w k:Nat} (hk:k<64) (h1:w.testBit k=true) (h2: ∀j,j<k→w.testBit j=false) {v:Nat} (hv: ∀j,v.testBit j=(w.testBit j && !decide (j=k))):FL w=k::FL v:=by
 unfold FL
 have er:List.range 64=List.range k++k::List.range' (k+1) (63 - k):=by
  rw [List.range_eq_range',List.range_eq_range']
  have h:List.range' 0 64=List.range' 0 k++List.range' (0+1 * k) (64 - k):=by
   rw [List.range'_append,show k+(64 - k)=64 by omega]
  rw [h,show 64 - k=(63 - k) +1 by omega,List.range'_succ]
  simp
 have e1:(List.range k).filter w.testBit= [] :=by
  rw [List.filter_eq_nil_iff]
  intro j hj
  rw [h2 j (List.mem_range.1 hj)]
  exact Bool.false_ne_true
 have e2:(List.range k).filter v.testBit= [] :=by
  rw [List.filter_eq_nil_iff]
  intro j hj
  rw [hv,h2 j (List.mem_range.1 hj)]
  exact Bool.false_ne_true
 have e3:(List.range' (k+1) (63 - k)).filter w.testBit=(List.range' (k+1) (63 - k)).filter v.testBit:=by
  refine List.filter_congr fun j hj=> ?_
  rw [List.mem_range'_1] at hj
  rw [hv,decide_eq_false (by omega),Bool.not_false,Bool.and_true]
 have e4:v.testBit k=false:=by rw [hv,h1]; simp
 rw [er,List.filter_append,List.filter_append,e1,e2,List.nil_append,List.nil_append,List.filter_cons,List.filter_cons,h1,e4,e3]
 rfl
set_option maxRecDepth 100000
def Glob (φ:AC):Prop:= ∃t f,φ 0=some (.cells (Lib.deBruijn64tab.map fun (z:Nat)=>Value.int .u8 (z:Int)).toArray t f)
theorem Glob.mono {φ ψ:AC} (H:Glob φ) (hs:Sub φ ψ):Glob ψ:=by
 obtain ⟨t,f,h⟩:=H
 exact ⟨t,f,hs _ _ h⟩
def tzN (w:Nat):Nat:=(FL w).headD 64
def tzD (x:Int):Option Int:=if 0≤x∧x<18446744073709551616 then some (tzN x.toNat:Nat) else none
theorem TE {w:Nat} (h0:w ≠ 0) (h:w<18446744073709551616):IntKind.wrap .u64 (0 - (w:Int))=((18446744073709551616 - w:Nat):Int):=by
 unfold IntKind.wrap
 simp only [IntKind.bits,IntKind.signed]
 have:(0 - (w:Int)) % 18446744073709551616=((18446744073709551616 - w:Nat):Int):=by omega
 simp
 omega
theorem TF (n:Nat):IntKind.wrap .u64 (n:Int)=((n % 18446744073709551616:Nat):Int):=by
 unfold IntKind.wrap
 simp only [IntKind.bits,IntKind.signed]
 simp
theorem TG {w k:Nat} (h0:w ≠ 0) (h:w<18446744073709551616) (he:w &&& (18446744073709551616 - w)=2 ^ k):
 Int.fdiv (IntKind.wrap .u64 ((IntKind.wrap .u64 (BitVec.toNat (BitVec.ofInt (IntKind.bits .u64) (w:Int) &&& (BitVec.ofInt (IntKind.bits .u64) (IntKind.wrap .u64 (0 - (w:Int))))):Nat)) * (285870213051353865:Int))) (2 ^ (min (Int.toNat (58:Int)) (IntKind.bits .u64)))=((2 ^ k * 285870213051353865 % 18446744073709551616 / 288230376151711744:Nat):Int):=by
 rw [TE h0 h,Md h (by omega),he]
 have e1:((2 ^ k:Nat):Int) * (285870213051353865:Int)=((2 ^ k * 285870213051353865:Nat):Int):=by
  rw [Int.natCast_mul]
  have:((285870213051353865:Nat):Int)=285870213051353865:=rfl
  rw [this]
 rw [e1,TF]
 have e2:(2:Int) ^ (min (Int.toNat (58:Int)) (IntKind.bits .u64))=((288230376151711744:Nat):Int):=by decide
 rw [e2,Int.fdiv_eq_ediv_of_nonneg _ (by omega)]
 generalize 2 ^ k * 285870213051353865 % 18446744073709551616=q
 omega
theorem TH {l:List Nat} {i k:Nat} (h:i<l.length) (hk:l.getD i 0=k):l[i]? =some k:=by
 rw [List.getD_eq_getElem?_getD,List.getElem?_eq_getElem h] at hk
 rw [List.getElem?_eq_getElem h]
 exact congrArg some hk
theorem QQ:Lib.deBruijn64tab.length=64:=by decide
theorem TI {l:List Nat} {φ:AC} {t:TypeId} {f:Nat×Nat} (hg:φ 0=some (.cells (l.map fun (z:Nat)=>Value.int .u8 (z:Int)).toArray t f)) {i k:Nat} (h:l[i]? =some k):DS φ (Addr.add ⟨0,0,none⟩ (Int.toNat (i:Int) * 1))=some (.int .u8 (k:Int)):=by
 rw [Dp,Int.toNat_natCast,Nat.mul_one,Nat.zero_add]
 unfold DS
 rw [hg]
 simp [h]
theorem V6 {φ:AC} {h:AH} {F:List Chk} {x:Int} (gk:Glob φ) (s0:St φ F h) {r:Int} (hd:tzD x=some r):CallsH Tryz.prog 150 [.int .u64 x] h
 (Ar fun v h'=> ∃ψ:AC,∃y:Int,Sub φ ψ∧v=((.one aI):Sh).val y∧y=r∧St ψ F h'):=by
 unfold tzD at hd
 split at hd
 ·rename_i hx
  cases hd
  obtain ⟨w,rfl⟩: ∃w:Nat,x=(w:Int):=⟨x.toNat,by omega⟩
  rw [Int.toNat_natCast]
  refine AR mixed Tryz.func150 ?_
  rw [FI]
  unfold DK
  refine Vs (fun hb=> ?_) (fun hb=> ?_)
  ·have hw:w=0:=by
    have:(w:Int)=0:=by simpa using hb
    omega
   subst hw
   unfold tzN
   rw [Me]
   exact AB ⟨φ,64,Sub.refl _,rfl,rfl,s0⟩
  ·have hw:w ≠ 0:=by
    intro e; subst e; cases hb
   obtain ⟨k,k1,k2,k3,k4,k5⟩:=RC hw (by omega)
   have hk:tzN w=k:=by
    unfold tzN
    rw [Ka k1 k2 k3 k4]
    rfl
   obtain ⟨d1,d2⟩:=Lib.deBruijn64_at k k1
   rw [TG hw (by omega) k5,hk]
   generalize 2 ^ k * 285870213051353865 % 18446744073709551616 / 288230376151711744=i at d1 d2
   refine Aa (by decide) (Aa ⟨by omega,by omega⟩ ?_)
   obtain ⟨t,f,hg⟩:=gk
   have hi:i<Lib.deBruijn64tab.length:=by rw [QQ]; exact d1
   have hcell:=TI hg (TH hi d2)
   refine AG (x:=(k:Int)) (AE s0.sub hcell) rfl ?_
   rw [R4 (by omega) (by omega)]
   exact AB ⟨φ,(k:Int),Sub.refl _,rfl,rfl,s0⟩
 ·cases hd
end Go.Proofs.YteolcjbobmpdiaaGreatDoor.Dg
namespace Go.Eng
open Go Go.RowKit
def FM (P:Program) (h:AH):Nat→TypeId→List Value→Prop
 | 0,_,_=>False
 | n+1,t,cs=>match P.underlying t with
  | some .bool=> ∃b,cs= [.bool b]
  | some (.int k)=> ∃x,cs= [.int k x] ∧(Lit.int k x).wf=true
  | some .string=> ∃s,cs= [.string s] ∧s.size≤maxLen
  | some (.slice e)=> ∃p len cap,cs= [.slice p len cap] ∧len≤cap∧cap≤maxLen∧(p=none→len=0∧cap=0)∧
   ∀i,i<len→ ∃cs',cs'.length=P.cellsOf e∧(∀j v,cs'[j]? =some v→ ∃a,p=some a∧BH h (a.add (i * P.cellsOf e+j))=some v)∧FM P h n e cs'
  | some (.struct fs)=>cs.length=P.cellsOf t∧ ∀f ∈ fs.toList,FM P h n f.type ((cs.drop f.offset).take (P.cellsOf f.type))
  | _=>True
theorem NK {α β:Type} {f:α→Option β} : ∀ {l:List α} {r:List β},l.mapM f=some r→ ∀a ∈ l,∃b,f a=some b:=by
 intro l
 induction l with
 | nil=>intro r _ a ha; cases ha
 | cons x l ih=>
  intro r h a ha
  rw [List.mapM_cons] at h
  cases hx:f x with
  | none=>simp [hx] at h
  | some b=>
   cases hl:l.mapM f with
   | none=>simp [hx,hl] at h
   | some bs=>
    rcases List.mem_cons.1 ha with rfl | ha
    ·exact ⟨b,hx⟩
    ·exact ih hl a ha
theorem NL {H:Type} {enc:TypeId×Value→H} {P:Program} {w:World} {base:Nat} {spare:Nat→Bool} {held:Bool} : ∀(fuel:Nat) (t:TypeId) (cs:List Value) (x:DataW H×List MemPlace),
 DataW.trod enc P w base spare held fuel t cs=some x→FM P w.heap fuel t cs:=by
 intro fuel
 induction fuel with
 | zero=>intro t cs x h; simp [DataW.trod] at h
 | succ n ih=>
  intro t cs x h
  have h0:=h
  rw [DataW.trod_step] at h
  unfold DataW.trodStep at h
  unfold FM
  split<;>rename_i hd<;>try trivial
  ·rw [hd] at h
   split at h<;>first | cases h | skip
   all_goals rename_i h1; first | cases h1 | skip
   all_goals first | exact ⟨_,rfl⟩ | skip
  ·rw [hd] at h
   split at h<;>first | cases h | skip
   all_goals rename_i h1; first | cases h1 | skip
   split at h
   ·rename_i hk; obtain ⟨rfl,hw⟩:=hk; exact ⟨_,rfl,hw⟩
   ·cases h
  ·rw [hd] at h
   split at h<;>first | cases h | skip
   all_goals rename_i h1; first | cases h1 | skip
   split at h
   ·rename_i hs; exact ⟨_,rfl,hs⟩
   ·cases h
  ·rename_i e
   rcases DataW.trod_slice hd h0 with ⟨rfl,_⟩ | ⟨a,len,cap,elems,rest,m,hm,rfl,_,_,hl,hc,hlen,hel,_⟩
   ·exact ⟨none,0,0,rfl,Nat.le_refl _,Nat.zero_le _,fun _=>⟨rfl,rfl⟩,fun i hi=>by omega⟩
   ·cases hm
    refine ⟨some a,len,cap,rfl,hl,hc,(fun h=>by cases h),fun i hi=> ?_⟩
    have h2:=hel i hi
    rw [List.getElem?_eq_getElem (by omega),Option.bind_eq_some_iff] at h2
    obtain ⟨cs',h3,h4⟩:=h2
    obtain ⟨_,h5,h6⟩:=World.cells?_some h3
    refine ⟨cs',h5,fun j v hj=>⟨a,rfl,?_⟩,ih _ _ _ h4⟩
    have hjl:j<P.cellsOf e:=by
     rcases Nat.lt_or_ge j cs'.length with g | g
     ·omega
     ·rw [List.getElem?_eq_none g] at hj; cases hj
    have:=h6 j hjl
    rw [hj,Ae] at this
    exact this
  ·rename_i fs
   rw [hd] at h
   dsimp only at h
   by_cases hlen:cs.length=P.cellsOf t
   ·rw [if_pos hlen,Option.map_eq_some_iff] at h
    obtain ⟨xs,h2,_⟩:=h
    refine ⟨hlen,fun f hf=> ?_⟩
    obtain ⟨y,hy⟩:=NK h2 f hf
    exact ih _ _ _ hy
   ·rw [if_neg hlen] at h; cases h
theorem reads_of_Trod {H:Type} {enc:TypeId×Value→H} {P:Program} {w:World} {base:Nat} {spare:Nat→Bool} {held:Bool} {t:TypeId} {v:Value} {d:DataW H} {ps:List MemPlace}
 (h:DataW.Trod enc P w base spare held t v d ps): ∃n,FM P w.heap n t v.cells.toList:=by
 obtain ⟨fuel,hf⟩:=h
 exact ⟨fuel,NL fuel t _ _ hf⟩
def RD (h:AH) (v:Value) (h':AH):Prop:=v= .bool true∧EN [] h h'
theorem law_walk {P:Program} {f:FuncId} {args:Array Value} {w:World} (H:CallsH P f args.toList w.heap (Ar (RD w.heap))):
 Calls P f args w fun e w'=>e= .returned (.bool true)∧Below w.heap.size w w':=by
 have:=H w rfl
 rw [Array.toArray_toList] at this
 refine this.mono fun e w' he=> ?_
 obtain ⟨hs,he⟩:=he
 cases e with
 | returned v=>
  obtain ⟨v',hv,rfl,hk⟩:=he
  cases hv
  exact ⟨rfl,hs.os,hs.tape,hs.output,hk.1,fun k hk'=>hk.2 k hk' (by simp)⟩
 | panicked c=>obtain ⟨v',hv,_⟩:=he; cases hv
 | outgrown=>exact he.elim
section
variable {P:Program} {h:AH}
theorem LX {n:Nat} {t:TypeId} {k:IntKind} {cs:List Value} (ht:P.underlying t=some (.int k)) (H:FM P h n t cs): ∃x,cs= [.int k x] ∧(Lit.int k x).wf=true:=by
 cases n with
 | zero=>exact H.elim
 | succ n=>unfold FM at H; rw [ht] at H; exact H
theorem PF {n:Nat} {t e:TypeId} {cs:List Value} (ht:P.underlying t=some (.slice e)) (H:FM P h n t cs):
 ∃m p len cap,cs= [.slice p len cap] ∧len≤cap∧cap≤maxLen∧(p=none→len=0∧cap=0)∧
  ∀i,i<len→ ∃cs',cs'.length=P.cellsOf e∧(∀j v,cs'[j]? =some v→ ∃a,p=some a∧BH h (a.add (i * P.cellsOf e+j))=some v)∧FM P h m e cs':=by
 cases n with
 | zero=>exact H.elim
 | succ n=>
  unfold FM at H
  rw [ht] at H
  obtain ⟨p,len,cap,h1,h2⟩:=H
  exact ⟨n,p,len,cap,h1,h2⟩
theorem PG {α:Type} {p:Nat→α→Prop} : ∀(n:Nat),(∀i,i<n→ ∃x,p i x)→ ∃l:List α,l.length=n∧ ∀i x,l[i]? =some x→p i x:=by
 intro n
 induction n with
 | zero=>intro _; exact ⟨[],rfl,fun i x hx=>by simp at hx⟩
 | succ n ih=>
  intro H
  obtain ⟨l,hl,hp⟩:=ih fun i hi=>H i (by omega)
  obtain ⟨x,hx⟩:=H n (by omega)
  refine ⟨l++ [x],by simp [hl],fun i y hy=> ?_⟩
  rcases Nat.lt_trichotomy i l.length with g | g | g
  ·rw [List.getElem?_append_left g] at hy; exact hp i y hy
  ·subst g; simp at hy; subst hy; rw [hl]; exact hx
  ·rw [List.getElem?_eq_none (by simp; omega)] at hy; cases hy
end
end Go.Eng
namespace Go.Eng
open Go
def ReadsTo {α:Type} (P:Program) (h:AH) (t:TypeId) (r:Ro α) (G:α→Prop):Prop:= ∀n cs,FM P h n t cs→ ∃x,r.is (BN h) cs x∧G x
theorem L0 {P:Program} {h:AH} {t:TypeId} {k:IntKind} (ht:P.underlying t=some (.int k)):ReadsTo P h t (Ro.int k) fun x=>(Lit.int k x).wf=true:=fun n cs H=>by
 obtain ⟨x,rfl,hx⟩:=LX ht H
 exact ⟨x,rfl,hx⟩
theorem G0 {α:Type} {P:Program} {h:AH} {t e:TypeId} {r:Ro α} {G:α→Prop} (ht:P.underlying t=some (.slice e)) (hc:P.cellsOf e=r.sz) (he:ReadsTo P h e r G):
 ReadsTo P h t (Ro.list r) fun l=>l.length≤maxLen∧ ∀x ∈ l,G x:=fun n cs H=>by
 obtain ⟨m,p,len,cap,rfl,h1,h2,h3,h4⟩:=PF ht H
 obtain ⟨l,hl,hp⟩:=PG (p:=fun i (x:List Value×α)=>r.is (BN h) x.1 x.2∧G x.2∧ ∀j v,x.1[j]? =some v→ ∃a,p=some a∧BH h (a.add (i * r.sz+j))=some v) len (fun i hi=>by
  obtain ⟨cs',g1,g2,g3⟩:=h4 i hi
  obtain ⟨x,hx,hG⟩:=he m cs' g3
  exact ⟨(cs',x),hx,hG,fun j v hv=>by have:=g2 j v hv; rw [hc] at this; exact this⟩)
 have key: ∀k,k≤len→ ∃vs,r.All (BN h) vs ((l.take k).map (·.2))∧vs.length=k * r.sz∧Cy (BN h) p vs:=fun k=>by
  induction k with
  | zero=>intro _; exact ⟨[], .nil,by simp,fun i v hv=>by simp at hv⟩
  | succ k ih=>
   intro hk
   obtain ⟨vs,a1,a2,a3⟩:=ih (by omega)
   have hkl:k<l.length:=by omega
   obtain ⟨b1,b2,b3⟩:=hp k l[k] (List.getElem?_eq_getElem hkl)
   refine ⟨vs++l[k].1,?_,by rw [List.length_append,a2,r.len b1,Nat.add_mul,Nat.one_mul],fun i v hv=> ?_⟩
   ·rw [List.take_add_one,List.getElem?_eq_getElem hkl,List.map_append]
    exact a1.append (.one b1)
   ·rcases Nat.lt_or_ge i vs.length with g | g
    ·rw [List.getElem?_append_left g] at hv; exact a3 i v hv
    ·rw [List.getElem?_append_right g] at hv
     obtain ⟨a,ha,hcell⟩:=b3 _ v hv
     refine ⟨a,ha,?_⟩
     rw [KM,show i=k * r.sz+(i - vs.length) by omega]
     exact hcell
 obtain ⟨vs,a1,a2,a3⟩:=key len (Nat.le_refl _)
 rw [List.take_of_length_le (by omega)] at a1
 refine ⟨l.map (·.2),⟨(p,len,cap),rfl,by simp [hl],h1,h2,fun hp0=> ?_,vs,a1,a3⟩,by simp; omega,fun x hx=> ?_⟩
 ·have:=(h3 hp0).1
  have:l= [] :=List.eq_nil_of_length_eq_zero (by omega)
  rw [this]; rfl
 ·obtain ⟨y,hy,rfl⟩:=List.mem_map.1 hx
  obtain ⟨i,hi⟩:=List.getElem?_of_mem hy
  exact (hp i y hi).2.1
theorem St.start (h:AH):St (BN h) [] h:=Sub.refl _
theorem PH {P:Program} {f:FuncId} {args:List Value} {h:AH}
 (H:CallsH P f args h (Ar fun v h'=> ∃ψ:AC,∃y:Bool,Sub (BN h) ψ∧v=((.one (.atom .bool)):Sh).val y∧y=true∧St ψ [] h')):CallsH P f args h (Ar (RD h)):=by
 refine H.mono fun e h' he=> ?_
 obtain ⟨v,hv,ψ,y,hs,hv2,hy,s1⟩:=he
 subst hy
 refine ⟨v,hv,hv2,?_⟩
 have hs':=hs.trans s1.sub
 refine ⟨?_,fun i hi _=> ?_⟩
 ·rcases Nat.lt_or_ge h'.size h.size with g | g
  ·have h1:BN h h'.size=some h[h'.size] :=Array.getElem?_eq_getElem g
   have:=Au (hs' _ _ h1)
   omega
  ·exact g
 ·have h1:BN h i=some h[i] :=Array.getElem?_eq_getElem hi
  have h2:h'[i]? =some h[i] :=hs' _ _ h1
  rw [h2,Array.getElem?_eq_getElem hi]
end Go.Eng
namespace Go.Proofs.YteolcjbobmpdiaaGreatDoor.Dg
open Go Go.Eng Go.RowKit Go.Shelf
set_option linter.unusedVariables false
attribute [local go_sem] Oper.semAt_some
def KpL (L:List Nat) (W W':World):Prop:= ∀b ∈ L,∀o,W.heap[b]? =some o→W'.heap[b]? =some o
theorem KpL.refl (L:List Nat) (W:World):KpL L W W:=fun _ _ _ h=>h
theorem KpL.trans {L:List Nat} {A B C:World} (h:KpL L A B) (k:KpL L B C):KpL L A C:=fun b hb o ho=>k b hb o (h b hb o ho)
theorem KpL.cell {L:List Nat} {b off:Nat} {A B:World} (h:KpL L A B) (hb:b ∈ L) {v:Value} (hc:A.cell? ⟨b,off,none⟩=some v):B.cell? ⟨b,off,none⟩=some v:=by
 unfold World.cell? at hc ⊢
 dsimp only at hc ⊢
 cases ho:A.heap[b]? with
 | none=>rw [ho] at hc; cases hc
 | some o=>rw [h b hb o ho]; rw [ho] at hc; exact hc
theorem KpL.glob {L:List Nat} {A B:World} (h:KpL L A B) (hb:0 ∈ L) (gk:Glob (BN A.heap)):Glob (BN B.heap):=by
 obtain ⟨t,f,hg⟩:=gk
 exact ⟨t,f,h 0 hb _ hg⟩
theorem KpL.grown {L:List Nat} {A B:World} (h:A.grownBy B none):KpL L A B:=fun b _ o ho=>by
 have hlt:b<A.heap.size:=by
  rcases Nat.lt_or_ge b A.heap.size with g | g
  ·exact g
  ·rw [Array.getElem?_eq_none g] at ho; cases ho
 obtain ⟨_,_,_,_,hk⟩:=h
 rw [hk b hlt (by simp)]
 exact ho
def DM (ws:List Nat) (k:Nat):List Int:=((List.range k).map fun (i:Nat)=>(FL (ws[i]?.getD 0)).map fun (j:Nat)=>((i:Int) * 64+(j:Int))).flatten
theorem Mf (ws:List Nat):DM ws 0= [] :=rfl
theorem GI (ws:List Nat) (k:Nat):DM ws (k+1)=DM ws k++(FL (ws[k]?.getD 0)).map fun (j:Nat)=>((k:Int) * 64+(j:Int)):=by
 unfold DM
 rw [List.range_succ,List.map_append,List.flatten_append]
 simp
theorem Wi (m:Nat) {W:World} {u:Nat} (gk:Glob (BN W.heap)) (hu:u<18446744073709551616):CallsIn Fence.wide m Tryz.prog 150 #[.int .u64 (u:Int)] W fun e W'=>e= .returned (.int .i64 ((tzN u:Nat):Int))∧W.grownBy W' none:=by
 refine callsIn_wide.2 ?_
 have h:=V6 (x:=(u:Int)) gk (St.start W.heap) (r:=((tzN u:Nat):Int)) (by unfold tzD; rw [if_pos (by omega),Int.toNat_natCast]) W rfl
 refine h.mono fun e W' ⟨hs,he⟩=> ?_
 cases e with
 | returned v=>
  obtain ⟨v',hv,ψ,y,h1,h2,h3,h4⟩:=he
  cases hv
  refine ⟨by rw [h2,h3]; rfl,hs.os,hs.tape,hs.output,?_,?_⟩
  ·rcases Nat.lt_or_ge W'.heap.size W.heap.size with g | g
   ·have e1:BN W.heap W'.heap.size=some W.heap[W'.heap.size] :=Array.getElem?_eq_getElem g
    have:=Au ((h1.trans h4.sub) _ _ e1)
    omega
   ·exact g
  ·intro k hk _
   have e1:BN W.heap k=some W.heap[k] :=Array.getElem?_eq_getElem hk
   have e2:W'.heap[k]? =some W.heap[k] :=(h1.trans h4.sub) _ _ e1
   rw [e2,Array.getElem?_eq_getElem hk]
 | panicked c=>obtain ⟨v',hv,_⟩:=he; cases hv
 | outgrown=>exact he.elim
theorem TJ {a b:Nat} (ha:a<18446744073709551616) (hb:b<18446744073709551616):bits BinOp.and IntKind.u64 (a:Int) (b:Int)=((a &&& b:Nat):Int):=Md ha hb
theorem TK (ws:List Nat) {k m:Nat} (h:k≤m): ∃r,DM ws m=DM ws k++r:=by
 induction h with
 | refl=>exact ⟨[],by simp⟩
 | step _ ih=>
  obtain ⟨r,e⟩:=ih
  exact ⟨r++_,by rw [Nat.succ_eq_add_one,GI,e,List.append_assoc]⟩
set_option maxRecDepth 100000 in
set_option maxHeartbeats 2000000 in
theorem TL (n:Nat) (hn:3≤n) (l bx ba off cap:Nat) (ws:List Nat) (hws: ∀w ∈ ws,w<18446744073709551616) (hlen:ws.length≤1000) (J Jx:List Int→World→Prop) (W:World) (gk:Glob (BN W.heap)) (hJ:AbidesFrom W.heap.size J)
 (hY: ∀pre x W1,J pre W1→pre.length< (DM ws ws.length).length→YieldAt Fence.wide (n - 1) Tryz.prog l #[.int .i64 x] W1 fun e W'=>
  (e= .returned (.bool true)∧J (pre++ [x]) W'∧KpL [bx,ba,0] W1 W')∨(e= .returned (.bool false)∧Jx (pre++ [x]) W'))
 (hbx:W.cell? ⟨bx,0,none⟩=some (.slice (some ⟨ba,off,none⟩) ws.length cap)) (hc: ∀j,j<ws.length→W.cell? ⟨ba,off+j,none⟩=some (.int .u64 ((ws[j]?.getD 0:Nat):Int))) (h0:J [] W):
 CallsIn Fence.wide n Tryz.prog 149 #[.func (.yield l) #[] #[], .pointer (some ⟨bx,0,none⟩)] W fun e W'=>(∃v,e= .returned v)∧
  ((∃xs,xs=DM ws ws.length∧J xs W')∨(∃pre,pre<+:DM ws ws.length∧Jx pre W')):=by
 refine callsIn_of_wp Tryz.func149 rfl trivial ?_ rfl
 simp only [Tryz.ntmps149,List.size_toArray,List.length_cons,List.length_nil,Nat.reduceAdd,Nat.reduceSub,Array.replicate_succ,Array.replicate_zero,List.push_toArray,List.append_toArray,List.nil_append,List.cons_append]
 gi_wp2
 gi_loopw [7] (fun i wr=> ∃k:Nat,k≤ws.length∧i= .int .i64 k∧J (DM ws k) wr∧KpL [bx,ba,0] W wr)
  (fun i _=>ws.length - (intOf i).toNat)
 case atStart=>exact ⟨0,Nat.zero_le _,rfl,h0,KpL.refl _ _⟩
 case round=>
  obtain ⟨k,hk,rfl,hJs,hnx⟩:=hrel
  by_cases hlt:k<ws.length
  ·have hcx:wr.cell? ⟨ba,off+k,none⟩=some (.int .u64 ((ws[k]?.getD 0:Nat):Int)):=hnx.cell (by simp) (hc k hlt)
   obtain ⟨x0,hx0⟩: ∃x0,ws[k]?.getD 0=x0:=⟨_,rfl⟩
   have hw0:x0<18446744073709551616:=by
    rw [← hx0,List.getElem?_eq_getElem hlt]
    exact hws _ (List.getElem_mem hlt)
   have hsucc:=GI ws k
   rw [hx0] at hcx hsucc
   obtain ⟨rest,hrest⟩:=TK ws (k:=k+1) (m:=ws.length) (by omega)
   gi_wp2
   gi_loopw [4] (fun x wr2=> ∃(u:Nat) (p:List Nat),x= .int .u64 (u:Int)∧u<18446744073709551616∧FL x0=p++FL u∧J (DM ws k++p.map fun (j:Nat)=>((k:Int) * 64+(j:Int))) wr2∧KpL [bx,ba,0] wr wr2)
    (fun x _=>(intOf x).toNat)
   case atStart=>exact ⟨_, [],rfl,hw0,rfl,by simpa using hJs,KpL.refl _ _⟩
   case round=>
    obtain ⟨u,p,rfl,hu,hp,hJ2,hn2⟩:=hrel
    by_cases hu0:u=0
    ·subst hu0
     gi_wp2
     exact ⟨⟨k+1,by omega,rfl,by rw [hsucc,hp,Me,List.append_nil]; exact hJ2,hnx.trans hn2⟩,by simp only [intOf]; omega⟩
    ·obtain ⟨z,z1,z2,z3,z4,z5⟩:=RC hu0 hu
     have hz:tzN u=z:=by
      unfold tzN
      rw [Ka z1 z2 z3 z4]
      rfl
     have hst:=Ka z1 z2 z3 z4
     have hgk:=(hnx.trans hn2).glob (by simp) gk
     gi_wp2
     refine ⟨trivial,fun _=>by omega,(Wi _ hgk hu).mono ?_⟩
     rintro e W1 ⟨rfl,hg⟩
     have hJ3:=hJ _ _ W1 none hJ2 hg (fun r e=>by cases e)
     rw [hz]
     have hlen3:(DM ws k++p.map fun (j:Nat)=>((k:Int) * 64+(j:Int))).length< (DM ws ws.length).length:=by
      rw [hrest,hsucc,hp,hst]
      simp only [List.length_append,List.length_map,List.length_cons]
      omega
     obtain ⟨fn,tmps,assign,body,hy,hR⟩:=hY _ ((k:Int) * 64+(z:Int)) W1 hJ3 hlen3
     gi_wp2
     refine ⟨fun _=>by omega,hR.mono ?_⟩
     rintro e W3 (⟨rfl,hJ4,hk4⟩ | ⟨rfl,hx4⟩)
     ·gi_wp2
      have hu1:(u:Int) - 1=((u - 1:Nat):Int):=by omega
      have hle:u &&& (u - 1) ≤u - 1:=Nat.and_le_right
      have hJ5:J (DM ws k++(p++ [z]).map fun (j:Nat)=>((k:Int) * 64+(j:Int))) W3:=by
       rw [List.map_append,← List.append_assoc]
       exact hJ4
      rw [hu1,TJ hu (by omega)]
      exact ⟨⟨_,p++ [z],rfl,by omega,by rw [hp,hst,List.append_assoc]; rfl,hJ5,(hn2.trans (KpL.grown hg)).trans hk4⟩,by simp only [intOf]; omega⟩
     ·gi_wp2
      refine bodyPost_ret (results_none rfl _ _ _) rfl ?_
      refine ⟨⟨_,rfl⟩, .inr ⟨_,?_,hx4⟩⟩
      rw [hrest,hsucc,hp,hst,List.map_append,List.map_cons]
      exact ⟨((FL (u &&& (u - 1))).map fun (j:Nat)=>((k:Int) * 64+(j:Int))) ++rest,by simp⟩
  ·obtain rfl:k=ws.length:=by omega
   gi_wp2
   go_end0
   exact ⟨⟨_,rfl⟩, .inl ⟨_,rfl,hJs⟩⟩
attribute [local go_sem] Oper.semAt_some
theorem KpL.of_below {L:List Nat} {n₀:Nat} (hL: ∀b ∈ L,b<n₀) {A B:World} (h:Below n₀ A B):KpL L A B:=fun b hb o ho=>(h.block b (hL b hb)).trans ho
theorem KpL.putObj {L:List Nat} {n₀:Nat} (hL: ∀b ∈ L,b<n₀) (W:World) (l:Nat) (o o':Obj) (hl:n₀≤l) (h:W.heap[l]? =some o) (h1:o.isCells=false) (h2:o.isWalk=false):KpL L W (W.putObj l o'):=fun b hb q hq=>by
 have:=hL b hb
 rw [World.putObj_heap_other (by omega)]
 exact hq
theorem Un:(Tryz.prog.info? 3).map (fun i=>(i.zero,i.size,i.bytes))=some (some (.int .i64 0),1,8):=by kernel_rfl
abbrev Uo (x:Int):Array Value:= #[.int .i64 x]
set_option maxRecDepth 100000 in
set_option maxHeartbeats 2000000 in
theorem OM (n:Nat) (hn:3≤n) (g:Nat) (lb:Array Value) (eg: ∀args w,(callFunc g args).run Tryz.prog w= .ok (.enter g args) w) (L:List Nat) (xs:List Int) (Sp:List Int→Prop) (hlen:xs.length≤1000000) (w:World) (hL: ∀b ∈ L,b<w.heap.size)
 (hseq:SeqStopsK Fence.wide (n - 1) Tryz.prog g lb Uo (KpL L) (fun ys=>ys=xs) Sp xs.length w):
 CallsIn Fence.wide n Tryz.prog 147 #[.slice none 0 0, .func (.func g) #[] lb] w fun e W'=> ∃v,e= .returned v∧W'.ownsRow w.heap.size 3 1 v xs.length (xs.map (Value.int .i64))∧(v= .slice none 0 0 ↔ xs= [])∧Below w.heap.size w W':=by
 have h1:1≤n:=by omega
 obtain ⟨i0,hi,hz0,hz1,hz2⟩:=info_parts Un
 refine callsIn_of_wp_marks Tryz.func147 rfl trivial ?_ rfl
 simp only [Tryz.ntmps147,List.size_toArray,List.length_cons,List.length_nil,Nat.reduceAdd,Nat.reduceSub,Array.replicate_succ,Array.replicate_zero,List.push_toArray,List.append_toArray,List.nil_append,List.cons_append]
 gi_wp2
 have bO:=Boxed.new w 30 (.slice none 0 0)
 have hB0:Below w.heap.size w (w.alloc (.cells #[.slice none 0 0] 30)):=(Below.refl _ w).alloc (Nat.le_refl _) _
 refine wpIn_rangeFunc_ownG rfl h1 (gf:=g) (lb:=lb) rfl trivial eg hseq (fun h k=>h.trans k) (KpL.putObj (fun b hb=>by have:=hL b hb; simp; omega)) hB0 (fun _=>rfl)
  (fun pre W=>(∃v,Boxed W w.heap.size 30 v∧W.ownsRow w.heap.size 3 1 v pre.length (pre.map (Value.int .i64))∧(v= .slice none 0 0 ↔ pre= []))∧Below w.heap.size w W)
  (fun _ _ _=>False)
  (OwnFrom.and (Own.from (holdsRow_own w.heap.size w.heap.size 30 3 1 (fun pre=>pre.length) (fun pre=>pre.map (Value.int .i64)) (fun pre v=>v= .slice none 0 0 ↔ pre= [])) _) (ownFrom_below (Nat.le_refl _) (by simp)))
  (fun _ _ _ _ _ hs _ _=>hs)
  ⟨⟨_,bO,World.ownsRow_nil _ _ _ _,by simp⟩,hB0⟩
  (fun x=> {tmps:= #[.slice none 0 0, .func (.func g) #[] lb, .pointer (some ⟨w.heap.size,0,none⟩),undef, .slice none 0 0, .int .i64 x, .func (.func g) #[] lb, .int .i64 x,undef,undef,undef,undef,undef],defers:= [] }) ?assign ?body ?done ?stop
 case assign=>
  intro l x W K hK
  gi_wp2
  exact hK
 case body=>
  rintro l pre x W ⟨⟨v,hv,hrow,hnil⟩,hB⟩ hlt
  have hc:=hv.cell
  gi_wp2_with (gi_at_builtin; refine wpListIn_append_own _ rfl _ _ 30 rfl w.heap.size 3 i0 (.int .i64 0) 1 8 Tryz.underlying30 hi hz0 hz1 hz2 rfl (by decide) _ _ _ rfl (hrow.alloc _) ⟨W.heap.size,0,none⟩ 1 1 [.int .i64 x] rfl rfl (cell_one_new _ _ _) (by simp [Value.oneCell']) (by unfold maxLen; omega) (by omega) (by have:=hB.size; simp; omega) ?_; intro v' w1 hown' hgrow _; obtain ⟨g',cap',rfl⟩:=ownsRow_succ hown'; obtain ⟨hv1,hv2,hr2,hk2,hb2⟩:=hv.appended (by decide) hrow hB.size (Nat.le_refl _) hown' hgrow; have hc1:=hv1.cell; have hf1:=hv1.frozen)
  exact ⟨hk2.from _,KpL.of_below hL hb2,⟨_,hv2,by simpa using hr2,by simp⟩,hB.trans hb2⟩
 case done=>
  rintro D ys W hD rfl ⟨⟨v,hv,hrow,hnil⟩,hB⟩ hK
  have hc:=hv.cell
  gi_wp2
  refine ⟨by simp, .inl ⟨_,_,rfl,run_takeDeferred hK,?_⟩⟩
  exact ⟨_,results_tmp rfl _ _ _,v,rfl,ownsRow_putObj hrow _ hK rfl,hnil,hB.trans (belowK_b (w:=w) (Nat.le_refl _) W D _ _ (by simp at hD; omega) hK rfl rfl)⟩
 case stop=>
  rintro D c pre W _ _ h _
  exact h.elim
set_option maxHeartbeats 2000000 in
theorem QR (n:Nat) (hn:4≤n) (g:Nat) (lb:Array Value) (eg: ∀args w,(callFunc g args).run Tryz.prog w= .ok (.enter g args) w) (L:List Nat) (xs:List Int) (Sp:List Int→Prop) (hlen:xs.length≤1000000) (w:World) (hL: ∀b ∈ L,b<w.heap.size)
 (hseq:SeqStopsK Fence.wide (n - 1 - 1) Tryz.prog g lb Uo (KpL L) (fun ys=>ys=xs) Sp xs.length w):
 CallsIn Fence.wide n Tryz.prog 113 #[.func (.func g) #[] lb] w fun e W'=> ∃v,e= .returned v∧W'.ownsRow w.heap.size 3 1 v xs.length (xs.map (Value.int .i64))∧(v= .slice none 0 0 ↔ xs= [])∧Below w.heap.size w W':=by
 refine callsIn_of_wp Tryz.func113 rfl trivial ?_ rfl
 simp only [Tryz.ntmps113,List.size_toArray,List.length_cons,List.length_nil,Nat.reduceAdd,Nat.reduceSub,Array.replicate_succ,Array.replicate_zero,List.push_toArray,List.append_toArray,List.nil_append,List.cons_append]
 gi_wp2
 refine ⟨trivial,fun _=>by omega,(OM (n - 1) (by omega) g lb eg L xs Sp hlen w hL hseq).mono ?_⟩
 rintro e W' ⟨v,rfl,h1,h2,h3⟩
 gi_wp2
 go_ret
 exact ⟨v,rfl,h1,h2,h3⟩
attribute [local go_sem] Oper.semAt_some
set_option maxRecDepth 100000
theorem St.ofOwns {α:Type} {φ:AC} {Γ:List Chk} {w W':World} {e:TypeId} {r:Ro α} {v:Value} {l:List α} {vs:List Value} (H:St φ Γ w.heap) (hB:Below w.heap.size w W') (ho:W'.ownsRow w.heap.size e 1 v l.length vs) (ha:r.All φ vs l) (hsz:r.sz=1):
 ∃t:Slc,v= .slice t.1 t.2.1 t.2.2∧St φ (⟨Rep.row e r, [.slice t.1 t.2.1 t.2.2],l⟩::Γ) W'.heap:=by
 have hs:=H.sub
 have hs':Sub φ (BN W'.heap):=fun k o hk=>by
  have h1:=hs k o hk
  have:=Au h1
  show W'.heap[k]? =some o
  rw [hB.block k this]; exact h1
 have H1:StX φ w.heap Γ fun k=>w.heap.size≤k:=StX.more H fun k hk=> .inl hk
 have H2:StX φ W'.heap Γ fun k=>w.heap.size≤k:=StX.heap H1 (fun k hk _=>hB.block k hk) hs'
 obtain ⟨hl,⟨rfl,hn⟩ | ⟨g,cap,cur,rfl,hg,hcur,hc1,hc2,hc3,hc4⟩⟩:=ho
 ·have:l= [] :=List.eq_nil_of_length_eq_zero hn
  subst this
  exact ⟨(none,0,0),rfl,St.nil _ _ (H2.less fun k hk=>hk.elim)⟩
 ·refine ⟨(some ⟨g,0,none⟩,l.length,cap),rfl,fun k=>k=g,⟨some ⟨g,0,none⟩,l.length,cap,vs,rfl,rfl,hc2,?_, .inr ⟨g,0,cur,rfl,hcur,?_,hc1,?_,fun i u hu=> ?_⟩,ha,fun i=>by simp [blk]⟩,fun k hk=>⟨?_,fun q=>q⟩,H2.less fun k hk=> ?_⟩
  ·intro b off s q
   cases q
   exact ⟨rfl,fun arr ty f harr=>by rw [hcur] at harr; cases harr; rw [hsz]; exact hc3⟩
  ·rw [hsz]; omega
  ·rw [hsz]; omega
  ·rw [← hc4,List.getElem?_take] at hu
   split at hu
   ·rw [Nat.zero_add]; simpa using hu
   ·cases hu
  ·subst hk
   cases hφ:φ k with
   | none=>rfl
   | some o=>have:=Au (hs k o hφ); omega
  ·rcases hk with hk | hk
   ·exact hk.elim
   ·subst hk; exact hg
set_option maxHeartbeats 1000000 in
theorem ON (n:Nat) (l bx:Nat) (p:Option Addr) (cap:Nat) (J:List Int→World→Prop) (W:World) (hbx:W.cell? ⟨bx,0,none⟩=some (.slice p 0 cap)) (h0:J [] W):
 CallsIn Fence.wide n Tryz.prog 149 #[.func (.yield l) #[] #[], .pointer (some ⟨bx,0,none⟩)] W fun e W'=>(∃v,e= .returned v)∧J [] W':=by
 refine callsIn_of_wp Tryz.func149 rfl trivial ?_ rfl
 simp only [Tryz.ntmps149,List.size_toArray,List.length_cons,List.length_nil,Nat.reduceAdd,Nat.reduceSub,Array.replicate_succ,Array.replicate_zero,List.push_toArray,List.append_toArray,List.nil_append,List.cons_append]
 gi_wp2
 gi_loopw [7] (fun i wr=>i= .int .i64 0∧J [] wr) (fun _ _=>0)
 case atStart=>exact ⟨rfl,h0⟩
 case round=>
  obtain ⟨rfl,hJs⟩:=hrel
  gi_wp2
  go_end0
  exact ⟨⟨_,rfl⟩,hJs⟩
theorem Mg (n:Nat) (hn:3≤n) {w:World} {bx:Nat} {t:Slc} {l:List Int} (gk:Glob (BN w.heap)) (hws: ∀x ∈ l,0≤x∧x<18446744073709551616) (hlen:l.length≤1000)
 (hbx:w.cell? ⟨bx,0,none⟩=some (.slice t.1 t.2.1 t.2.2)) (hl:l.length=t.2.1) (hc:BD w.heap t.1 (l.map (BW.int .u64).val)) (hpl: ∀a,t.1=some a→a.spot=none) (hlt:bx<w.heap.size) (hg0:0<w.heap.size):
 ∃L:List Nat,(∀b ∈ L,b<w.heap.size∧(b=bx∨b=0∨ ∃a,t.1=some a∧b=a.block))∧SeqStopsK Fence.wide n Tryz.prog 149 #[.pointer (some ⟨bx,0,none⟩)] Uo (KpL L) (fun ys=>ys=DM (l.map Int.toNat) l.length) (fun pre=>pre<+:DM (l.map Int.toNat) l.length) (DM (l.map Int.toNat) l.length).length w:=by
 cases l with
 | nil=>
  refine ⟨[],(fun b hb=>by cases hb),fun q J Jx W hW hJ hJx hY h0=> ?_⟩
  have h1:=(hW.cell (p:=⟨bx,0,none⟩) hlt).trans hbx
  have hz:t.2.1=0:=hl.symm
  rw [hz] at h1
  exact (ON n q bx t.1 t.2.2 J W h1 h0).mono fun e W' ⟨he,hj⟩=>⟨he, .inl ⟨[],rfl,hj⟩⟩
 | cons x l=>
  obtain ⟨a,ha,_⟩:=hc 0 ((BW.int .u64).val x) rfl
  obtain ⟨ba,off,sp⟩:=a
  have:sp=none:=hpl _ ha
  subst this
  have hcell: ∀j v,(((x::l).map (BW.int .u64).val))[j]? =some v→w.cell? ⟨ba,off+j,none⟩=some v:=fun j v hv=>by
   obtain ⟨a',ha',hc'⟩:=hc j v hv
   rw [ha] at ha'
   cases ha'
   rw [Dp] at hc'
   exact hc'
  have hba:ba<w.heap.size:=by
   have:=hcell 0 _ rfl
   unfold World.cell? at this
   dsimp only at this
   cases ho:w.heap[ba]? with
   | none=>rw [ho] at this; cases this
   | some o=>exact Au ho
  refine ⟨[bx,ba,0],fun b hb=> ?_,fun q J Jx W hW hJ hJx hY h0=> ?_⟩
  ·simp only [List.mem_cons,List.not_mem_nil,or_false] at hb
   rcases hb with rfl | rfl | rfl
   ·exact ⟨hlt, .inl rfl⟩
   ·exact ⟨hba, .inr (.inr ⟨_,ha,rfl⟩)⟩
   ·exact ⟨hg0, .inr (.inl rfl)⟩
  ·have h1:=(hW.cell (p:=⟨bx,0,none⟩) hlt).trans hbx
   have hn':((x::l).map Int.toNat).length=t.2.1:=by rw [List.length_map]; exact hl
   have hl1:((x::l).map Int.toNat).length=(x::l).length:=List.length_map _
   have h2:=TL n hn q bx ba off t.2.2 ((x::l).map Int.toNat) (fun u hu=>by
    obtain ⟨y,hy,rfl⟩:=List.mem_map.1 hu
    have:=hws y hy
    omega) (by rw [hl1]; exact hlen) J Jx W (KpL.glob (L:= [0]) (KpL.of_below (fun b hb=>by simp at hb; omega) hW) (by simp) gk) hJ (by rw [hl1]; exact hY) (by rw [hn',← ha]; exact h1) (fun j hj=>by
    rw [hl1] at hj
    have hv:((x::l).map (BW.int .u64).val)[j]? =some (.int .u64 (x::l)[j]):=by
     rw [List.getElem?_map,List.getElem?_eq_getElem hj]
     rfl
    have h3:=(hW.cell (p:=⟨ba,off+j,none⟩) hba).trans (hcell j _ hv)
    have h4:=hws _ (List.getElem_mem hj)
    have h5:((((x::l).map Int.toNat)[j]?.getD 0:Nat):Int)=(x::l)[j] :=by
     rw [List.getElem?_map,List.getElem?_eq_getElem hj]
     show (((x::l)[j].toNat:Nat):Int)=_
     omega
    rw [h5]
    exact h3) h0
   rw [hl1] at h2
   exact h2
def IG (s:AW):Option (List Int):=if s.2.length≤1000∧ ∀x ∈ s.2,0≤x∧x<18446744073709551616 then some (DM (s.2.map Int.toNat) s.2.length) else none
theorem R5 (w:Nat):(FL w).length≤64:=by
 unfold FL
 have:=List.length_filter_le w.testBit (List.range 64)
 simpa using this
theorem Nc (ws:List Nat) (k:Nat):(DM ws k).length≤64 * k:=by
 induction k with
 | zero=>exact Nat.le_refl _
 | succ k ih=>
  rw [GI,List.length_append,List.length_map]
  have:=R5 (ws[k]?.getD 0)
  omega
abbrev BR (p:Option Addr) (x:AW):Chk:=⟨Rep.obj 239 (Rep.prod (Rep.ro (Ro.int .i64)) (Rep.row 237 (Ro.int .u64))), [.pointer p],x⟩
theorem PI {φ:AC} {h:AH} {F:List Chk} {p:Option Addr} {s:AW} (s0:St φ (BR p s::F) h) (hb:s.2.length≤1073741824):CallsH Tryz.prog 114 [.pointer p] h
 (Ar fun v h'=> ∃ψ:AC,∃r:Nat,∃y:Slc,Sub φ ψ∧v= .func (.func 149) #[] #[.pointer (some ⟨r,0,none⟩)] ∧St ψ (⟨Rep.raw 235, [.pointer (some ⟨r,0,none⟩)], [.slice y.1 y.2.1 y.2.2]⟩::⟨Rep.row 237 (Ro.int .u64), [.slice y.1 y.2.1 y.2.2],s.2⟩::BR p s::F) h'):=by
 refine AR mixed Tryz.func114 ?_
 rw [Js]
 unfold Ge
 obtain ⟨b2,vs3,e4,hl5,s6⟩:=s0.open
 obtain rfl:p=some ⟨b2,0,none⟩:=by simpa using e4
 clear e4
 have s7:=s6.at1
 obtain ⟨v8,w9,rfl,hl11,s10⟩:=s7.pair
 obtain ⟨g12,s13⟩:=s10.ro
 subst g12
 obtain ⟨t15,e16⟩:=s13.rowCs
 subst e16
 have s18:St φ (⟨Rep.row 237 (Ro.int .u64), [.slice t15.1 t15.2.1 t15.2.2],s.2⟩::⟨Rep.raw 239, [.pointer (some ⟨b2,0,none⟩)], [.int .i64 s.1, .slice t15.1 t15.2.1 t15.2.2]⟩::F) _:=s13
 refine AF _ rfl ?_
 refine AA (b:=b2) (j:=1) (x:=t15) s18.at1 rfl ?_
 refine AI (clone53_own s18 (r:=s.2) (by unfold cloneD; rw [if_pos hb])) ?_
 rintro _ h1 ⟨ψ,y,l1,le1,rfl,rfl,s23⟩
 refine ⟨y,rfl,?_⟩
 refine AY (vs:= [.slice none 0 0]) s23 ?_
 intro r h2 s27
 refine CP (b:=r) (j:=0) (v:= .slice y.1 y.2.1 y.2.2) s27 rfl (by decide) ?_
 intro h3 s28
 have s34:=s28.at 2
 have s36:=St.unro (r:=(Ro.int .i64)) (cs:= [.int .i64 s.1]) (x:=s.1) s34 rfl
 have s37:=St.unpair s36
 have s38:St ψ (BR (some ⟨b2,0,none⟩) (s.1,s.2)::⟨Rep.raw 235, [.pointer (some ⟨r,0,none⟩)], [.slice y.1 y.2.1 y.2.2]⟩::⟨Rep.row 237 (Ro.int .u64), [.slice y.1 y.2.1 y.2.2],s.2⟩::F) h3:=St.shut (s37.at 3)
 exact AB ⟨ψ,r,y,le1,rfl,(s38.at 2).at 2⟩
theorem PJ {φ:AC} {h:AH} {F:List Chk} {k:IntKind} {ty:TypeId} {t:Slc} {l:List Int} (s:St φ (⟨Rep.row ty (Ro.int k), [.slice t.1 t.2.1 t.2.2],l⟩::F) h): ∀a,t.1=some a→a.spot=none:=by
 intro a ha
 obtain ⟨F,⟨p,n,c,vs,e,hn,hc,hfu,ho,hall,hF⟩,h2,H⟩:=s
 simp only [List.cons.injEq,Value.slice.injEq,and_true] at e
 rw [ha] at e
 rcases ho with ⟨hp,_⟩ | ⟨b,off,arr,hp,_⟩
 ·rw [hp] at e; cases e.1
 ·rw [hp] at e; cases e.1; rfl
theorem TM {φ:AC} {h:AH} {F:List Chk} {p:Option Addr} {s:AW} (gk:Glob φ) (s0:St φ (BR p s::F) h) {r:List Int} (hd:IG s=some r):CallsH Tryz.prog 70 [.pointer p] h
 (Ar fun v h'=> ∃ψ:AC,∃y:Slc,∃l1:List Int,Sub φ ψ∧v=((.one aS):Sh).val y∧l1=r∧St ψ (⟨Rep.row 3 (Ro.int .i64), [.slice y.1 y.2.1 y.2.2],l1⟩::BR p s::F) h'):=by
 unfold IG at hd
 split at hd
 ·rename_i hg
  cases hd
  obtain ⟨hlen,hws⟩:=hg
  refine AR mixed Tryz.func70 ?_
  rw [Jr]
  unfold Gd
  refine AI (PI s0 (by omega)) ?_
  rintro _ h1 ⟨ψ,bx,y,le1,rfl,s1⟩
  refine ⟨some (.func 149,#[],#[.pointer (some ⟨bx,0,none⟩)]),rfl,?_⟩
  have gk1:=(gk.mono le1).mono s1.sub
  have hbox:BH h1 ⟨bx,0,none⟩=some (.slice y.1 y.2.1 y.2.2):=s1.cell rfl
  have hlt:bx<h1.size:=by
   unfold BH DG World.cell? at hbox
   dsimp only at hbox
   cases ho:h1[bx]? with
   | none=>rw [ho] at hbox; cases hbox
   | some o=>exact Au ho
  have hg0:0<h1.size:=by
   obtain ⟨t,f,hg⟩:=gk1
   exact Au hg
  have hcol:CallsH Tryz.prog 113 [.func (.func 149) #[] #[.pointer (some ⟨bx,0,none⟩)]] h1 (Ar fun v h'=> ∃t:Slc,v=((.one aS):Sh).val t∧
   St ψ (⟨Rep.row 3 (Ro.int .i64), [.slice t.1 t.2.1 t.2.2],DM (s.2.map Int.toNat) s.2.length⟩::⟨Rep.raw 235, [.pointer (some ⟨bx,0,none⟩)], [.slice y.1 y.2.1 y.2.2]⟩::⟨Rep.row 237 (Ro.int .u64), [.slice y.1 y.2.1 y.2.2],s.2⟩::BR p s::F) h'):=by
   intro w hw
   subst hw
   obtain ⟨L,hL,hseq⟩:=Mg 8 (by decide) gk1 hws hlen hbox (s1.at 1).rowLen.symm (LU (s1.at 1)) (PJ (s1.at 1)) hlt hg0
   have hbl:=Nc (s.2.map Int.toNat) s.2.length
   have hc:=callsIn_wide.1 (QR 10 (by decide) 149 #[.pointer (some ⟨bx,0,none⟩)] (enters_of Tryz.func149 (by kernel_rfl) rfl) L (DM (s.2.map Int.toNat) s.2.length) _ (by omega) w (fun b hb=>(hL b hb).1) hseq)
   refine hc.mono ?_
   rintro e W' ⟨v,rfl,hown,_,hB⟩
   obtain ⟨t,hv,s2⟩:=St.ofOwns s1 hB hown (Ec (k:= .i64) _) rfl
   exact ⟨⟨hB.os,hB.tape,hB.output,hB.size⟩,v,rfl,t,hv,s2⟩
  refine AI hcol ?_
  rintro _ h2 ⟨t,rfl,s2⟩
  refine ⟨t,rfl,?_⟩
  have s3:=(s2.at 1).tail
  have s4:=(s3.at 1).tail
  exact AB ⟨ψ,t,_,le1,rfl,rfl,s4⟩
 ·cases hd
end Go.Proofs.YteolcjbobmpdiaaGreatDoor.Dg
namespace Go.Proofs.YteolcjbobmpdiaaGreatDoor.Dg
open Go Go.Eng
set_option linter.unusedVariables false
def OO (c:Chk):Prop:=(∀φ φ' h F,c.on φ h F→c.on φ' h F)∧ ∀φ h F,c.on φ h F→ ∀k,F k→ ∃cs ty f,h[k]? =some (.cells cs ty f)
theorem PK (ty:TypeId) (b:Nat) (vs:List Value):OO ⟨Rep.raw ty, [.pointer (some ⟨b,0,none⟩)],vs⟩:=by
 refine ⟨fun φ φ' h F H=>H,fun φ h F H k hk=> ?_⟩
 obtain ⟨b',e,hb,hF⟩:=H
 have hkb:=(hF k).1 hk
 subst hkb
 exact ⟨_,_,_,hb⟩
theorem Up {k:IntKind} {φ φ':AC} {vs:List Value} {l:List Int} (h:(Ro.int k).All φ vs l):(Ro.int k).All φ' vs l:=by
 rw [Ck h]
 exact Ec l
theorem R6 (p:Option Addr) (s:AW):OO (BR p s):=by
 constructor
 ·rintro φ φ' h F ⟨b,vs,G,e,hb,⟨a,c,A,B,e2,ha,hc,g1,g2⟩,hG,hF⟩
  refine ⟨b,vs,G,e,hb,⟨a,c,A,B,e2,ha,?_,g1,g2⟩,hG,hF⟩
  obtain ⟨q,n,cp,us,e3,h1,h2,h3,h4,h5,h6⟩:=hc
  exact ⟨q,n,cp,us,e3,h1,h2,h3,h4,Up h5,h6⟩
 ·rintro φ h F ⟨b,vs,G,e,hb,⟨a,c,A,B,e2,ha,hc,g1,g2⟩,hG,hF⟩ k hk
  rcases (hF k).1 hk with rfl | hk
  ·exact ⟨_,_,_,hb⟩
  ·rcases (g2 k).1 hk with hk | hk
   ·exact absurd hk (ha.1 k)
   ·obtain ⟨q,n,cp,us,e3,h1,h2,h3,h4,h5,h6⟩:=hc
    obtain ⟨arr,harr⟩:=h4.ty k ((h6 k).1 hk)
    exact ⟨_,_,_,harr⟩
theorem StX.frame {ψ:AC} {h:AH} : ∀ {Γ Δ:List Chk} {X:EA},StX ψ h (Γ++Δ) X→ ∃Y:EA,(∀k,Y k→ψ k=none∧ ¬X k∧k<h.size)∧StX ψ h Δ (fun k=>X k∨Y k)∧
 ∀Δ' (h':AH),Sub ψ (BN h')→(∀k,Y k→h'[k]? =h[k]?)→StX ψ h' Δ' (fun k=>X k∨Y k)→StX ψ h' (Γ++Δ') X:=by
 intro Γ
 induction Γ with
 | nil=>intro Δ X H; exact ⟨fun _=>False,fun k hk=>hk.elim,H.less fun k hk=>hk.elim id False.elim,fun Δ' h' _ _ H'=>H'.less fun k hk=> .inl hk⟩
 | cons c Γ ih=>
  intro Δ X ⟨F,h1,h2,H⟩
  obtain ⟨Y,y1,y2,y3⟩:=ih H
  refine ⟨fun k=>F k∨Y k,fun k hk=> ?_,y2.less fun k hk=> ?_,fun Δ' h' hs hy H'=>⟨F,c.R.loc (fun i hi=>hy i (.inl hi)) h1,h2,y3 Δ' h' hs (fun k hk=>hy k (.inr hk)) (H'.less fun k hk=> ?_)⟩⟩
  ·rcases hk with hk | hk
   ·exact ⟨(h2 k hk).1,(h2 k hk).2,c.R.lt h1 k hk⟩
   ·exact ⟨(y1 k hk).1,fun g=>(y1 k hk).2.1 (.inl g),(y1 k hk).2.2⟩
  ·rcases hk with hk | hk | hk
   ·exact .inl (.inl hk)
   ·exact .inl (.inr hk)
   ·exact .inr hk
  ·rcases hk with (hk | hk) | hk
   ·exact .inl hk
   ·exact .inr (.inl hk)
   ·exact .inr (.inr hk)
theorem StX.alone {ψ:AC} {h:AH} : ∀ {Δ:List Chk} {X:EA},(∀c ∈ Δ,OO c)→StX ψ h Δ X→ ∃Z:EA,(∀k,Z k→ψ k=none∧ ¬X k)∧(∀k,Z k→ ∃cs ty f,h[k]? =some (.cells cs ty f))∧ ∀(φ0:AC) (X0:EA),(∀k,Z k→φ0 k=none∧ ¬X0 k)→Sub φ0 (BN h)→StX φ0 h Δ X0:=by
 intro Δ
 induction Δ with
 | nil=>intro X _ H; exact ⟨fun _=>False,fun k hk=>hk.elim,fun k hk=>hk.elim,fun φ0 X0 _ hs=>hs⟩
 | cons c Δ ih=>
  intro X hf ⟨F,h1,h2,H⟩
  obtain ⟨Z,z1,z3,z2⟩:=ih (fun c hc=>hf c (by simp [hc])) H
  refine ⟨fun k=>F k∨Z k,fun k hk=> ?_,fun k hk=>hk.elim (fun g=>(hf c (by simp)).2 _ _ _ h1 k g) (z3 k),fun φ0 X0 hz hs=>⟨F,(hf c (by simp)).1 _ _ _ _ h1,fun k hk=>hz k (.inl hk),z2 φ0 _ (fun k hk=>⟨(hz k (.inr hk)).1,fun g=> ?_⟩) hs⟩⟩
  ·rcases hk with hk | hk
   ·exact h2 k hk
   ·exact ⟨(z1 k hk).1,fun g=>(z1 k hk).2 (.inl g)⟩
  ·rcases g with g | g
   ·exact (hz k (.inr hk)).2 g
   ·exact (z1 k hk).2 (.inr g)
theorem St.apart {ψ:AC} {h:AH} {Γ Δ:List Chk} (H:St ψ (Γ++Δ) h) (hf: ∀c ∈ Δ,OO c): ∃φ0:AC,(∀k,φ0 k ≠ none→k<h.size)∧St φ0 Δ h∧Sub ψ φ0∧(∀k o,h[k]? =some o→φ0 k=some o∨ ∃cs ty f,o= .cells cs ty f)∧
 ∀Δ' (h':AH),(∀c ∈ Δ',OO c)→St φ0 Δ' h'→St ψ (Γ++Δ') h':=by
 classical
 have hs:Sub ψ (BN h):=H.sub
 obtain ⟨Y,y1,y2,y3⟩:=StX.frame H
 obtain ⟨Z,z1,z3,z2⟩:=StX.alone hf y2
 have hdef: ∀k,¬Z k→(fun k=>if Z k then none else h[k]? :AC) k=h[k]? :=fun k hk=>if_neg hk
 refine ⟨fun k=>if Z k then none else h[k]?,fun k hk=> ?_,z2 _ _ (fun k hk=>⟨if_pos hk,fun g=>g⟩) (fun k o ho=> ?_),fun k o ho=> ?_,fun k o ho=> ?_,fun Δ' h' hf' H'=> ?_⟩
 ·rcases Nat.lt_or_ge k h.size with g | g
  ·exact g
  ·exfalso; apply hk
   show (if Z k then none else h[k]?)=none
   split
   ·rfl
   ·exact Array.getElem?_eq_none g
 ·have ho:(if Z k then none else h[k]?)=some o:=ho
  split at ho
  ·cases ho
  ·exact ho
 ·show (if Z k then none else h[k]?)=some o
  rw [if_neg]
  ·exact hs k o ho
  ·intro hz; rw [(z1 k hz).1] at ho; cases ho
 ·by_cases hz:Z k
  ·obtain ⟨cs,ty,f,e⟩:=z3 k hz
   rw [ho] at e
   exact .inr ⟨cs,ty,f,Option.some.inj e⟩
  ·exact .inl (by show (if Z k then none else h[k]?)=some o; rw [if_neg hz]; exact ho)
 ·obtain ⟨Z',w1,_,w2⟩:=StX.alone hf' H'
  have hs':=H'.sub
  have hno: ∀k,Z' k→ψ k=none∧ ¬Y k:=fun k hk=>by
   have h0:(if Z k then none else h[k]?)=none:=(w1 k hk).1
   split at h0
   ·rename_i hz
    exact ⟨(z1 k hz).1,fun g=>(z1 k hz).2 (.inr g)⟩
   ·constructor
    ·cases hψ:ψ k with
     | none=>rfl
     | some o=>have:=hs k o hψ; rw [show BN h k=h[k]? from rfl,h0] at this; cases this
    ·intro g
     have:=(y1 k g).2.2
     rw [Array.getElem?_eq_getElem this] at h0
     cases h0
  have hsψ:Sub ψ (BN h'):=fun k o ho=>hs' k o (by
   show (if Z k then none else h[k]?)=some o
   rw [if_neg]
   ·exact hs k o ho
   ·intro hz; rw [(z1 k hz).1] at ho; cases ho)
  refine y3 Δ' h' hsψ (fun k hk=> ?_) (w2 ψ _ (fun k hk=>⟨(hno k hk).1,fun g=>g.elim id (hno k hk).2⟩) hsψ)
  have hlt:=(y1 k hk).2.2
  have:(if Z k then none else h[k]?)=some h[k] :=by
   rw [if_neg]
   ·exact Array.getElem?_eq_getElem hlt
   ·intro hz; exact (z1 k hz).2 (.inr hk)
  rw [show h'[k]? =some h[k] from hs' k _ this,Array.getElem?_eq_getElem hlt]
theorem St.abide {φ0:AC} {h h':AH} : ∀ {Δ:List Chk} {X:EA},(∀c ∈ Δ,OO c)→StX φ0 h Δ X→(∀k,k<h.size→(∃cs ty f,h[k]? =some (.cells cs ty f))→h'[k]? =h[k]?)→Sub φ0 (BN h')→StX φ0 h' Δ X:=by
 intro Δ
 induction Δ with
 | nil=>intro X _ _ _ hs; exact hs
 | cons c Δ ih=>
  intro X hf ⟨F,h1,h2,H⟩ hk hs
  exact ⟨F,c.R.loc (fun i hi=>hk i (c.R.lt h1 i hi) ((hf c (by simp)).2 _ _ _ h1 i hi)) h1,h2,ih (fun c hc=>hf c (by simp [hc])) H hk hs⟩
theorem St.back {φ ψ:AC} {h:AH} {Δ:List Chk} (hf: ∀c ∈ Δ,OO c) (le:Sub φ ψ) (H:St ψ Δ h):St φ Δ h:=by
 obtain ⟨Z,z1,_,z2⟩:=StX.alone hf H
 have hn: ∀k,Z k→φ k=none:=fun k hk=>by
  cases hφ:φ k with
  | none=>rfl
  | some o=>have:=le k o hφ; rw [(z1 k hk).1] at this; cases this
 exact z2 φ _ (fun k hk=>⟨hn k hk,fun g=>g⟩) fun k o ho=>H.sub k o (le k o ho)
theorem St.hide {φ:AC} {h:AH} {c:Chk} {Γ:List Chk} (H:St φ (c::Γ) h): ∃(ψ:AC) (F:EA),Sub φ ψ∧c.on φ h F∧(∀k,F k→ψ k=h[k]?)∧St ψ Γ h:=by
 classical
 obtain ⟨F,h1,h2,H⟩:=H
 have hs:=H.sub
 have le:Sub φ (fun i=>if F i then h[i]? else φ i):=fun i o ho=>by
  show (if F i then h[i]? else φ i)=some o
  rw [if_neg]
  ·exact ho
  ·intro hF; have e:=(h2 i hF).1; rw [e] at ho; cases ho
 refine ⟨fun i=>if F i then h[i]? else φ i,F,le,h1,fun i hi=>if_pos hi,?_⟩
 refine StX.less (StX.grow H le (fun i o ho=> ?_) fun k hk hn=> ?_) fun k hk=>hk.elim
 ·split at ho
  ·exact ho
  ·exact hs i o ho
 ·split at hk
  ·exact .inr (by assumption)
  ·exact absurd hn hk
theorem V7 {φ:AC} {h:AH} {p:Option Addr} {s:AW} {F:List Chk} (H:St φ (BR p s::F) h): ∃b,p=some ⟨b,0,none⟩∧BH h ⟨b,0,none⟩=some (.int .i64 s.1):=by
 obtain ⟨b,vs,e,hl,s1⟩:=St.open H
 obtain ⟨c,d,rfl,hc,s2⟩:=St.pair (s1.at1)
 obtain ⟨hr,_⟩:=St.ro s2
 cases hr
 refine ⟨b,by cases e; rfl,s1.cell rfl⟩
end Go.Proofs.YteolcjbobmpdiaaGreatDoor.Dg
namespace Go.Proofs.YteolcjbobmpdiaaGreatDoor.Dg
open Go Go.Eng Go.RowKit Go.Shelf
set_option linter.unusedVariables false
attribute [local go_sem] Oper.semAt_some
set_option maxRecDepth 100000
noncomputable def HL (a:AW×Bool) (i:Int):AW×Bool:=if a.2 then a else if a.1.1≤i then (a.1,true) else (((Aq a.1 i).getD (false,a.1)).2,false)
noncomputable def Wj (s:AW) (l:List Int):AW×Bool:=l.foldl HL (s,false)
def DN (s:AW):List Int:=DM (s.2.map Int.toNat) s.2.length
noncomputable def BB (s o:AW):AW:=(Wj s (DN o)).1
noncomputable def stepG (a:AW×Bool×Bool) (i:Int):AW×Bool×Bool:=if a.2.1 then a else if a.1.1≤i then (a.1,true,a.2.2) else (((Aq a.1 i).getD (false,a.1)).2,false,((Aq a.1 i).getD (false,a.1)).1 || a.2.2)
noncomputable def IT (s:AW) (l:List Int):AW×Bool×Bool:=l.foldl stepG (s,false,false)
noncomputable def Ee (s o:AW):Bool:=(IT s (DN o)).2.2
theorem Nd (s:AW) (l:List Int) (i:Int):IT s (l++ [i])=stepG (IT s l) i:=by simp [IT]
theorem Uq (l:List Int): ∀(a:AW×Bool×Bool),((l.foldl stepG a).1,(l.foldl stepG a).2.1)=l.foldl HL (a.1,a.2.1):=by
 induction l with
 | nil=>intro a; rfl
 | cons i l ih=>
  intro a
  rw [List.foldl_cons,List.foldl_cons,ih]
  congr 1
  unfold stepG HL
  dsimp only
  by_cases h:a.2.1=true
  ·rw [if_pos h,if_pos h]
  ·rw [if_neg h,if_neg h]
   by_cases h2:a.1.1≤i
   ·rw [if_pos h2,if_pos h2]
   ·rw [if_neg h2,if_neg h2]
theorem V8 (s:AW) (l:List Int):((IT s l).1,(IT s l).2.1)=Wj s l:=Uq l (s,false,false)
theorem TN (l:List Int) {a:AW×Bool×Bool} (h:a.2.1=true):l.foldl stepG a=a:=by
 induction l with
 | nil=>rfl
 | cons i l ih=>
  rw [List.foldl_cons]
  have:stepG a i=a:=if_pos h
  rw [this,ih]
theorem V9 {s:AW} {l pre:List Int} (hp:pre<+:l) (h:(IT s pre).2.1=true):IT s l=IT s pre:=by
 obtain ⟨r,rfl⟩:=hp
 unfold IT at h ⊢
 rw [List.foldl_append,TN r h]
theorem TO (s o:AW):(IT s (DN o)).1=BB s o:=(Prod.mk.inj (V8 s (DN o))).1
theorem WA (l:List Int) {a:AW×Bool} (h:a.2=true):l.foldl HL a=a:=by
 induction l with
 | nil=>rfl
 | cons i l ih=>
  rw [List.foldl_cons]
  have:HL a i=a:=if_pos h
  rw [this,ih]
abbrev Gk (bs bg:Nat) (p:Option Addr) (g:Bool) (s:AW):List Chk:= [⟨Rep.raw 139, [.pointer (some ⟨bs,0,none⟩)], [.pointer p]⟩,⟨Rep.raw 4, [.pointer (some ⟨bg,0,none⟩)], [.bool g]⟩,BR p s]
theorem C8 (bs bg:Nat) (p:Option Addr) (g:Bool) (s:AW): ∀c ∈ Gk bs bg p g s,OO c:=by
 intro c hc
 simp only [List.mem_cons,List.not_mem_nil,or_false] at hc
 rcases hc with rfl | rfl | rfl
 ·exact PK _ _ _
 ·exact PK _ _ _
 ·exact R6 _ _
theorem Jb {φ0:AC} {B:Nat} {W W':World} {row:Option Nat} {Δ:List Chk} (hB: ∀k,φ0 k ≠ none→k<B) (hf: ∀c ∈ Δ,OO c) (H:St φ0 Δ W.heap) (hg:W.grownBy W' row) (hr: ∀r,row=some r→B≤r∧ ∃o:Obj,W.heap[r]? =some o∧o.isCells=false):St φ0 Δ W'.heap:=by
 obtain ⟨_,_,_,hsz,hk⟩:=hg
 refine St.abide hf H (fun k hk' ⟨cs,ty,f,hc⟩=>hk k hk' fun e=> ?_) fun k o ho=> ?_
 ·obtain ⟨_,o,h1,h2⟩:=hr k e.symm
  rw [hc] at h1
  cases h1
  cases h2
 ·have h1:=H.sub k o ho
  have:=Au h1
  show W'.heap[k]? =some o
  rw [hk k this fun e=>by have:=hB k (by rw [ho]; simp); have:=(hr k e.symm).1; omega]
  exact h1
theorem WB {φ0:AC} {bs bg:Nat} {p:Option Addr} {g:Bool} {s:AW} {x:Int} {W:World} (H:OkS s) (h0:St φ0 (Gk bs bg p g s) W.heap):
 Calls Tryz.prog 134 #[.pointer p, .int .i64 x] W fun e W'=>Bn W W'∧W.heap.size≤W'.heap.size∧(∀(k:Nat) (o:Obj),W.heap[k]? =some o→o.isCells=false→W'.heap[k]? =some o)∧
  ∃y:Bool,e= .returned (.bool y)∧y=((Aq s x).getD (false,s)).1∧St φ0 (Gk bs bg p g ((Aq s x).getD (false,s)).2) W'.heap∧OkS ((Aq s x).getD (false,s)).2∧((Aq s x).getD (false,s)).2.1=s.1:=by
 obtain ⟨s',hd,h1,h2,_⟩:=add_ok H x
 rw [hd]
 obtain ⟨φ1,_,k2,k3,k4,k5⟩:=St.apart (Γ:= []) h0 (C8 bs bg p g s)
 have hc:=CD (k2.at 2) hd W rfl
 refine (show Calls Tryz.prog 134 #[.pointer p, .int .i64 x] W _ from hc).mono ?_
 rintro e W' ⟨hs,he⟩
 cases e with
 | returned v=>
  obtain ⟨v',hv,ψ,y,l,le,rfl,hr,s3⟩:=he
  cases hv
  obtain ⟨rfl,rfl⟩:=Prod.mk.inj hr
  refine ⟨hs,hs.size,fun k o hk ho=> ?_,_,rfl,rfl,?_,h1,h2⟩
  ·rcases k4 k o hk with g | ⟨cs,ty,f,rfl⟩
   ·exact s3.sub k o (le k o g)
   ·cases ho
  ·have s4:St ψ (Gk bs bg p g l) W'.heap:=(s3.at 2).at 2
   exact k5 _ _ (C8 _ _ _ _ _) (St.back (C8 _ _ _ _ _) le s4)
 | panicked c=>obtain ⟨v',hv,_⟩:=he; cases hv
 | outgrown=>exact he.elim
theorem Ur {φ:AC} {W:World} {F:List Chk} {q:Option Addr} {o:AW} (s0:St φ (BR q o::F) W.heap) (hb:o.2.length≤1073741824):
 Calls Tryz.prog 114 #[.pointer q] W fun e W'=>Bn W W'∧ ∃(ψ:AC) (r:Nat) (y:Slc),Sub φ ψ∧e= .returned (.func (.func 149) #[] #[.pointer (some ⟨r,0,none⟩)])∧
  St ψ (⟨Rep.raw 235, [.pointer (some ⟨r,0,none⟩)], [.slice y.1 y.2.1 y.2.2]⟩::⟨Rep.row 237 (Ro.int .u64), [.slice y.1 y.2.1 y.2.2],o.2⟩::BR q o::F) W'.heap:=by
 refine (show Calls Tryz.prog 114 #[.pointer q] W _ from PI s0 hb W rfl).mono ?_
 rintro e W' ⟨hs,he⟩
 cases e with
 | returned v=>
  obtain ⟨v',hv,ψ,r,y,h1,h2,h3⟩:=he
  cases hv
  exact ⟨hs,ψ,r,y,h1,by rw [h2],h3⟩
 | panicked c=>obtain ⟨v',hv,_⟩:=he; cases hv
 | outgrown=>exact he.elim
theorem L3 {h:AH} {b:Nat} {j:Nat} {v:Value} (hc:BH h ⟨b,j,none⟩=some v):b<h.size:=by
 unfold BH DG World.cell? at hc
 dsimp only at hc
 cases ho:h[b]? with
 | none=>rw [ho] at hc; cases hc
 | some o=>exact Au ho
theorem ready (n:Nat) (hn:3≤n) {ψ:AC} {W:World} {bx bs bg:Nat} {y:Slc} {p q:Option Addr} {s o:AW} {G G':List Chk} (gk:Glob ψ) (ho:OkS o) (hp:(BR p s::G).Perm (BR q o::G'))
 (s1:St ψ (⟨Rep.raw 235, [.pointer (some ⟨bx,0,none⟩)], [.slice y.1 y.2.1 y.2.2]⟩::⟨Rep.row 237 (Ro.int .u64), [.slice y.1 y.2.1 y.2.2],o.2⟩::BR q o::⟨Rep.raw 139, [.pointer (some ⟨bs,0,none⟩)], [.pointer p]⟩::⟨Rep.raw 4, [.pointer (some ⟨bg,0,none⟩)], [.bool false]⟩::G') W.heap):
 ∃(ψ2 φ0:AC) (L:List Nat),Sub ψ ψ2∧(∀k,φ0 k ≠ none→k<W.heap.size)∧(∀b ∈ L,φ0 b ≠ none)∧St φ0 (Gk bs bg p false s) W.heap∧
  SeqStopsK Fence.wide n Tryz.prog 149 #[.pointer (some ⟨bx,0,none⟩)] Uo (KpL L) (fun ys=>ys=DN o) (fun pre=>pre<+:DN o) (DN o).length W∧
  ∀s' g (h':AH),St φ0 (Gk bs bg p g s') h'→St ψ2 (BR p s'::G) h':=by
 have gk1:=gk.mono s1.sub
 have hbox:BH W.heap ⟨bx,0,none⟩=some (.slice y.1 y.2.1 y.2.2):=s1.cell rfl
 have hg0:0<W.heap.size:=by
  obtain ⟨t,f,hg⟩:=gk1
  exact Au hg
 have h1:=ho.len
 have h2:=ho.hi
 obtain ⟨L,hL,hseq⟩:=Mg n hn gk1 ho.word (by omega) hbox (s1.at 1).rowLen.symm (LU (s1.at 1)) (PJ (s1.at 1)) (L3 hbox) hg0
 obtain ⟨ψa,F1,le1,⟨b1,e1,hb1,hF1⟩,k1,s2⟩:=St.hide s1
 cases e1
 obtain ⟨ψb,F2,le2,hrow,k2,s3⟩:=St.hide s2
 have hpm:(BR q o::⟨Rep.raw 139, [.pointer (some ⟨bs,0,none⟩)], [.pointer p]⟩::⟨Rep.raw 4, [.pointer (some ⟨bg,0,none⟩)], [.bool false]⟩::G').Perm (G++Gk bs bg p false s):=by
  refine (Az 1 _).trans ?_
  refine (List.Perm.cons _ (Az 1 _)).trans ?_
  exact (List.Perm.cons _ (List.Perm.cons _ hp.symm)).trans (List.perm_append_comm (l₁:=Gk bs bg p false s) (l₂:=G))
 obtain ⟨φ0,d1,d2,d3,d4,d5⟩:=St.apart (s3.perm hpm) (C8 bs bg p false s)
 refine ⟨ψb,φ0,L,le1.trans le2,d1,fun b hb=> ?_,d2,hseq,fun s' g h' H=> ?_⟩
 ·have key: ∃ob,ψb b=some ob:=by
   rcases (hL b hb).2 with rfl | rfl | ⟨a,ha,rfl⟩
   ·exact ⟨_,le2 _ _ ((k1 b ((hF1 b).2 rfl)).trans hb1)⟩
   ·obtain ⟨t,f,hg⟩:=gk
    exact ⟨_,le2 _ _ (le1 _ _ hg)⟩
   ·obtain ⟨p',n',c',vs,e3,h3,h4,h5,h6,h7,h8⟩:=hrow
    simp only [List.cons.injEq,Value.slice.injEq,and_true] at e3
    have hlt:=(hL _ hb).1
    refine ⟨_,(k2 a.block ((h8 _).2 ?_)).trans (Array.getElem?_eq_getElem hlt)⟩
    rw [← e3.1,ha]
    simp [blk]
  obtain ⟨ob,hob⟩:=key
  rw [d3 _ _ hob]
  simp
 ·have H2:=d5 _ _ (C8 bs bg p g s') H
  have H3:St ψb (Gk bs bg p g s'++G) h':=H2.perm List.perm_append_comm
  exact H3.tail.tail
theorem Wk {φ0:AC} {L:List Nat} {A B:World} (hL: ∀b ∈ L,φ0 b ≠ none) (ha:Sub φ0 (BN A.heap)) (hb:Sub φ0 (BN B.heap)):KpL L A B:=fun b hb' o ho=>by
 cases hφ:φ0 b with
 | none=>exact absurd hφ (hL b hb')
 | some o'=>
  have h1:=ha b o' hφ
  have h2:=hb b o' hφ
  rw [show BN A.heap b=A.heap[b]? from rfl,ho] at h1
  cases h1
  exact h2
set_option maxHeartbeats 4000000 in
theorem TP {φ:AC} {w:World} {p q:Option Addr} {s o:AW} {G G':List Chk} (gk:Glob φ) (hs:OkS s) (ho:OkS o) (hp:(BR p s::G).Perm (BR q o::G')) (s0:St φ (BR p s::G) w.heap):
 Calls Tryz.prog 139 #[.pointer p, .pointer q] w fun e W'=>Bn w W'∧ ∃(ψ:AC),Sub φ ψ∧e= .returned (.bool (Ee s o))∧St ψ (BR p (BB s o)::G) W'.heap:=by
 refine (callsIn_wide (n:=12)).1 ?_
 refine callsIn_of_wp_marks Tryz.func139 rfl trivial ?_ rfl
 simp only [Tryz.ntmps139,List.size_toArray,List.length_cons,List.length_nil,Nat.reduceAdd,Nat.reduceSub,Array.replicate_succ,Array.replicate_zero,List.push_toArray,List.append_toArray,List.nil_append,List.cons_append]
 gi_wp2
 have hlen:o.2.length≤1000:=by have h1:=ho.len; have h2:=ho.hi; omega
 have sA:St φ (BR q o::⟨Rep.raw 139, [.pointer (some ⟨w.heap.size,0,none⟩)], [.pointer p]⟩::⟨Rep.raw 4, [.pointer (some ⟨w.heap.size+1,0,none⟩)], [.bool false]⟩::G') ((w.alloc (.cells #[.pointer p] 139)).alloc (.cells #[.bool false] 4)).heap:=by
  have h1:=St.new (ty:=139) [.pointer p] s0
  have h2:=St.new (ty:=4) [.bool false] h1
  rw [Array.size_push] at h2
  refine h2.perm ?_
  exact (List.Perm.swap _ _ _).trans ((List.Perm.cons _ (List.Perm.cons _ hp)).trans ((Az 2 _)))
 refine ⟨trivial,(callsIn_wide.2 (Ur sA (by omega))).mono ?_⟩
 rintro e W1 ⟨hsame1,ψ,bx,y,le1,rfl,s1⟩
 obtain ⟨ψ2,φ0,L,le2,hB,hL,hst0,hseq,hback⟩:=ready 11 (by decide) (gk.mono le1) ho hp s1
 have hsame0:Bn w W1:=Bn.trans (b:=(w.alloc (.cells #[.pointer p] 139)).alloc (.cells #[.bool false] 4)) ⟨rfl,rfl,rfl,by simp; omega⟩ hsame1
 have hfin: ∀(g:Bool) (s':AW) (W':World),Bn w W'→IT s (DN o)=(s',true,g)∨IT s (DN o)=(s',false,g)→St φ0 (Gk w.heap.size (w.heap.size+1) p g s') W'.heap→Bn w W'∧ ∃(ψ:AC),Sub φ ψ∧Ending.returned (Value.bool g)= .returned (.bool (Ee s o))∧St ψ (BR p (BB s o)::G) W'.heap:=by
  rintro g s' W' h1 h2' h2
  have e1:BB s o=s':=by rw [← TO]; rcases h2' with h | h<;>rw [h]
  have e2:Ee s o=g:=by unfold Ee; rcases h2' with h | h<;>rw [h]
  rw [e1,e2]
  exact ⟨h1,ψ2,le1.trans le2,rfl,hback _ _ _ h2⟩
 have hgrow: ∀ {A B:World} {row:Option Nat},Bn w A→A.grownBy B row→Bn w B:=fun h ⟨g1,g2,g3,g4,_⟩=>h.trans ⟨g1,g2,g3,g4⟩
 gi_wp2
 refine wpIn_rangeFunc_ownG rfl (by decide) (gf:=149) (lb:= #[.pointer (some ⟨bx,0,none⟩)]) rfl trivial (enters_of Tryz.func149 (by kernel_rfl) rfl) hseq (fun h k=>h.trans k)
  (fun W l o o' hl h h1 h2=>KpL.putObj (n₀:=W1.heap.size) (fun b hb=>hB b (hL b hb)) W l o o' hl h h1 h2) (Below.refl _ _) (fun _=>rfl)
  (fun pre W=>Bn w W∧ ∃(s':AW) (g:Bool),OkS s'∧IT s pre=(s',false,g)∧St φ0 (Gk w.heap.size (w.heap.size+1) p g s') W.heap)
  (fun c pre W=>c= .exit 0∧Bn w W∧ ∃(s':AW) (g:Bool),IT s pre=(s',true,g)∧St φ0 (Gk w.heap.size (w.heap.size+1) p g s') W.heap)
  (fun pre A B row ⟨h1,s',g,h2,h3,h4⟩ hg hr=>⟨hgrow h1 hg,s',g,h2,h3,Jb hB (C8 _ _ _ _ _) h4 hg hr⟩)
  (fun c pre A B row ⟨h0,h1,s',g,h2,h4⟩ hg hr=>⟨h0,hgrow h1 hg,s',g,h2,Jb hB (C8 _ _ _ _ _) h4 hg hr⟩)
  ⟨hsame0,s,false,hs,rfl,hst0⟩
  (fun x=> {tmps:= #[.pointer p, .pointer q, .pointer (some ⟨w.heap.size,0,none⟩),undef, .bool false, .pointer (some ⟨w.heap.size+1,0,none⟩), .int .i64 x, .pointer q, .func (.func 149) #[] #[.pointer (some ⟨bx,0,none⟩)], .int .i64 x,undef,undef,undef,undef,undef,undef,undef,undef,undef,undef,undef,undef,undef],defers:= [] }) ?assign ?body ?done ?stop
 case assign=>
  intro l x W K hK
  gi_wp2
  exact hK
 case body=>
  rintro l pre x W ⟨hsame,s',g,hok,hrun,hst⟩ hlt
  have hbox:W.cell? ⟨w.heap.size,0,none⟩=some (.pointer p):=hst.cell rfl
  obtain ⟨bp,rfl,hn⟩:=V7 (hst.at 2)
  have hn':W.cell? ⟨bp,0,none⟩=some (.int .i64 s'.1):=hn
  gi_wp2
  ·have hx:s'.1≤x:=by assumption
   have hr:IT s (pre++ [x])=(s',true,g):=by
    rw [Nd,hrun]
    unfold stepG
    rw [if_neg (by simp),if_pos hx]
   exact ⟨KeepsFrom.refl _ _,rfl,hsame,s',g,hr,hst⟩
  ·have hx: ¬s'.1≤x:=by omega
   refine ⟨trivial,(CallsIn.inRound l (callsIn_wide.2 (WB (x:=x) hok hst))).mono ?_⟩
   obtain ⟨s3,hs3⟩: ∃s3,((Aq s' x).getD (false,s')).2=s3:=⟨_,rfl⟩
   rw [hs3]
   rintro e W3 ⟨hsame3,hsz3,hk3,y,rfl,hy,hst3,hok3,hn3⟩
   have hr:IT s (pre++ [x])=(s3,false,y || g):=by
    rw [Nd,hrun]
    unfold stepG
    rw [if_neg (by simp),if_neg hx]
    dsimp only
    rw [hs3,← hy]
   have hg3:W3.cell? ⟨w.heap.size+1,0,none⟩=some (.bool g):=(hst3.at 1).cell rfl
   have hf3:W3.frozen? ⟨w.heap.size+1,0,none⟩=false:=(St.put (j:=0) (.bool true) (hst3.at 1) (Nat.lt_succ_self 0)).2.1
   have hend: ∀v:Bool,v=(y || g)→KeepsFrom W1.heap.size W (W3.setCell ⟨w.heap.size+1,0,none⟩ (.bool v))∧KpL L W (W3.setCell ⟨w.heap.size+1,0,none⟩ (.bool v))∧Bn w (W3.setCell ⟨w.heap.size+1,0,none⟩ (.bool v))∧ ∃(s':AW) (g:Bool),OkS s'∧IT s (pre++ [x])=(s',false,g)∧St φ0 (Gk w.heap.size (w.heap.size+1) (some ⟨bp,0,none⟩) g s') (W3.setCell ⟨w.heap.size+1,0,none⟩ (.bool v)).heap:=by
    intro v hv
    rw [← hv] at hr
    have h1:=(St.put (j:=0) (.bool v) (hst3.at 1) (Nat.lt_succ_self 0)).2.2
    have h2:St φ0 (Gk w.heap.size (w.heap.size+1) (some ⟨bp,0,none⟩) v s3) (W3.setCell ⟨w.heap.size+1,0,none⟩ (.bool v)).heap:=h1.at 1
    have h3:KeepsFrom W1.heap.size W W3:=⟨hsz3,fun k o _ hk ho=>hk3 k o hk ho⟩
    exact ⟨h3.trans ((KeepsOthers.setCell _ _ _).from _),Wk hL hst.sub h2.sub,(hsame.trans hsame3).trans (Bn.setCell _ _ _),s3,v,hok3,hr,h2⟩
   clear hy hr
   cases y
   all_goals gi_wp2
   all_goals exact hend _ rfl
 case done=>
  rintro D xs W hD rfl ⟨hsame,s',g,hok,hrun,hst⟩ hK
  have hg:W.cell? ⟨w.heap.size+1,0,none⟩=some (.bool g):=(hst.at 1).cell rfl
  gi_wp2
  refine ⟨by simp, .inl ⟨_,_,rfl,run_takeDeferred hK,?_⟩⟩
  refine ⟨_,results_tmp rfl _ _ _,hfin g s' _ (hgrow hsame (grownBy_putObj' W D _)) (.inr hrun) ?_⟩
  exact Jb hB (C8 _ _ _ _ _) hst (grownBy_putObj' W D _) (fun r e=>by cases e; exact ⟨hD,_,hK,rfl⟩)
 case stop=>
  rintro D c pre W hD hpre ⟨rfl,hsame,s',g,hrun,hst⟩ hK
  have hg:W.cell? ⟨w.heap.size+1,0,none⟩=some (.bool g):=(hst.at 1).cell rfl
  gi_wp2
  refine ⟨by simp, .inl ⟨_,_,rfl,run_takeDeferred hK,?_⟩⟩
  refine ⟨_,results_tmp rfl _ _ _,hfin g s' _ (hgrow hsame (grownBy_putObj' W D _)) (.inl ((V9 hpre (by rw [hrun])).trans hrun)) ?_⟩
  exact Jb hB (C8 _ _ _ _ _) hst (grownBy_putObj' W D _) (fun r e=>by cases e; exact ⟨hD,_,hK,rfl⟩)
theorem Hn {φ:AC} {h:AH} {p q:Option Addr} {s o:AW} {G G':List Chk} (gk:Glob φ) (hs:OkS s) (ho:OkS o) (hp:(BR p s::G).Perm (BR q o::G')) (s0:St φ (BR p s::G) h):
 CallsH Tryz.prog 139 [.pointer p, .pointer q] h (Ar fun v h'=> ∃(ψ:AC),Sub φ ψ∧v=((.one aB):Sh).val (Ee s o)∧St ψ (BR p (BB s o)::G) h'):=by
 intro w hw
 subst hw
 refine (show Calls Tryz.prog 139 #[.pointer p, .pointer q] w _ from TP gk hs ho hp s0).mono ?_
 rintro e W' ⟨h1,ψ,h2,rfl,h3⟩
 exact ⟨h1,_,rfl,ψ,h2,rfl,h3⟩
theorem R7 {φ:AC} {h:AH} {p q:Option Addr} {s o:AW} {G G':List Chk} (gk:Glob φ) (hs:OkS s) (ho:OkS o) (hp:(BR p s::G).Perm (BR q o::G')) (s0:St φ (BR p s::G) h):
 CallsH Tryz.prog 139 [.pointer p, .pointer q] h (Ar fun v h'=> ∃(ψ:AC) (g:Bool),Sub φ ψ∧v=((.one aB):Sh).val g∧St ψ (BR p (BB s o)::G) h'):=by
 refine (Hn gk hs ho hp s0).mono ?_
 rintro e h' ⟨u,rfl,ψ,le,rfl,s4⟩
 exact ⟨_,rfl,ψ,_,le,rfl,s4⟩
end Go.Proofs.YteolcjbobmpdiaaGreatDoor.Dg
namespace Go.Proofs.YteolcjbobmpdiaaGreatDoor.Dg
open Go Go.Eng Go.RowKit Go.Shelf Go.Sort
set_option linter.unusedVariables false
attribute [local go_sem] Oper.semAt_some
set_option maxRecDepth 100000
theorem Vd {W:World} {b:Nat} {n x:Int} (hc:W.cell? ⟨b,0,none⟩=some (.int .i64 n)):FnGives Tryz.prog 191 #[.pointer (some ⟨b,0,none⟩)] #[.int .i64 x] (.bool (JA n x)) W:=by
 refine (callsIn_wide (n:=3)).1 ?_
 refine callsIn_of_wp Tryz.func191 rfl trivial ?_ rfl
 simp only [Tryz.ntmps191,List.size_toArray,List.length_cons,List.length_nil,Nat.reduceAdd,Nat.reduceSub,Array.replicate_succ,Array.replicate_zero,List.push_toArray,List.append_toArray,List.nil_append,List.cons_append]
 have hmx:Tryz.prog.follows .mixedOrders=true:=mixed
 by_cases h0:x<0
 ·have e:JA n x=true:=by unfold JA; rw [decide_eq_true h0]; rfl
  rw [e]
  gi_wp2
  go_ret
  exact ⟨rfl,0,rfl⟩
 ·have e:JA n x=decide (n≤x):=by unfold JA; rw [decide_eq_false h0]; rfl
  rw [e]
  gi_wp2
  go_ret
  exact ⟨rfl,0,rfl⟩
theorem QS (n:Nat) (p:Option Addr) (cap:Nat) (fv:Value) (W:World):CallsIn Fence.wide n Tryz.prog 204 #[.slice p 0 cap,fv] W fun e W'=>e= .returned (.int .i64 (-1))∧W'=W:=by
 refine callsIn_of_wp Tryz.func204 rfl trivial ?_ rfl
 simp only [Tryz.ntmps204,List.size_toArray,List.length_cons,List.length_nil,Nat.reduceAdd,Nat.reduceSub,Array.replicate_succ,Array.replicate_zero,List.push_toArray,List.append_toArray,List.nil_append,List.cons_append]
 gi_wp2
 refine wpIn_loop_rounds 1 ?_
 rw [roundsIn_succ]
 gi_wp2
 go_ret
 exact ⟨rfl,rfl⟩
theorem QU (n:Nat) (hn:1≤n) (p:Option Addr) (cap:Nat) (fv:Value) (W:World):CallsIn Fence.wide n Tryz.prog 190 #[.slice p 0 cap,fv] W fun e W'=>e= .returned (.slice p 0 cap)∧W'=W:=by
 refine callsIn_of_wp Tryz.func190 rfl trivial ?_ rfl
 simp only [Tryz.ntmps190,List.size_toArray,List.length_cons,List.length_nil,Nat.reduceAdd,Nat.reduceSub,Array.replicate_succ,Array.replicate_zero,List.push_toArray,List.append_toArray,List.nil_append,List.cons_append]
 gi_wp2
 refine ⟨trivial,(QS (n - 1) p cap fv W).mono ?_⟩
 rintro e W' ⟨rfl,rfl⟩
 gi_wp2
 go_ret
 exact ⟨rfl,rfl⟩
theorem Wl {φ:AC} {h:AH} {F:List Chk} {t:Slc} {l:List Int} {b:Nat} {n:Int} (s0:St φ (⟨Rep.row 3 (Ro.int .i64), [.slice t.1 t.2.1 t.2.2],l⟩::⟨Rep.raw 3, [.pointer (some ⟨b,0,none⟩)], [.int .i64 n]⟩::F) h):
 CallsH Tryz.prog 190 [.slice t.1 t.2.1 t.2.2, .func (.func 191) #[] #[.pointer (some ⟨b,0,none⟩)]] h (Ar fun v h'=> ∃(ψ:AC) (y:Slc),Sub φ ψ∧v=((.one aS):Sh).val y∧Ro.SliceIs (Ro.int .i64) ψ y (l.filter fun x=> !JA n x)∧St ψ F h'):=by
 intro w hw
 subst hw
 have hcn:w.cell? ⟨b,0,none⟩=some (.int .i64 n):=(s0.at 1).cell rfl
 rcases s0.rowHolds rfl (Value.int .i64) (fun vs ha=>⟨l,Ck ha⟩) with ⟨hl,hn⟩ | ⟨bb,off,bs,ht,hall,hn,hlen,hlt,hfit,hH⟩
 ·subst hl
  rw [hn]
  have hc:=(callsIn_wide (n:=3)).1 (QU 3 (by decide) t.1 t.2.2 (.func (.func 191) #[] #[.pointer (some ⟨b,0,none⟩)]) w)
  refine (show Calls Tryz.prog 190 #[.slice t.1 0 t.2.2,_] w _ from hc).mono ?_
  rintro e w' ⟨rfl,rfl⟩
  obtain ⟨ψ,le,hsl,s1⟩:=s0.freezeRow
  refine ⟨Bn.refl _,_,rfl,ψ,t,le,by rw [← hn]; rfl,hsl,s1.tail⟩
 ·have hbl:bs=l:=OK (Ck hall)
  subst hbl
  rw [ht,hn]
  have hmax:=s0.rowMax
  have hcap:bs.length≤t.2.2:=by
   obtain ⟨_,_,hsl,_⟩:=s0.freezeRow
   have:=hsl.2.1
   omega
  have hc:=AnyE.slices_DeleteFunc Mb (Value.int .i64) (fun x=>rfl) (JA n) 191 #[.pointer (some ⟨b,0,none⟩)] (enters_of Tryz.func191 (by kernel_rfl) rfl) 0 (Tryz.zeroValue3) bb off t.2.2 bs.toArray w
   (fun W x hW=>Vd ((hW.cell (p:=⟨b,0,none⟩) (L3 hcn)).trans hcn))
   (fun m os dk x hdk=>Vd (((s0.rowSorted ht (Value.int .i64) dk.toList (Ec _) (by simpa using hdk) (by simpa using hdk) hfit m os).at 1).cell rfl)) hH (by unfold maxLen at hmax; simp; omega) (by simpa using hcap)
  obtain ⟨fl,hfl⟩: ∃fl,(bs.filter fun x=> !JA n x)=fl:=⟨_,rfl⟩
  have hfle:fl.length≤bs.length:=by rw [← hfl]; exact List.length_filter_le _ _
  have hsz:bs.toArray.size=bs.length:=by simp
  have htl:bs.toArray.toList=bs:=rfl
  rw [hsz,htl,hfl] at hc
  refine (show Calls Tryz.prog 190 #[.slice (some ⟨bb,off,none⟩) bs.length t.2.2,_] w _ from hc).mono ?_
  rintro e w' ⟨rfl,q,rfl⟩
  have hln:(fl++List.replicate (bs.length - fl.length) (0:Int)).length=bs.length:=by simp; omega
  have s1:=s0.rowSorted ht (Value.int .i64) (fl++List.replicate (bs.length - fl.length) (0:Int)) (Ec _) hln hln hfit q #[]
  rw [grow_empty] at s1
  obtain ⟨ψ,le,hsl,s2⟩:=s1.freezeRow
  have hct:=Ro.SliceIs.cut (a:=0) (b:=(fl.length:Int)) (m:=fl) hsl (by
   unfold cut
   rw [if_pos ⟨by omega,by omega,by rw [hln]; omega⟩]
   simp) (sz:=1) rfl
  refine ⟨⟨rfl,rfl,rfl,by rw [size_putRow]; exact Nat.le_refl _⟩,_,rfl,ψ,(some ⟨bb,off,none⟩,fl.length,t.2.2),le,rfl,?_,s2.tail⟩
  rw [hfl]
  have h3:=hct.2
  rw [ht] at h3
  have h4:(if t.2.2=Int.toNat 0 then some (⟨bb,off,none⟩:Addr) else Option.map (fun x=>Addr.add x (Int.toNat 0 * 1)) (some ⟨bb,off,none⟩))=some ⟨bb,off,none⟩:=by
   split
   ·rfl
   ·rfl
  rw [h4] at h3
  exact h3
theorem TQ {φ:AC} {h:AH} {F:List Chk} {t:Slc} {ll:List (List Int)} {x n:Int} (k:Ro.SliceIs (Ro.list (Ro.int .i64)) φ t ll) (s0:St φ F h) (h0:0≤x) (hb: ∀l ∈ ll,l.length≤1073741824):
 CallsH Tryz.prog 165 [.slice t.1 t.2.1 t.2.2, .int .i64 x, .int .i64 n] h (Ar fun v h'=> ∃(ψ:AC) (y:Slc),Sub φ ψ∧v=((.one aS):Sh).val y∧Ro.SliceIs (Ro.int .i64) ψ y (Ce ll x n)∧St ψ F h'):=by
 refine AR mixed Tryz.func165 ?_
 rw [LT]
 unfold I4
 refine AY (vs:= [.int .i64 n]) s0 ?_
 intro r h1 s1
 have hlen:=k.length
 by_cases hx:x≥ ((t.2.1:Nat):Int)
 ·rw [decide_eq_true hx,cond_true]
  refine AB ⟨φ,(none,0,0),Sub.refl _,rfl,?_,s1.tail⟩
  unfold Ce
  rw [if_pos (by omega)]
  exact Ro.SliceIs.nil _ _
 ·rw [decide_eq_false hx,cond_false]
  have hlt:x.toNat<ll.length:=by omega
  have hix:idx ll x=some ll[x.toNat] :=by
   unfold idx
   rw [if_pos h0,List.getElem?_eq_getElem hlt]
  obtain ⟨a,cs,ha,hi,⟨t1,e1,k1⟩,hcs⟩:=k.get hix
  subst e1
  refine AF _ ha (Aa hi ?_)
  refine AG (x:=t1) (by
   have h3:=Am s1.sub (hcs 0 _ rfl)
   exact h3) rfl ?_
  refine AI (QP k1 s1 (r:=ll[x.toNat]) (by unfold cloneD; rw [if_pos (hb _ (List.getElem_mem _))])) ?_
  rintro _ h2 ⟨ψ1,y1,l1,le1,rfl,rfl,s2⟩
  refine ⟨y1,rfl,?_⟩
  refine AI (Wl s2) ?_
  rintro _ h3 ⟨ψ2,y2,le2,rfl,k2,s3⟩
  refine ⟨y2,rfl,?_⟩
  refine AB ⟨ψ2,y2,le1.trans le2,rfl,?_,s3⟩
  unfold Ce
  rw [if_neg (by omega),List.getElem?_eq_getElem hlt]
  exact k2
end Go.Proofs.YteolcjbobmpdiaaGreatDoor.Dg
namespace Go.Proofs.YteolcjbobmpdiaaGreatDoor.Dg
open Go Go.Eng Go.RowKit
set_option linter.unusedVariables false
set_option maxRecDepth 100000
theorem Us {P:Program} {Q:Bi→AH→Prop} {h:AH} {f:FuncId} {fn:Func} {first cap args:Array Value} {sh:Sh} {k:Value→T} (hf:P.funcs[f]? =some fn) (hn:(fn.name== "runtime.NumGoroutine")=false) (hb:fn.body.isNone=false) (hsh:Qz P fn=sh)
 (H:(T.call f ((first++args) ++cap).toList sh fun x=>k (sh.val x)).wp P Q h):(Ig false P (.func (.func f) first cap) args k).wp P Q h:=by
 subst hsh
 unfold Ig
 simp only [hf,hn,hb]
 exact H
theorem St.rowTake {α:Type} {φ:AC} {h:AH} {Γ:List Chk} {ty:TypeId} {r:Ro α} {t:Slc} {l:List α} (H:St φ (⟨Rep.row ty r, [.slice t.1 t.2.1 t.2.2],l⟩::Γ) h) {k:Nat} (hk:k≤l.length):
 St φ (⟨Rep.row ty r, [.slice t.1 k t.2.2],l.take k⟩::Γ) h:=by
 obtain ⟨F,⟨p,n,c,vs,e,hn,hc,hfu,ho,hall,hF⟩,h2,H⟩:=H
 have hn:l.length=n:=hn
 simp only [List.cons.injEq,Value.slice.injEq,and_true] at e
 obtain ⟨e1,e2,e3⟩:=e
 refine ⟨F,⟨p,k,c,vs.take (k * r.sz),by rw [e1,e3],by rw [List.length_take]; omega,hc,hfu,?_,hall.take k,hF⟩,h2,H⟩
 rcases ho with ⟨hp,hn0,hc0,hv0⟩ | ⟨b,off,arr,hp,hb0,g1,g2,g3,g4⟩
 ·exact .inl ⟨hp,by omega,hc0,by rw [hv0]; exact List.take_nil⟩
 ·refine .inr ⟨b,off,arr,hp,hb0,?_,by omega,g3,fun i v hv=> ?_⟩
  ·rw [List.length_take,g1]
   exact Nat.min_eq_left (Nat.mul_le_mul_right _ (by omega))
  ·rw [List.getElem?_take] at hv
   split at hv
   ·exact g4 i v hv
   ·cases hv
abbrev GJ (c1 c2:Nat) (s o:Slc) (stk low:List Int):List Chk:= [⟨Rep.raw 30, [.pointer (some ⟨c1,0,none⟩)], [.slice s.1 s.2.1 s.2.2]⟩,⟨Rep.row 3 (Ro.int .i64), [.slice s.1 s.2.1 s.2.2],stk⟩,⟨Rep.raw 30, [.pointer (some ⟨c2,0,none⟩)], [.slice o.1 o.2.1 o.2.2]⟩,⟨Rep.row 3 (Ro.int .i64), [.slice o.1 o.2.1 o.2.2],low⟩]
section
variable {X A:Type} (K:X→List Chk) (al:X→A) (ledA:A→Int→Int→Option A) (partA:A→List Int→Option A) (gl gp:Nat) (bl bp:Array Value)
def TR:Prop:= ∀ {φ:AC} {h:AH} {F:List Chk} {v:X} {x to:Int} {a':A},ledA (al v) x to=some a'→St φ (K v++F) h→
 CallsH Tryz.prog gl (((#[] :Array Value) ++ #[Value.int .i64 x,Value.int .i64 to]) ++bl).toList h (Ar fun u h'=>u= .tuple #[] ∧ ∃(ψ:AC) (v':X),Sub φ ψ∧al v'=a'∧St ψ (K v'++F) h')
def QW:Prop:= ∀ {φ:AC} {h:AH} {F:List Chk} {v:X} {t:Slc} {l:List Int} {a':A},partA (al v) l=some a'→St φ (⟨Rep.row 3 (Ro.int .i64), [.slice t.1 t.2.1 t.2.2],l⟩::(K v++F)) h→
 CallsH Tryz.prog gp (((#[] :Array Value) ++ #[Value.slice t.1 t.2.1 t.2.2]) ++bp).toList h (Ar fun u h'=>u= .tuple #[] ∧ ∃(ψ:AC) (v':X),Sub φ ψ∧al v'=a'∧St ψ (K v'++F) h')
abbrev Fz (c1 c2 c3 c4 c5 c6 c7:Nat):Array Value:= #[.pointer (some ⟨c1,0,none⟩), .pointer (some ⟨c2,0,none⟩), .pointer (some ⟨c3,0,none⟩), .pointer (some ⟨c4,0,none⟩), .pointer (some ⟨c5,0,none⟩), .pointer (some ⟨c6,0,none⟩), .pointer (some ⟨c7,0,none⟩)]
structure Mh (φ:AC) (t:Slc) (n:Int) (c1 c2 c3 c4 c5 c6 c7:Nat):Prop where
 edges:DS φ ⟨c3,0,none⟩=some (.slice t.1 t.2.1 t.2.2)
 num:DS φ ⟨c4,0,none⟩=some (.int .i64 n)
 visit:DS φ ⟨c5,0,none⟩=some (.func (.func 164) #[] (Fz c1 c2 c3 c4 c5 c6 c7))
 led:DS φ ⟨c6,0,none⟩=some (.func (.func gl) #[] bl)
 part:DS φ ⟨c7,0,none⟩=some (.func (.func gp) #[] bp)
theorem Mh.mono {φ ψ:AC} {t:Slc} {n:Int} {c1 c2 c3 c4 c5 c6 c7:Nat} (H:Mh gl gp bl bp φ t n c1 c2 c3 c4 c5 c6 c7) (hs:Sub φ ψ):Mh gl gp bl bp ψ t n c1 c2 c3 c4 c5 c6 c7:=
 ⟨Am hs H.edges,Am hs H.num,Am hs H.visit,Am hs H.led,Am hs H.part⟩
def OP (rec:DE A→Int→Option (DE A)) (ll:List (List Int)) (n:Int) (t:Slc) (c1 c2 c3 c4 c5 c6 c7:Nat):Prop:=
 ∀ {φ:AC} {h:AH} {F:List Chk} {v:X} {s o:Slc} {stk low stk' low':List Int} {x:Int} {a':A},Mh gl gp bl bp φ t n c1 c2 c3 c4 c5 c6 c7→Ro.SliceIs (Ro.list (Ro.int .i64)) φ t ll→
  rec (low,stk,al v) x=some (low',stk',a')→St φ (GJ c1 c2 s o stk low++(K v++F)) h→
  CallsH Tryz.prog 164 (((#[] :Array Value) ++ #[Value.int .i64 x]) ++Fz c1 c2 c3 c4 c5 c6 c7).toList h (Ar fun u h'=>u= .tuple #[] ∧ ∃(ψ:AC) (v':X) (s':Slc),Sub φ ψ∧al v'=a'∧St ψ (GJ c1 c2 s' o stk' low'++(K v'++F)) h')
def EE (g:FuncId):Prop:= ∃fn,Tryz.prog.funcs[g]? =some fn∧(fn.name== "runtime.NumGoroutine")=false∧fn.body.isNone=false∧Qz Tryz.prog fn= .tuple []
theorem PL:EE 164:=⟨Tryz.f164,Tryz.func164,by decide,by kernel_rfl,by kernel_rfl⟩
theorem EE.call {P':Bi→AH→Prop} {h:AH} {g:FuncId} {cap args:Array Value} {k:Value→T} (H:EE g) {S:Value→AH→Prop} (hc:CallsH Tryz.prog g (((#[] :Array Value) ++args) ++cap).toList h (Ar S)) (hk: ∀h',S (.tuple #[]) h'→(k (.tuple #[])).wp Tryz.prog P' h') (hu: ∀v h',S v h'→v= .tuple #[]):
 (Ig false Tryz.prog (.func (.func g) #[] cap) args k).wp Tryz.prog P' h:=by
 obtain ⟨fn,h1,h2,h3,h4⟩:=H
 refine Us h1 h2 h3 h4 ?_
 refine AI hc ?_
 intro v h' hS
 have:=hu v h' hS
 subst this
 exact ⟨(),rfl,hk h' hS⟩
abbrev Nf (K:X→List Chk) (al:X→A) (c1 c2:Nat) (o:Slc) (F:List Chk) (ψ0:AC) (w:AH) (g:DE A):Prop:= ∃(ψ:AC) (v:X) (s:Slc),Sub ψ0 ψ∧al v=g.2.2∧St ψ (GJ c1 c2 s o g.2.1 g.1++(K v++F)) w
set_option maxHeartbeats 2000000 in
theorem QX {ll:List (List Int)} {n:Int} {t:Slc} {c1 c2 c3 c4 c5 c6 c7:Nat} {rec:DE A→Int→Option (DE A)} (hl:TR K al ledA gl bl) (hp:QW K al partA gp bp) (cl:EE gl) (cp:EE gp)
 (ih:OP K al gl gp bl bp rec ll n t c1 c2 c3 c4 c5 c6 c7):OP K al gl gp bl bp (Mc ll n ledA partA rec) ll n t c1 c2 c3 c4 c5 c6 c7:=by
 intro φ h F v s o stk low stk' low' x a' B k hd s0
 refine AR mixed Tryz.func164 ?_
 rw [show Ab Tryz.prog Tryz.f164 (((#[] :Array Value) ++ #[Value.int .i64 x]) ++Fz c1 c2 c3 c4 c5 c6 c7).toList=_ from KX x c1 c2 c3 c4 c5 c6 c7]
 unfold HH
 unfold Mc at hd
 obtain ⟨stk1,e1,hd⟩:=Option.bind_eq_some_iff.1 hd
 obtain ⟨low1,e2,hd⟩:=Option.bind_eq_some_iff.1 hd
 obtain ⟨hb,hd⟩:=B0 hd
 obtain ⟨st3,e3,hd⟩:=Option.bind_eq_some_iff.1 hd
 refine AA (b:=c1) (j:=0) (x:=s) s0 rfl ?_
 refine AY (vs:= [.int .i64 x]) s0 ?_
 intro r2 h1 s1
 have cw:=St.cells s1
 have s2:=s1.tail.at1
 refine Aj (r:=Ro.int .i64) (ms:= [x]) S7 s2 rfl cw (.cons (a:= [_]) rfl .nil) rfl e1 ?_
 intro s' h2 s3
 refine CP (b:=c1) (j:=0) (v:= .slice s'.1 s'.2.1 s'.2.2) s3.at1 rfl (Nat.lt_succ_self 0) ?_
 intro h3 s4
 refine AA (b:=c1) (j:=0) (x:=s') s4 rfl ?_
 refine AA (b:=c2) (j:=0) (x:=o) s4.at2 rfl ?_
 have hsl:s'.2.1=stk1.length:=s4.at1.rowLen
 have s5:=s4.at3
 obtain ⟨a5,ea5,q5⟩:=s5.there e2
 rw [hsl]
 refine AF _ ea5 (Aa q5 (ID s5 e2 rfl ea5 ?_))
 intro h4 s6
 have s7:St φ (GJ c1 c2 s' o stk1 low1++(K v++F)) h4:=s6.perm (Az 3 (GJ c1 c2 s' o stk1 low1++(K v++F))).symm
 refine AG (x:=t) (Am s7.sub B.edges) rfl ?_
 refine AG (x:=n) (Am s7.sub B.num) rfl ?_
 have hx0:0≤x:=(Dh e2).1
 refine AI (TQ k s7 hx0 hb) ?_
 rintro _ h5 ⟨ψ1,y,le1,rfl,k1,s8⟩
 refine ⟨y,rfl,?_⟩
 have ny:=k1.length
 refine AT (fun (z:Int×Unit) w g=>Nf K al c1 c2 o F ψ1 w g) (g:=st3) ?_ ?_
 ·refine BJ e3 (fun i (z:Int×Unit) w g=>z.1=i∧Nf K al c1 c2 o F ψ1 w g) ((0:Int),()) rfl ⟨rfl,ψ1,v,s',Sub.refl _,rfl,s8⟩ ?_ ?_
  ·rintro i z w g e ⟨hz,ψ,v',s'',le,hal,st⟩ he h0 hlt hw
   subst hz
   refine Ai (by rw [ny]; exact decide_eq_true hlt) ?_
   obtain ⟨to,hto,he⟩:=Option.bind_eq_some_iff.1 he
   unfold toD at he
   obtain ⟨e0,he0,he⟩:=Option.bind_eq_some_iff.1 he
   obtain ⟨g1,hg1,he⟩:=Option.bind_eq_some_iff.1 he
   obtain ⟨p1,hp1,he⟩:=Option.bind_eq_some_iff.1 he
   obtain ⟨q1,hq1,he⟩:=Option.bind_eq_some_iff.1 he
   obtain ⟨low2,hlow2,he⟩:=Option.bind_eq_some_iff.1 he
   obtain ⟨a2,ha2,he⟩:=Option.bind_eq_some_iff.1 he
   obtain rfl:=Option.some.inj he
   obtain ⟨A1,cs1,ea1,hi1,r1,cl1⟩:=(k1.mono le).get hto
   refine AF _ ea1 (Aa hi1 ?_)
   obtain rfl:=r1
   refine AG (x:=to) (Am st.sub (cl1 0 _ rfl)) rfl ?_
   refine AA (b:=c2) (j:=0) (x:=o) st.at2 rfl ?_
   obtain ⟨A2,cs2,ea2,hi2,r2,cl2⟩:=St.get (st.at3) he0
   refine AF _ ea2 (Aa hi2 ?_)
   obtain rfl:=r2
   refine AG (x:=e0) (cl2 0 _ rfl) rfl ?_
   refine Ao (fun (_:Unit) w g=>Nf K al c1 c2 o F ψ1 w g) (g:=g1) ?_ ?_
   ·refine AL hg1 rfl (fun _ hg=> ?_) (fun _ hg=> ?_)
    ·refine AG (x:=some (.func 164,#[],Fz c1 c2 c3 c4 c5 c6 c7)) (Am st.sub (Am (le1.trans le) B.visit)) rfl ?_
     obtain ⟨gl1,gs1,ga1⟩:=g1
     obtain ⟨gl0,gs0,ga0⟩:=g
     dsimp only at hal
     subst hal
     refine EE.call PL (ih (Mh.mono gl gp bl bp B (le1.trans le)) (k.mono (le1.trans le)) hg st) ?_ (fun _ _ hS=>hS.1)
     rintro h6 ⟨_,ψ2,v2,s2',le2,hal2,st2⟩
     exact AS () rfl ⟨ψ2,v2,s2',le.trans le2,hal2,st2⟩
    ·obtain rfl:=Option.some.inj hg
     exact AS () rfl ⟨ψ,v',s'',le,hal,st⟩
   ·rintro _ h6 ⟨ψ2,v2,s2',le2,hal2,st2⟩
    refine AA (b:=c2) (j:=0) (x:=o) st2.at2 rfl ?_
    refine AA (b:=c2) (j:=0) (x:=o) st2.at2 rfl ?_
    obtain ⟨A3,cs3,ea3,hi3,r3,cl3⟩:=St.get (st2.at3) hp1
    refine AF _ ea3 (Aa hi3 ?_)
    obtain rfl:=r3
    refine AG (x:=p1) (cl3 0 _ rfl) rfl ?_
    refine AA (b:=c2) (j:=0) (x:=o) st2.at2 rfl ?_
    obtain ⟨A4,cs4,ea4,hi4,r4,cl4⟩:=St.get (st2.at3) hq1
    refine AF _ ea4 (Aa hi4 ?_)
    obtain rfl:=r4
    refine AG (x:=q1) (cl4 0 _ rfl) rfl ?_
    obtain ⟨A5,ea6,q6⟩:=St.there (st2.at3) hlow2
    refine AF _ ea6 (Aa q6 (ID (st2.at3) hlow2 rfl ea6 ?_))
    intro h7 s9
    have s10:St ψ2 (GJ c1 c2 s2' o g1.2.1 low2++(K v2++F)) h7:=s9.perm (Az 3 (GJ c1 c2 s2' o g1.2.1 low2++(K v2++F))).symm
    refine AG (x:=some (.func gl,#[],bl)) (Am s10.sub (Am (le1.trans le2) B.led)) rfl ?_
    rw [← hal2] at ha2
    refine EE.call cl (hl ha2 (F:=F++GJ c1 c2 s2' o g1.2.1 low2) (s10.perm (List.perm_append_comm.trans (by rw [List.append_assoc])))) ?_ (fun _ _ hS=>hS.1)
    rintro h8 ⟨_,ψ3,v3,le3,hal3,st3'⟩
    refine Ag (IntKind.wrap .i64 (z.1+(1:Int)),()) _ rfl rfl ⟨hw,ψ3,v3,s2',le2.trans le3,hal3,?_⟩
    exact st3'.perm (by rw [← List.append_assoc]; exact List.perm_append_comm)
  ·rintro i z w ⟨hz,ψ,v',s'',le,hal,st⟩ hge
   subst hz
   refine AX (by rw [ny]; exact decide_eq_false (Int.not_lt.2 hge)) ?_
   exact AJ (AK (z.1,()) rfl ⟨ψ,v',s'',le,hal,st⟩)
 ·rintro z h6 ⟨ψ,v',s'',le,hal,st⟩
  unfold S5 at hd
  obtain ⟨e,he,hd⟩:=Option.bind_eq_some_iff.1 hd
  refine AA (b:=c2) (j:=0) (x:=o) st.at2 rfl ?_
  obtain ⟨A6,cs6,ea6,hi6,r6,cl6⟩:=St.get (st.at3) he
  refine AF _ ea6 (Aa hi6 ?_)
  obtain rfl:=r6
  refine AG (x:=e) (cl6 0 _ rfl) rfl ?_
  refine AL hd rfl (fun _ hd=> ?_) (fun _ hd=> ?_)
  ·obtain rfl:=Option.some.inj hd
   exact AB ⟨rfl,ψ,v',s'',le1.trans le,hal,st⟩
  ·obtain ⟨⟨hd1,hd2,hd3⟩,hd⟩:=B0 hd
   obtain ⟨low4,e4,hd⟩:=Option.bind_eq_some_iff.1 hd
   obtain ⟨a4,ha4,hd⟩:=Option.bind_eq_some_iff.1 hd
   obtain ⟨rfl,hd4⟩:=Prod.mk.inj (Option.some.inj hd)
   obtain ⟨rfl,rfl⟩:=Prod.mk.inj hd4
   obtain ⟨dp,hdp⟩: ∃dp:Nat,stk1.length=dp+1:=⟨stk1.length - 1,by omega⟩
   have hsub:stk1.length - 1=dp:=by omega
   rw [hsub] at hd2 e4 ha4
   rw [hsub]
   have hw1:IntKind.wrap .i64 (((stk1.length:Nat):Int) - (1:Int))=((dp:Nat):Int):=by
    have:stk1.length≤1073741825:=by omega
    rw [R4 (by omega) (by omega)]
    omega
   rw [hw1]
   have hlen'':s''.2.1=st3.2.1.length:=st.at1.rowLen
   have hcap:s''.2.1≤s''.2.2:=by
    obtain ⟨_,_,hsl2,_⟩:=(st.at1).freezeRow
    exact hsl2.2.1
   refine AA (b:=c1) (j:=0) (x:=s'') st rfl ?_
   refine Aa ⟨by omega,by omega,by omega⟩ ?_
   have hcut:cut st3.2.1 ((dp:Nat):Int) ((s''.2.1:Nat):Int)=some (st3.2.1.drop dp):=by
    unfold cut
    rw [if_pos ⟨by omega,by omega,by omega⟩,Int.toNat_natCast,Int.toNat_natCast,hlen'',List.take_length]
   have hpart: ∀h',St ψ (GJ c1 c2 s'' o st3.2.1 st3.1++(K v'++F)) h'→ ∃ψ',Sub ψ ψ'∧Sub ψ' (BN h')∧Ro.SliceIs (Ro.int .i64) ψ' ((if s''.2.2=Int.toNat ((dp:Nat):Int) then s''.1 else Option.map (fun x=>Addr.add x (Int.toNat ((dp:Nat):Int) * 1)) s''.1),Int.toNat ((s''.2.1:Nat):Int) - Int.toNat ((dp:Nat):Int),s''.2.2 - Int.toNat ((dp:Nat):Int)) (st3.2.1.drop dp):=fun h' H=>by
    obtain ⟨ψ',le',sl,H2⟩:=(H.at1).freezeRow
    exact ⟨ψ',le',H2.sub,(sl.cut hcut (sz:=1) rfl).2⟩
   obtain ⟨_,_,_,hsl0⟩:=hpart _ st
   have hcl:=K2 (t:=((if s''.2.2=Int.toNat ((dp:Nat):Int) then s''.1 else Option.map (fun x=>Addr.add x (Int.toNat ((dp:Nat):Int) * 1)) s''.1),Int.toNat ((s''.2.1:Nat):Int) - Int.toNat ((dp:Nat):Int),s''.2.2 - Int.toNat ((dp:Nat):Int))) st hsl0.1 (fun h' H=>by
    obtain ⟨ψ',_,hs',sl⟩:=hpart h' H
    obtain ⟨vs,ha,hc⟩:=sl.heap hs'
    rw [Ck ha] at hc
    exact hc) hsl0.2.2.2.1 (by rw [List.length_drop]; omega)
   dsimp only at hcl
   refine AI hcl ?_
   rintro _ h7 ⟨y2,rfl,s9⟩
   refine ⟨y2,rfl,?_⟩
   have ny2:y2.2.1=(st3.2.1.drop dp).length:=s9.rowLen
   refine AA (b:=c1) (j:=0) (x:=s'') s9.at1 rfl ?_
   refine Aa ⟨by omega,by omega,by omega⟩ ?_
   have hzero:(if s''.2.2=Int.toNat (0:Int) then s''.1 else Option.map (fun x=>Addr.add x (Int.toNat (0:Int) * 1)) s''.1)=s''.1:=by
    split
    ·rfl
    ·cases s''.1 with
     | none=>rfl
     | some a=>cases a; rfl
   rw [hzero]
   refine CP (b:=c1) (j:=0) (v:= .slice s''.1 (Int.toNat ((dp:Nat):Int) - Int.toNat 0) (s''.2.2 - Int.toNat 0)) s9.at1 rfl (Nat.lt_succ_self 0) ?_
   intro h8 s10
   have s11:=St.rowTake (s10.at2) (k:=dp) (by omega)
   have s12:St ψ (⟨Rep.row 3 (Ro.int .i64), [.slice y2.1 y2.2.1 y2.2.2],st3.2.1.drop dp⟩::(GJ c1 c2 (s''.1,dp,s''.2.2) o (st3.2.1.take dp) st3.1++(K v'++F))) h8:=s11.perm ((Az 2 _).trans (List.Perm.cons _ (List.Perm.swap _ _ _)))
   refine AT (fun (z:Int×Unit) w g=>St ψ (⟨Rep.row 3 (Ro.int .i64), [.slice y2.1 y2.2.1 y2.2.2],st3.2.1.drop dp⟩::(GJ c1 c2 (s''.1,dp,s''.2.2) o (st3.2.1.take dp) g++(K v'++F))) w) (g:=low4) ?_ ?_
   ·refine BJ e4 (fun i (z:Int×Unit) w g=>z.1=i∧St ψ (⟨Rep.row 3 (Ro.int .i64), [.slice y2.1 y2.2.1 y2.2.2],st3.2.1.drop dp⟩::(GJ c1 c2 (s''.1,dp,s''.2.2) o (st3.2.1.take dp) g++(K v'++F))) w) ((0:Int),()) rfl ⟨rfl,s12⟩ ?_ ?_
    ·rintro i z w g e' ⟨hz,st4⟩ he' h0 hlt hw
     subst hz
     refine Ai (by rw [ny2]; exact decide_eq_true hlt) ?_
     obtain ⟨y3,hy3,he'⟩:=Option.bind_eq_some_iff.1 he'
     obtain ⟨A7,cs7,ea7,hi7,r7,cl7⟩:=St.get st4 hy3
     refine AF _ ea7 (Aa hi7 ?_)
     obtain rfl:=r7
     refine AG (x:=y3) (cl7 0 _ rfl) rfl ?_
     refine AA (b:=c2) (j:=0) (x:=o) st4.at3 rfl ?_
     obtain ⟨A8,ea8,q8⟩:=St.there (st4.at4) he'
     refine AF _ ea8 (Aa q8 (ID (st4.at4) he' rfl ea8 ?_))
     intro h9 s13
     refine Ag (IntKind.wrap .i64 (z.1+(1:Int)),()) _ rfl rfl ⟨hw,s13.perm (Az 4 (⟨Rep.row 3 (Ro.int .i64), [.slice y2.1 y2.2.1 y2.2.2],st3.2.1.drop dp⟩::(GJ c1 c2 (s''.1,dp,s''.2.2) o (st3.2.1.take dp) e'++(K v'++F)))).symm⟩
    ·rintro i z w ⟨hz,st4⟩ hge
     subst hz
     refine AX (by rw [ny2]; exact decide_eq_false (Int.not_lt.2 hge)) ?_
     exact AJ (AK (z.1,()) rfl st4)
   ·rintro z2 h9 st5
    refine AG (x:=some (.func gp,#[],bp)) (Am st5.sub (Am (le1.trans le) B.part)) rfl ?_
    rw [← hal] at ha4
    refine EE.call cp (hp ha4 (F:=F++GJ c1 c2 (s''.1,dp,s''.2.2) o (st3.2.1.take dp) low4) (st5.perm (List.Perm.cons _ (List.perm_append_comm.trans (by rw [List.append_assoc]))))) ?_ (fun _ _ hS=>hS.1)
    rintro h10 ⟨_,ψ3,v3,le3,hal3,st6⟩
    exact AB ⟨rfl,ψ3,v3,(s''.1,dp,s''.2.2),(le1.trans le).trans le3,hal3,st6.perm (by rw [← List.append_assoc]; exact List.perm_append_comm)⟩
theorem PM {ll:List (List Int)} {n:Int} {t:Slc} {c1 c2 c3 c4 c5 c6 c7:Nat} (hl:TR K al ledA gl bl) (hp:QW K al partA gp bp) (cl:EE gl) (cp:EE gp): ∀f:Nat,OP K al gl gp bl bp (JB ll n ledA partA f) ll n t c1 c2 c3 c4 c5 c6 c7
 | 0=>fun _ _ hd _=>by cases hd
 | f+1=>QX K al ledA partA gl gp bl bp hl hp cl cp (PM hl hp cl cp f)
end
end Go.Proofs.YteolcjbobmpdiaaGreatDoor.Dg
namespace Go.Proofs.YteolcjbobmpdiaaGreatDoor.Dg
open Go Go.Eng
set_option linter.unusedVariables false
theorem Ng {ws:List Nat} {x:Int} : ∀ {k:Nat},x ∈ DM ws k ↔ ∃i j:Nat,i<k∧j ∈ FL (ws[i]?.getD 0)∧x=(i:Int) * 64+(j:Int):=by
 intro k
 induction k with
 | zero=>rw [Mf]; simp
 | succ k ih=>
  rw [GI,List.mem_append,ih,List.mem_map]
  constructor
  ·rintro (⟨i,j,h1,h2,h3⟩ | ⟨j,h1,h2⟩)
   ·exact ⟨i,j,by omega,h2,h3⟩
   ·exact ⟨k,j,by omega,h1,h2.symm⟩
  ·rintro ⟨i,j,h1,h2,h3⟩
   by_cases e:i=k
   ·subst e; exact .inr ⟨j,h2,h3.symm⟩
   ·exact .inl ⟨i,j,by omega,h2,h3⟩
theorem TS (w:Nat):(FL w).Pairwise (· < ·):=List.pairwise_lt_range.filter _
theorem TU (ws:List Nat): ∀k:Nat,(DM ws k).Pairwise (· < ·):=by
 intro k
 induction k with
 | zero=>rw [Mf]; exact .nil
 | succ k ih=>
  rw [GI,List.pairwise_append]
  refine ⟨ih,?_,?_⟩
  ·rw [List.pairwise_map]
   exact (TS _).imp fun h=>by omega
  ·intro a ha b hb
   obtain ⟨i,j,h1,h2,rfl⟩:=Ng.1 ha
   obtain ⟨j',h3,rfl⟩:=List.mem_map.1 hb
   have:=(LW.1 h2).1
   omega
theorem TV (s:AW):(DN s).Pairwise (· < ·):=TU _ _
theorem EK {s:AW} (H:OkS s) (x:Int):x ∈ DN s ↔ mem s x=true:=by
 unfold DN
 rw [Ng]
 have hget: ∀i:Nat,(s.2.map Int.toNat)[i]?.getD 0=(s.2[i]?.getD 0).toNat:=fun i=>by
  rw [List.getElem?_map]
  cases s.2[i]? <;>rfl
 constructor
 ·rintro ⟨i,j,h1,h2,rfl⟩
  rw [hget] at h2
  obtain ⟨h3,h4⟩:=LW.1 h2
  rw [show (i:Int) * 64+(j:Int)=((i * 64+j:Nat):Int) by omega,K5]
  unfold IS
  rw [show (i * 64+j) / 64=i by omega,show (i * 64+j) % 64=j by omega]
  exact h4
 ·intro h
  obtain ⟨h0,h1⟩:=LV H h
  obtain ⟨k,rfl⟩: ∃k:Nat,x=(k:Int):=⟨x.toNat,by omega⟩
  rw [K5] at h
  have hl:=H.len
  refine ⟨k / 64,k % 64,by omega,?_,by omega⟩
  rw [hget]
  exact LW.2 ⟨Nat.mod_lt _ (by decide),h⟩
theorem JC {s:AW} (H:OkS s):IG s=some (DN s):=by
 unfold IG DN
 have h1:=H.len
 have h2:=H.hi
 rw [if_pos ⟨by omega,H.word⟩]
theorem JD {s:AW} (H:OkS s) {x:Int} (h:x ∈ DN s):0≤x∧x<s.1:=LV H ((EK H x).1 h)
theorem WC: ∀(l:List Int) {s:AW},OkS s→l.Pairwise (· < ·)→(∀i ∈ l,0≤i)→
 OkS (l.foldl HL (s,false)).1∧(l.foldl HL (s,false)).1.1=s.1∧ ∀j,mem (l.foldl HL (s,false)).1 j=(mem s j || (l.contains j && decide (j<s.1))):=by
 intro l
 induction l with
 | nil=>intro s H _ _; exact ⟨H,rfl,fun j=>by simp⟩
 | cons i l ih=>
  intro s H hp h0
  rw [List.foldl_cons]
  have hp':=List.pairwise_cons.1 hp
  by_cases hi:s.1≤i
  ·have e:HL (s,false) i=(s,true):=by unfold HL; rw [if_neg (by simp),if_pos hi]
   rw [e,WA l rfl]
   refine ⟨H,rfl,fun j=> ?_⟩
   have:((i::l).contains j && decide (j<s.1))=false:=by
    by_cases hj:j<s.1
    ·have hne:j ∉ i::l:=by
      intro hm
      rcases List.mem_cons.1 hm with h | h
      ·omega
      ·have:=hp'.1 j h; omega
     have:(i::l).contains j=false:=by
      rw [Bool.eq_false_iff]
      intro hc
      exact hne (List.contains_iff_mem.1 hc)
     rw [this]; rfl
    ·rw [decide_eq_false hj,Bool.and_false]
   rw [this,Bool.or_false]
  ·obtain ⟨s',hd,h1,h2,h3⟩:=add_ok H i
   have e:HL (s,false) i=(s',false):=by unfold HL; rw [if_neg (by simp),if_neg hi,hd]; rfl
   rw [e]
   obtain ⟨g1,g2,g3⟩:=ih h1 hp'.2 fun i hi=>h0 i (List.mem_cons_of_mem _ hi)
   have hi0:=h0 i (by simp)
   refine ⟨g1,g2.trans h2,fun j=> ?_⟩
   rw [g3,h3,h2,List.contains_cons]
   by_cases hj:j=i
   ·subst hj
    rw [decide_eq_true (show j=j∧0≤j∧j<s.1 by omega),decide_eq_true (show j<s.1 by omega)]
    simp
   ·rw [decide_eq_false fun g=>hj g.1,Bool.or_false,show (j==i)=false by simpa using hj,Bool.false_or]
theorem K6 {s o:AW} (H:OkS s) (K:OkS o):OkS (BB s o)∧(BB s o).1=s.1∧ ∀j,mem (BB s o) j=(mem s j || (mem o j && decide (j<s.1))):=by
 obtain ⟨h1,h2,h3⟩:=WC (DN o) H (TV o) fun i hi=>(JD K hi).1
 refine ⟨h1,h2,fun j=> ?_⟩
 show mem (List.foldl HL (s,false) (DN o)).1 j=_
 rw [h3]
 have:(DN o).contains j=mem o j:=by
  rw [Bool.eq_iff_iff,List.contains_iff_mem,EK K]
 rw [this]
set_option maxRecDepth 100000
abbrev AP (ps:List (Option Addr)) (ss:List AW):List Chk:=List.zipWith BR ps ss
theorem Ho: ∀ {ps:List (Option Addr)} {ss:List AW} {i:Nat} {p:Option Addr} {s:AW},ps[i]? =some p→ss[i]? =some s→
 ∃rest,(AP ps ss).Perm (BR p s::rest)∧ ∀p' s',(AP (ps.set i p') (ss.set i s')).Perm (BR p' s'::rest):=by
 intro ps
 induction ps with
 | nil=>intro ss i p s h; simp at h
 | cons q ps ih=>
  intro ss i p s hp hs
  cases ss with
  | nil=>simp at hs
  | cons t ss=>
   cases i with
   | zero=>
    simp only [List.getElem?_cons_zero,Option.some.injEq] at hp hs
    subst hp hs
    exact ⟨AP ps ss,List.Perm.refl _,fun p' s'=>List.Perm.refl _⟩
   | succ i=>
    obtain ⟨rest,h1,h2⟩:=ih (by simpa using hp) (by simpa using hs)
    exact ⟨BR q t::rest,(List.Perm.cons _ h1).trans (List.Perm.swap _ _ _),fun p' s'=>(List.Perm.cons _ (h2 p' s')).trans (List.Perm.swap _ _ _)⟩
theorem D3 {ps:List (Option Addr)} {ss:List AW} {i:Nat} {p:Option Addr} {s:AW} (hp:ps[i]? =some p) (hs:ss[i]? =some s):
 ∃rest,(AP ps ss).Perm (BR p s::rest)∧ ∀s',(AP ps (ss.set i s')).Perm (BR p s'::rest):=by
 obtain ⟨rest,h1,h2⟩:=Ho hp hs
 refine ⟨rest,h1,fun s'=> ?_⟩
 have:=h2 p s'
 have e:ps.set i p=ps:=List.ext_getElem? fun k=>by
  rw [List.getElem?_set]
  split
  ·rename_i h
   subst h
   rw [hp]
   split
   ·rfl
   ·rename_i h; rw [List.getElem?_eq_none (by omega)] at hp; cases hp
  ·rfl
 rwa [e] at this
theorem Jc {ps:List (Option Addr)} {ss:List AW} (hl:ps.length=ss.length) (p:Option Addr) (s:AW):AP (ps++ [p]) (ss++ [s])=AP ps ss++ [BR p s] :=by
 unfold AP
 rw [List.zipWith_append hl]
 rfl
def WD:Ro Unit where
 sz:=0
 is φ cs _:=cs= [] ∧Glob φ
 len h:=by rw [h.1]; rfl
 mono hs h:=⟨h.1,h.2.mono hs⟩
 plain h v hv:=by rw [h.1] at hv; cases hv
abbrev TW:Chk:=⟨Rep.ro WD, [],()⟩
theorem HM {φ:AC} {h:AH} {F:List Chk} (s:St φ (TW::F) h):Glob φ∧St φ F h:=⟨(St.ro s).1.2,(St.ro s).2⟩
theorem Mi {φ:AC} {h:AH} {F:List Chk} (g:Glob φ) (s:St φ F h):St φ (TW::F) h:=St.unro s ⟨rfl,g⟩
structure K7 where
 o:Slc
 ps:List (Option Addr)
 ss:List AW
 eq:ps.length=ss.length
abbrev K8 (c:Nat) (v:K7):List Chk:=TW::⟨Rep.raw 195, [.pointer (some ⟨c,0,none⟩)], [.slice v.o.1 v.o.2.1 v.o.2.2]⟩::⟨Rep.row 139 Ro.pt, [.slice v.o.1 v.o.2.1 v.o.2.2],v.ps⟩::AP v.ps v.ss
noncomputable def Mj (a:List AW) (x to:Int):Option (List AW):=
 (idx a x).bind fun s=>(idx a to).bind fun o=>need (OkS s∧OkS o) <| Dq a x (BB s o)
noncomputable def L4 (a:List AW) (l:List Int):Option (List AW):=
 (idx l 0).bind fun l0=>
 (forS 0 (((l.drop 1).length:Nat):Int) a fun i a=>(idx (l.drop 1) i).bind fun y=>Mj a l0 y).bind fun a=>
 forS 0 (((l.drop 1).length:Nat):Int) a fun i a=>(idx (l.drop 1) i).bind fun y=>(idx a l0).bind fun s=>(CM s).bind fun s=>Dq a y s
theorem Hp {α β:Type} {ps:List α} {ss:List β} (hl:ps.length=ss.length) {i:Int} {s:β} (h:idx ss i=some s):0≤i∧ss[i.toNat]? =some s∧ ∃p,ps[i.toNat]? =some p∧idx ps i=some p:=by
 obtain ⟨h0,h1,h2⟩:=Cz h
 have hlt:i.toNat<ps.length:=by omega
 exact ⟨h0,h2,ps[i.toNat],List.getElem?_eq_getElem hlt,by rw [JZ h0 hlt]⟩
theorem PN {φ:AC} {h:AH} {F:List Chk} {c:Nat} {v:K7} {x to:Int} {s o:AW} {p q:Option Addr} (hs:v.ss[x.toNat]? =some s) (ho:v.ss[to.toNat]? =some o) (hp:v.ps[x.toNat]? =some p) (hq:v.ps[to.toNat]? =some q) (ks:OkS s) (ko:OkS o)
 (s0:St φ (K8 c v++F) h):CallsH Tryz.prog 139 [.pointer p, .pointer q] h (Ar fun u h'=> ∃(ψ:AC) (g:Bool),Sub φ ψ∧u=((.one aB):Sh).val g∧
  ∀v':K7,v'.o=v.o→v'.ps=v.ps→v'.ss=v.ss.set x.toNat (BB s o)→St ψ (K8 c v'++F) h'):=by
 obtain ⟨g,s1⟩:=HM s0
 obtain ⟨r1,a1,a2⟩:=D3 hp hs
 obtain ⟨r2,b1,_⟩:=D3 hq ho
 obtain ⟨B,hB⟩: ∃B:List Chk,B= [⟨Rep.raw 195, [.pointer (some ⟨c,0,none⟩)], [.slice v.o.1 v.o.2.1 v.o.2.2]⟩,⟨Rep.row 139 Ro.pt, [.slice v.o.1 v.o.2.1 v.o.2.2],v.ps⟩] :=⟨_,rfl⟩
 have s2:St φ (B++(AP v.ps v.ss++F)) h:=by rw [hB]; exact s1
 have mv: ∀(p:Option Addr) (s:AW) (r:List Chk) (L:List Chk),L.Perm (BR p s::r)→(B++(L++F)).Perm (BR p s::(B++(r++F))):=fun p s r L hL=>((List.Perm.append_left B (List.Perm.append_right F hL)).trans List.perm_middle)
 have s3:=s2.perm (mv p s r1 _ a1)
 have hpm:=(mv p s r1 _ a1).symm.trans (mv q o r2 _ b1)
 refine (R7 g ks ko hpm s3).mono ?_
 rintro e h' ⟨u,rfl,ψ,gr,le,rfl,s4⟩
 refine ⟨_,rfl,ψ,gr,le,rfl,?_⟩
 rintro ⟨o',ps',ss',eq'⟩ rfl rfl rfl
 refine Mi (g.mono le) ?_
 have s5:=s4.perm (mv p (BB s o) r1 _ (a2 _)).symm
 rw [hB] at s5
 exact s5
theorem QY {φ:AC} {h:AH} {F:List Chk} {c:Nat} {v:K7} {x to:Int} {a':List AW} (hd:Mj v.ss x to=some a') (s0:St φ (K8 c v++F) h):
 CallsH Tryz.prog 142 [.int .i64 x, .int .i64 to, .pointer (some ⟨c,0,none⟩)] h (Ar fun u h'=>u= .tuple #[] ∧ ∃(ψ:AC) (v':K7),Sub φ ψ∧v'.ss=a'∧St ψ (K8 c v'++F) h'):=by
 unfold Mj at hd
 obtain ⟨s,hs,hd⟩:=Option.bind_eq_some_iff.1 hd
 obtain ⟨o,ho,hd⟩:=Option.bind_eq_some_iff.1 hd
 obtain ⟨⟨ks,ko⟩,hd⟩:=B0 hd
 obtain ⟨_,hs1,p,hp,hp'⟩:=Hp v.eq hs
 obtain ⟨_,ho1,q,hq,hq'⟩:=Hp v.eq ho
 refine AR mixed Tryz.func142 ?_
 rw [Ju]
 unfold Gg
 have s1:=(HM s0).2
 refine AA (b:=c) (j:=0) (x:=v.o) s1 rfl ?_
 obtain ⟨A1,cs1,ea1,hi1,r1,cl1⟩:=St.get (s1.at1) hp'
 refine AF _ ea1 (Aa hi1 ?_)
 obtain rfl:=r1
 refine AG (x:=p) (cl1 0 _ rfl) rfl ?_
 refine AA (b:=c) (j:=0) (x:=v.o) s1 rfl ?_
 obtain ⟨A2,cs2,ea2,hi2,r2,cl2⟩:=St.get (s1.at1) hq'
 refine AF _ ea2 (Aa hi2 ?_)
 obtain rfl:=r2
 refine AG (x:=q) (cl2 0 _ rfl) rfl ?_
 refine AI (PN hs1 ho1 hp hq ks ko s0) ?_
 rintro _ h1 ⟨ψ,g,le,rfl,H⟩
 refine ⟨g,rfl,?_⟩
 obtain ⟨h0,h1',rfl⟩:=Dh hd
 exact AB ⟨rfl,ψ,⟨v.o,v.ps,v.ss.set x.toNat (BB s o),by rw [List.length_set]; exact v.eq⟩,le,rfl,H _ rfl rfl rfl⟩
set_option maxHeartbeats 1000000 in
theorem QZ {φ:AC} {h:AH} {F:List Chk} {c:Nat} {v:K7} {t:Slc} {l:List Int} {a':List AW} (hd:L4 v.ss l=some a') (s0:St φ (⟨Rep.row 3 (Ro.int .i64), [.slice t.1 t.2.1 t.2.2],l⟩::(K8 c v++F)) h):
 CallsH Tryz.prog 144 [.slice t.1 t.2.1 t.2.2, .pointer (some ⟨c,0,none⟩)] h (Ar fun u h'=>u= .tuple #[] ∧ ∃(ψ:AC) (v':K7),Sub φ ψ∧v'.ss=a'∧St ψ (K8 c v'++F) h'):=by
 unfold L4 at hd
 obtain ⟨l0,hl0,hd⟩:=Option.bind_eq_some_iff.1 hd
 obtain ⟨a1,ha1,hd⟩:=Option.bind_eq_some_iff.1 hd
 obtain ⟨ψ0,le0,k0,s1⟩:=s0.freezeRow
 have hlen:=k0.length
 obtain ⟨_,hl1,_⟩:=Cz hl0
 have hcut:cut l 1 (t.2.1:Int)=some (l.drop 1):=by
  unfold cut
  rw [if_pos ⟨by omega,by omega,by omega⟩,Int.toNat_natCast,hlen,List.take_length]
  rfl
 obtain ⟨q1,kt⟩:=k0.cut hcut (sz:=1) rfl
 refine AR mixed Tryz.func144 ?_
 rw [Jv]
 unfold Gh
 refine Aa q1 ?_
 have ntl:=kt.length
 dsimp only at ntl
 refine AT (fun (z:Int×Unit) w (g:List AW)=> ∃(ψ:AC) (v':K7),Sub ψ0 ψ∧v'.ss=g∧St ψ (K8 c v'++F) w) (g:=a1) ?_ ?_
 ·refine BJ ha1 (fun i (z:Int×Unit) w g=>z.1=i∧ ∃(ψ:AC) (v':K7),Sub ψ0 ψ∧v'.ss=g∧St ψ (K8 c v'++F) w) ((0:Int),()) rfl ⟨rfl,ψ0,v,Sub.refl _,rfl,s1⟩ ?_ ?_
  ·rintro i z w g e ⟨hz,ψ,v',le,hal,st⟩ he h0 hlt hw
   subst hz
   subst hal
   refine Ai (by rw [ntl]; exact decide_eq_true hlt) ?_
   obtain ⟨y,hy,he⟩:=Option.bind_eq_some_iff.1 he
   obtain ⟨A1,cs1,ea1,hi1,r1,cl1⟩:=(kt.mono le).get hy
   refine AF _ ea1 (Aa hi1 ?_)
   obtain rfl:=r1
   refine AG (x:=y) (Am st.sub (cl1 0 _ rfl)) rfl ?_
   unfold Mj at he
   obtain ⟨s,hs,he⟩:=Option.bind_eq_some_iff.1 he
   obtain ⟨o,ho,he⟩:=Option.bind_eq_some_iff.1 he
   obtain ⟨⟨ks,ko⟩,he⟩:=B0 he
   obtain ⟨_,hs1,p,hp,hp'⟩:=Hp v'.eq hs
   obtain ⟨_,ho1,q,hq,hq'⟩:=Hp v'.eq ho
   have st1:=(HM st).2
   refine AA (b:=c) (j:=0) (x:=v'.o) st1 rfl ?_
   obtain ⟨A0,cs0,ea0,hi0,r0,cl0⟩:=(k0.mono le).get hl0
   refine AF _ ea0 (Aa hi0 ?_)
   obtain rfl:=r0
   refine AG (x:=l0) (Am st.sub (cl0 0 _ rfl)) rfl ?_
   obtain ⟨A2,cs2,ea2,hi2,r2,cl2⟩:=St.get (st1.at1) hp'
   refine AF _ ea2 (Aa hi2 ?_)
   obtain rfl:=r2
   refine AG (x:=p) (cl2 0 _ rfl) rfl ?_
   refine AA (b:=c) (j:=0) (x:=v'.o) st1 rfl ?_
   obtain ⟨A3,cs3,ea3,hi3,r3,cl3⟩:=St.get (st1.at1) hq'
   refine AF _ ea3 (Aa hi3 ?_)
   obtain rfl:=r3
   refine AG (x:=q) (cl3 0 _ rfl) rfl ?_
   refine AI (PN hs1 ho1 hp hq ks ko st) ?_
   rintro _ h1 ⟨ψ2,g2,le2,rfl,H⟩
   refine ⟨g2,rfl,?_⟩
   obtain ⟨h0',h1',rfl⟩:=Dh he
   exact Ag (IntKind.wrap .i64 (z.1+(1:Int)),()) _ rfl rfl ⟨hw,ψ2,⟨v'.o,v'.ps,v'.ss.set l0.toNat (BB s o),by rw [List.length_set]; exact v'.eq⟩,le.trans le2,rfl,H _ rfl rfl rfl⟩
  ·rintro i z w ⟨hz,H⟩ hge
   subst hz
   refine AX (by rw [ntl]; exact decide_eq_false (Int.not_lt.2 hge)) ?_
   exact AJ (AK (z.1,()) rfl H)
 ·rintro _ h2 ⟨ψ1,v1,le1,rfl,st1⟩
  refine Aa q1 ?_
  refine AT (fun (z:Int×Unit) w (g:List AW)=> ∃(ψ:AC) (v':K7),Sub ψ1 ψ∧v'.ss=g∧St ψ (K8 c v'++F) w) (g:=a') ?_ ?_
  ·refine BJ hd (fun i (z:Int×Unit) w g=>z.1=i∧ ∃(ψ:AC) (v':K7),Sub ψ1 ψ∧v'.ss=g∧St ψ (K8 c v'++F) w) ((0:Int),()) rfl ⟨rfl,ψ1,v1,Sub.refl _,rfl,st1⟩ ?_ ?_
   ·rintro i z w g e ⟨hz,ψ,v',le',hal,st⟩ he h0 hlt hw
    have le:=le1.trans le'
    subst hz
    subst hal
    refine Ai (by rw [ntl]; exact decide_eq_true hlt) ?_
    obtain ⟨y,hy,he⟩:=Option.bind_eq_some_iff.1 he
    obtain ⟨A1,cs1,ea1,hi1,r1,cl1⟩:=(kt.mono le).get hy
    refine AF _ ea1 (Aa hi1 ?_)
    obtain rfl:=r1
    refine AG (x:=y) (Am st.sub (cl1 0 _ rfl)) rfl ?_
    obtain ⟨s,hs,he⟩:=Option.bind_eq_some_iff.1 he
    obtain ⟨s',hs',he⟩:=Option.bind_eq_some_iff.1 he
    obtain ⟨_,hs1,p,hp,hp'⟩:=Hp v'.eq hs
    obtain ⟨g0,st2⟩:=HM st
    refine AA (b:=c) (j:=0) (x:=v'.o) st2 rfl ?_
    refine AA (b:=c) (j:=0) (x:=v'.o) st2 rfl ?_
    obtain ⟨A0,cs0,ea0,hi0,r0,cl0⟩:=(k0.mono le).get hl0
    refine AF _ ea0 (Aa hi0 ?_)
    obtain rfl:=r0
    refine AG (x:=l0) (Am st.sub (cl0 0 _ rfl)) rfl ?_
    obtain ⟨A2,cs2,ea2,hi2,r2,cl2⟩:=St.get (st2.at1) hp'
    refine AF _ ea2 (Aa hi2 ?_)
    obtain rfl:=r2
    refine AG (x:=p) (cl2 0 _ rfl) rfl ?_
    obtain ⟨rr,a1',a2'⟩:=D3 hp hs1
    obtain ⟨B,hB⟩: ∃B:List Chk,B= [⟨Rep.raw 195, [.pointer (some ⟨c,0,none⟩)], [.slice v'.o.1 v'.o.2.1 v'.o.2.2]⟩,⟨Rep.row 139 Ro.pt, [.slice v'.o.1 v'.o.2.1 v'.o.2.2],v'.ps⟩] :=⟨_,rfl⟩
    have st3:St ψ (B++(AP v'.ps v'.ss++F)) w:=by rw [hB]; exact st2
    have mv:(B++(AP v'.ps v'.ss++F)).Perm (BR p s::(B++(rr++F))):=(List.Perm.append_left B (List.Perm.append_right F a1')).trans List.perm_middle
    refine AI (Jy (st3.perm mv) hs') ?_
    rintro _ h3 ⟨ψ2,p2,s2,le2,rfl,rfl,st4⟩
    refine ⟨p2,rfl,?_⟩
    have st5:St ψ2 (BR p2 s2::(B++(AP v'.ps v'.ss++F))) h3:=st4.perm (List.Perm.cons _ mv.symm)
    have st6:St ψ2 (⟨Rep.raw 195, [.pointer (some ⟨c,0,none⟩)], [.slice v'.o.1 v'.o.2.1 v'.o.2.2]⟩::⟨Rep.row 139 Ro.pt, [.slice v'.o.1 v'.o.2.1 v'.o.2.2],v'.ps⟩::BR p2 s2::(AP v'.ps v'.ss++F)) h3:=by
     rw [hB] at st5
     exact st5.perm ((List.Perm.swap _ _ _).trans (List.Perm.cons _ (List.Perm.swap _ _ _)))
    refine AO (st6.cell rfl) ?_
    obtain ⟨y0,y1,rfl⟩:=Dh he
    have hyl:y.toNat<v'.ps.length:=by have:=v'.eq; omega
    have hset:Dq v'.ps y p2=some (v'.ps.set y.toNat p2):=by unfold Dq; rw [if_pos ⟨y0,by have:=v'.eq; omega⟩]
    obtain ⟨A4,ea4,q4⟩:=St.there (st6.at1) hset
    refine AF _ ea4 (Aa q4 (ID (st6.at1) hset (v:= .pointer p2) rfl ea4 ?_))
    intro h4 st7
    have hyp:v'.ps[y.toNat]? =some v'.ps[y.toNat] :=List.getElem?_eq_getElem hyl
    have hys:v'.ss[y.toNat]? =some (v'.ss[y.toNat]'(by have:=v'.eq; omega)):=List.getElem?_eq_getElem _
    obtain ⟨r3,c1,c2⟩:=Ho hyp hys
    refine Ag (IntKind.wrap .i64 (z.1+(1:Int)),()) _ rfl rfl ⟨hw,ψ2,⟨v'.o,v'.ps.set y.toNat p2,v'.ss.set y.toNat s2,by rw [List.length_set,List.length_set]; exact v'.eq⟩,le'.trans le2,rfl,?_⟩
    refine Mi (g0.mono le2) ?_
    have st8:St ψ2 (BR p2 s2::(AP v'.ps v'.ss++(⟨Rep.raw 195, [.pointer (some ⟨c,0,none⟩)], [.slice v'.o.1 v'.o.2.1 v'.o.2.2]⟩::⟨Rep.row 139 Ro.pt, [.slice v'.o.1 v'.o.2.1 v'.o.2.2],v'.ps.set y.toNat p2⟩::F))) h4:=by
     refine st7.perm ?_
     refine ((List.Perm.cons _ (List.Perm.swap _ _ _)).trans (List.Perm.swap _ _ _)).trans (List.Perm.cons _ ?_)
     refine (List.Perm.trans ?_ (List.perm_middle (l₁:=AP v'.ps v'.ss)).symm)
     refine (List.Perm.trans (List.Perm.swap _ _ _) (List.Perm.cons _ ?_))
     exact (List.perm_middle (l₁:=AP v'.ps v'.ss)).symm
    have st9:=st8.perm (List.Perm.cons _ (List.Perm.append_right _ c1))
    have st10:=(st9.at 1).tail
    have st11:=st10.perm (((List.Perm.append_right _ (c2 p2 s2)).symm:(BR p2 s2::r3++_).Perm _))
    refine st11.perm ?_
    exact (List.perm_middle (l₁:=AP _ _)).trans (List.Perm.cons _ (List.perm_middle (l₁:=AP _ _)))
   ·rintro i z w ⟨hz,H⟩ hge
    subst hz
    refine AX (by rw [ntl]; exact decide_eq_false (Int.not_lt.2 hge)) ?_
    exact AJ (AK (z.1,()) rfl H)
  ·rintro _ h3 ⟨ψ2,v2,le2,hal2,st3⟩
   exact AB ⟨rfl,ψ2,v2,(le0.trans le1).trans le2,hal2,st3⟩
theorem St.box {φ:AC} {h:AH} {Γ:List Chk} {ty:TypeId} {b:Nat} {v:Value} (H:St φ (⟨Rep.raw ty, [.pointer (some ⟨b,0,none⟩)], [v]⟩::Γ) h): ∃ψ,Sub φ ψ∧DS ψ ⟨b,0,none⟩=some v∧St ψ Γ h:=by
 obtain ⟨ψ,F,le,⟨b',e,hb,hF⟩,hk,s⟩:=St.hide H
 cases e
 refine ⟨ψ,le,?_,s⟩
 have:=hk b ((hF b).2 rfl)
 unfold DS
 dsimp only
 rw [this,hb]
 rfl
noncomputable def Ve (vl vp:Value) (edges_0_p:Option Addr) (edges_0_n edges_0_c:Nat) (n_1:Int):T:=
 T.new (.cells #[(.slice edges_0_p edges_0_n edges_0_c)] 97 (0,0)) fun r1=>
 T.new (.cells #[(.int .i64 n_1)] 3 (0,0)) fun r2=>
 T.new (.cells #[vl] 228 (0,0)) fun r3=>
 T.new (.cells #[vp] 217 (0,0)) fun r4=>
 T.load (.int .i64) ⟨r2,0,none⟩ fun (t5:Int)=>
 T.sem (Instr.makeSlice 30 (.int .i64 t5) (.int .i64 t5)) (.one aS) fun (t6:Slc)=>
 T.new (.cells #[(.slice none 0 0)] 30 (0,0)) fun r7=>
 T.store ⟨r7,0,none⟩ (.slice t6.1 t6.2.1 t6.2.2) <|
 T.new (.cells #[(.slice none 0 0)] 30 (0,0)) fun r8=>
 T.new (.cells #[.nilFunc] 249 (0,0)) fun r9=>
 T.store ⟨r9,0,none⟩ (.func (.func 164) #[] #[(.pointer (some ⟨r8,0,none⟩)),(.pointer (some ⟨r7,0,none⟩)),(.pointer (some ⟨r1,0,none⟩)),(.pointer (some ⟨r2,0,none⟩)),(.pointer (some ⟨r9,0,none⟩)),(.pointer (some ⟨r3,0,none⟩)),(.pointer (some ⟨r4,0,none⟩))]) <|
 T.load (.int .i64) ⟨r2,0,none⟩ fun (t10:Int)=>
 T.block 0 [aI]
 (T.loop [aI] [(.int .i64 (0:Int))] fun (z12:Int×Unit)=>
 cond (decide (z12.1<t10))
 (T.load .slice ⟨r7,0,none⟩ fun (t13:Slc)=>
 deref t13.1 fun a14=>
 chk (0≤z12.1∧z12.1< (t13.2.1:Nat)) <|
 T.load (.int .i64) (a14.add (Int.toNat z12.1 * 1)) fun (t15:Int)=>
 T.join []
 (cond (t15==(0:Int))
 (T.load .func ⟨r9,0,none⟩ fun (t17:Option (Fn×Array Value×Array Value))=>
 Ig false Tryz.prog (BW.val .func t17) #[(.int .i64 z12.1)] fun (t18:Value)=>
 T.out [])
 (T.out [])) fun (z16:Unit)=>
 T.out [(.int .i64 (IntKind.wrap .i64 (z12.1+(1:Int))))])
 (T.brk 0 [(.int .i64 z12.1)])) fun (z11:Int×Unit)=>
 T.ret (.tuple #[])
theorem Wm:NY Tryz.prog 30 3 (.int .i64 0):=⟨Tryz.underlying30,⟨Tryz.t3,by kernel_rfl,rfl,⟨_,rfl,rfl⟩,by decide⟩⟩
section
variable {X A:Type} (K:X→List Chk) (al:X→A) (ledA:A→Int→Int→Option A) (partA:A→List Int→Option A) (gl gp:Nat) (bl bp:Array Value)
set_option maxHeartbeats 1000000 in
theorem TX {φ:AC} {h:AH} {F:List Chk} {ll:List (List Int)} {n:Int} {t:Slc} {fuel:Nat} {v:X} {st':DE A} (hl:TR K al ledA gl bl) (hp:QW K al partA gp bp) (cl:EE gl) (cp:EE gp)
 (hden:Ab Tryz.prog Tryz.f143 [.slice t.1 t.2.1 t.2.2, .int .i64 n, .func (.func gl) #[] bl, .func (.func gp) #[] bp] =Ve (.func (.func gl) #[] bl) (.func (.func gp) #[] bp) t.1 t.2.1 t.2.2 n)
 (k:Ro.SliceIs (Ro.list (Ro.int .i64)) φ t ll) (hd:Nb ll n ledA partA fuel (al v)=some st') (s0:St φ (K v++F) h):
 CallsH Tryz.prog 143 [.slice t.1 t.2.1 t.2.2, .int .i64 n, .func (.func gl) #[] bl, .func (.func gp) #[] bp] h (Ar fun u h'=>u= .tuple #[] ∧ ∃(ψ:AC) (v':X),Sub φ ψ∧al v'=st'.2.2∧St ψ (K v'++F) h'):=by
 refine AR mixed Tryz.func143 ?_
 rw [hden]
 unfold Ve
 unfold Nb at hd
 obtain ⟨⟨hn0,hn1⟩,hd⟩:=B0 hd
 refine AY (vs:= [.slice t.1 t.2.1 t.2.2]) s0 ?_
 intro r1 h1 s1
 obtain ⟨φ1,le1,c1,s1⟩:=St.box s1
 refine AY (vs:= [.int .i64 n]) s1 ?_
 intro r2 h2 s2
 obtain ⟨φ2,le2,c2,s2⟩:=St.box s2
 refine AY (vs:= [.func (.func gl) #[] bl]) s2 ?_
 intro r3 h3 s3
 obtain ⟨φ3,le3,c3,s3⟩:=St.box s3
 refine AY (vs:= [.func (.func gp) #[] bp]) s3 ?_
 intro r4 h4 s4
 obtain ⟨φ4,le4,c4,s4⟩:=St.box s4
 refine AG (x:=n) (Am s4.sub (Am (le3.trans le4) c2)) rfl ?_
 refine Ir (r:=Ro.int .i64) (x:=(0:Int)) (l:=List.replicate n.toNat 0) Wm s4 rfl rfl (by unfold FB; rw [if_pos ⟨hn0,hn1⟩]) ?_
 intro o h5 s5
 refine AY (vs:= [.slice none 0 0]) s5 ?_
 intro r7 h6 s6
 refine CP (b:=r7) (j:=0) (v:= .slice o.1 o.2.1 o.2.2) s6 rfl (Nat.lt_succ_self 0) ?_
 intro h7 s7
 refine AY (vs:= [.slice none 0 0]) s7 ?_
 intro r8 h8 s8
 refine AY (vs:= [.nilFunc]) s8 ?_
 intro r9 h9 s9
 refine CP (b:=r9) (j:=0) (v:= .func (.func 164) #[] (Fz r8 r7 r1 r2 r9 r3 r4)) s9 rfl (Nat.lt_succ_self 0) ?_
 intro h10 s10
 obtain ⟨φ5,le5,c9,s11⟩:=St.box s10
 have B:Mh gl gp bl bp φ5 t n r8 r7 r1 r2 r9 r3 r4:=⟨Am (((le2.trans le3).trans le4).trans le5) c1,Am ((le3.trans le4).trans le5) c2,c9,Am (le4.trans le5) c3,Am le5 c4⟩
 have le0:Sub φ φ5:=(((le1.trans le2).trans le3).trans le4).trans le5
 have s12:St φ5 (GJ r8 r7 (none,0,0) o [] (List.replicate n.toNat 0) ++(K v++F)) h10:=by
  have:=St.nil 3 (Ro.int .i64) s11
  exact this.at1
 refine AG (x:=n) (Am s12.sub B.num) rfl ?_
 refine AT (fun (z:Int×Unit) w g=>Nf K al r8 r7 o F φ5 w g) (g:=st') ?_ ?_
 ·refine BJ hd (fun i (z:Int×Unit) w g=>z.1=i∧Nf K al r8 r7 o F φ5 w g) ((0:Int),()) rfl ⟨rfl,φ5,v,(none,0,0),Sub.refl _,rfl,s12⟩ ?_ ?_
  ·rintro i z w g e ⟨hz,ψ,v',s'',le,hal,st⟩ he h0 hlt hw
   subst hz
   refine Ai (decide_eq_true hlt) ?_
   obtain ⟨e0,he0,he⟩:=Option.bind_eq_some_iff.1 he
   refine AA (b:=r7) (j:=0) (x:=o) st.at2 rfl ?_
   obtain ⟨A2,cs2,ea2,hi2,q2,cl2⟩:=St.get (st.at3) he0
   refine AF _ ea2 (Aa hi2 ?_)
   obtain rfl:=q2
   refine AG (x:=e0) (cl2 0 _ rfl) rfl ?_
   refine Ao (fun (_:Unit) w g=>Nf K al r8 r7 o F φ5 w g) (g:=e) ?_ ?_
   ·refine AL he rfl (fun _ hg=> ?_) (fun _ hg=> ?_)
    ·refine AG (x:=some (.func 164,#[],Fz r8 r7 r1 r2 r9 r3 r4)) (Am st.sub (Am le B.visit)) rfl ?_
     obtain ⟨gl1,gs1,ga1⟩:=e
     obtain ⟨gl0,gs0,ga0⟩:=g
     dsimp only at hal
     subst hal
     refine EE.call PL (PM K al ledA partA gl gp bl bp hl hp cl cp fuel (Mh.mono gl gp bl bp B le) (k.mono (le0.trans le)) hg st) ?_ (fun _ _ hS=>hS.1)
     rintro h6 ⟨_,ψ2,v2,s2',le2,hal2,st2⟩
     exact AS () rfl ⟨ψ2,v2,s2',le.trans le2,hal2,st2⟩
    ·obtain rfl:=Option.some.inj hg
     exact AS () rfl ⟨ψ,v',s'',le,hal,st⟩
   ·rintro _ h6 H
    exact Ag (IntKind.wrap .i64 (z.1+(1:Int)),()) _ rfl rfl ⟨hw,H⟩
  ·rintro i z w ⟨hz,H⟩ hge
   subst hz
   refine AX (decide_eq_false (Int.not_lt.2 hge)) ?_
   exact AJ (AK (z.1,()) rfl H)
 ·rintro z h11 ⟨ψ,v',s'',le,hal,st⟩
  exact AB ⟨rfl,ψ,v',le0.trans le,hal,st.tail.tail.tail.tail⟩
end
theorem TY:EE 142:=⟨Tryz.f142,Tryz.func142,by decide,by kernel_rfl,by kernel_rfl⟩
theorem TZ:EE 144:=⟨Tryz.f144,Tryz.func144,by decide,by kernel_rfl,by kernel_rfl⟩
theorem R8 {φ:AC} {h:AH} {F:List Chk} {ll:List (List Int)} {n:Int} {t:Slc} {fuel:Nat} {c:Nat} {v:K7} {st':DE (List AW)} (k:Ro.SliceIs (Ro.list (Ro.int .i64)) φ t ll) (hd:Nb ll n Mj L4 fuel v.ss=some st') (s0:St φ (K8 c v++F) h):
 CallsH Tryz.prog 143 [.slice t.1 t.2.1 t.2.2, .int .i64 n, .func (.func 142) #[] #[.pointer (some ⟨c,0,none⟩)], .func (.func 144) #[] #[.pointer (some ⟨c,0,none⟩)]] h (Ar fun u h'=>u= .tuple #[] ∧ ∃(ψ:AC) (v':K7),Sub φ ψ∧v'.ss=st'.2.2∧St ψ (K8 c v'++F) h'):=
 TX (K8 c) K7.ss Mj L4 142 144 #[.pointer (some ⟨c,0,none⟩)] #[.pointer (some ⟨c,0,none⟩)] (fun hd s=>QY hd s) (fun hd s=>QZ hd s) TY TZ (KW _ _ _ _ _ _) k hd s0
end Go.Proofs.YteolcjbobmpdiaaGreatDoor.Dg
namespace Go.Proofs.YteolcjbobmpdiaaGreatDoor
open Go Go.Eng
set_option linter.unusedVariables false
set_option maxRecDepth 100000
noncomputable def GK (s_0:CY):Option Int:=
 some (s_0.1)
theorem FN {φ:AC} {h:AH} {F:List Chk} {s_0:Option Addr} {a:CY} (s0:St φ (cO 239 DJ s_0 a::F) h) {r:Int} (hd:GK a=some r):
 CallsH Tryz.prog 141 [(.pointer s_0)] h (Ar fun v h'=> ∃ψ:AC,∃y:Int,Sub φ ψ∧v=((.one aI):Sh).val y∧y=r∧St ψ (cO 239 DJ s_0 a::F) h'):=by
 refine AR mixed Tryz.func141 ?_
 rw [I3]
 unfold GF
 unfold GK at hd
 obtain ⟨d,e,c,b⟩:=Kl s0
 obtain rfl:=c
 refine AF _ rfl ?_
 refine AA (x:=(a.1)) b.at1 rfl ?_
 obtain rfl:=iS hd
 exact AB ⟨φ,(a.1),(Sub.refl _),rfl,rfl,(He (x0:=(a.1)) b.at1.at1)⟩
end Go.Proofs.YteolcjbobmpdiaaGreatDoor
namespace Go.Proofs.YteolcjbobmpdiaaGreatDoor.Dg
open Go Go.Eng
set_option linter.unusedVariables false
set_option maxRecDepth 100000
theorem Nh:G5 Tryz.prog 195 195 139 1:=⟨Tryz.underlying195, .inl Tryz.underlying195,⟨Tryz.t139,by kernel_rfl,rfl,⟨_,rfl,rfl⟩,by decide,by decide⟩,by decide⟩
theorem RE:G5 Tryz.prog 97 97 30 1:=⟨Tryz.underlying97, .inl Tryz.underlying97,⟨Tryz.t30,by kernel_rfl,rfl,⟨_,rfl,rfl⟩,by decide,by decide⟩,by decide⟩
abbrev EO (t:Slc) (ps:List (Option Addr)):Chk:=⟨Rep.row 139 Ro.pt, [.slice t.1 t.2.1 t.2.2],ps⟩
abbrev Qa (t:Slc) (ls:List (List Int)):Chk:=⟨Rep.row 30 (Ro.list (Ro.int .i64)), [.slice t.1 t.2.1 t.2.2],ls⟩
theorem K9 {α β:Type} {l l':List α} {x:α} (h:app l [x] =some l') {m:List β} (hm:m.length=l.length) (y:β):app m [y] =some (m++ [y])∧l'=l++ [x] :=by
 obtain ⟨h1,h2⟩:=MR h
 refine ⟨?_,h2⟩
 unfold app
 simp at h1 ⊢
 omega
theorem Mk {φ:AC} {h:AH} {F:List Chk} {ps:List (Option Addr)} {ss:List AW} {t:Slc} {p:Option Addr} {s:AW} (hl:ps.length=ss.length) (H:St φ (EO t (ps++ [p])::BR p s::(AP ps ss++F)) h):St φ (EO t (ps++ [p])::(AP (ps++ [p]) (ss++ [s]) ++F)) h:=by
 rw [Jc hl,List.append_assoc]
 exact H.perm (List.Perm.cons _ (List.perm_middle (l₁:=AP ps ss)).symm)
theorem GL {φ:AC} {h:AH} {F:List Chk} {ps:List (Option Addr)} {ss:List AW} {i:Nat} {p:Option Addr} {s:AW} (hp:ps[i]? =some p) (hs:ss[i]? =some s) (H:St φ (AP ps ss++F) h):
 ∃r,St φ (BR p s::(r++F)) h∧ ∀(ψ:AC) (h':AH) (Γ:List Chk),St ψ (Γ++BR p s::(r++F)) h'→St ψ (Γ++(AP ps ss++F)) h':=by
 obtain ⟨r,a1,_⟩:=D3 hp hs
 exact ⟨r,H.perm (List.Perm.append_right F a1),fun ψ h' Γ H'=>H'.perm (List.Perm.append_left Γ (List.Perm.append_right F a1).symm)⟩
theorem Vf (A B C:List Chk):(A++(B++C)).Perm (B++(A++C)):=by
 rw [← List.append_assoc,← List.append_assoc]
 exact List.Perm.append_right _ List.perm_append_comm
theorem LA {φ:AC} {h:AH} {F:List Chk} {p:Option Addr} {s:AW} (gk:Glob φ) (s0:St φ (BR p s::F) h) {r:List Int} (hd:IG s=some r):
 CallsH Tryz.prog 70 [.pointer p] h (Ar fun v h'=> ∃(ψ:AC) (y:Slc),Sub φ ψ∧v=((.one aS):Sh).val y∧Ro.SliceIs (Ro.int .i64) ψ y r∧St ψ (BR p s::F) h'):=by
 refine (TM gk s0 hd).mono ?_
 rintro e h' ⟨v,rfl,ψ,y,l,le,rfl,rfl,s1⟩
 obtain ⟨ψ2,le2,k2,s2⟩:=s1.freezeRow
 exact ⟨_,rfl,ψ2,y,le.trans le2,rfl,k2,s2⟩
noncomputable def G1 (ll:List (List Int)) (B:List AW):Option (List AW):=
 (forS 0 (B.length:Int) (0:Int) fun i w=>(idx B i).bind fun s=>some (if s.1>w then s.1 else w)).bind fun wide=>
 (forS 0 (B.length:Int) ([] :List AW) fun i acc=>(idx B i).bind fun s=>(IG s).bind fun l=>(CZ wide l).bind fun s'=>app acc [s']).bind fun all=>
 (Nb ll (B.length:Int) Mj L4 B.length all).bind fun st=>
 forS 0 (B.length:Int) ([] :List AW) fun i acc=>(idx B i).bind fun s=>(idx st.2.2 i).bind fun a=>(IG a).bind fun l=>(CZ s.1 l).bind fun s'=>app acc [s']
set_option maxHeartbeats 1000000 in
theorem Ni {φ:AC} {h:AH} {F:List Chk} {t b:Slc} {ll:List (List Int)} {B:List AW} {ps:List (Option Addr)} (gk:Glob φ) (k:Ro.SliceIs (Ro.list (Ro.int .i64)) φ t ll) (kb:Ro.SliceIs Ro.pt φ b ps) (hl:ps.length=B.length) (s0:St φ (AP ps B++F) h) {r:List AW} (hd:G1 ll B=some r):
 CallsH Tryz.prog 111 [.slice t.1 t.2.1 t.2.2, .slice b.1 b.2.1 b.2.2] h (Ar fun v h'=> ∃(ψ:AC) (y:Slc) (qs:List (Option Addr)),Sub φ ψ∧v=((.one aS):Sh).val y∧qs.length=r.length∧St ψ (EO y qs::(AP qs r++(AP ps B++F))) h'):=by
 refine AR mixed Tryz.func111 ?_
 rw [Kr]
 unfold IF
 unfold G1 at hd
 obtain ⟨wide,hw1,hd1⟩:=Option.bind_eq_some_iff.1 hd
 clear hd
 obtain ⟨all,ha1,hd2⟩:=Option.bind_eq_some_iff.1 hd1
 clear hd1
 obtain ⟨st',hk1,hd3⟩:=Option.bind_eq_some_iff.1 hd2
 clear hd2
 have nb:b.2.1=B.length:=kb.length.trans hl
 refine AT (fun (z:Int×Int×Unit) w (g:Int)=>z.2.1=g∧ ∃ψ,Sub φ ψ∧St ψ (AP ps B++F) w) (g:=wide) ?_ ?_
 ·refine BJ hw1 (fun i (z:Int×Int×Unit) w (g:Int)=>z.1=i∧z.2.1=g∧ ∃ψ,Sub φ ψ∧St ψ (AP ps B++F) w) ((0:Int),(0:Int),()) rfl ⟨rfl,rfl,φ,Sub.refl _,s0⟩ ?_ ?_
  ·rintro i z w g e ⟨hz,hg,ψ,le,st⟩ he h0 hlt hw
   subst hz
   subst hg
   refine Ai (by rw [nb]; exact decide_eq_true hlt) ?_
   obtain ⟨s,hs,he⟩:=Option.bind_eq_some_iff.1 he
   obtain rfl:=Option.some.inj he
   obtain ⟨_,hs1,p,hp,hp'⟩:=Hp hl hs
   obtain ⟨A1,cs1,ea1,hi1,r1,cl1⟩:=(kb.mono le).get hp'
   refine AF _ ea1 (Aa hi1 ?_)
   obtain rfl:=r1
   refine AG (x:=p) (Am st.sub (cl1 0 _ rfl)) rfl ?_
   obtain ⟨rr,q1,q2⟩:=GL hp hs1 st
   refine AI (FN q1 (r:=s.1) rfl) ?_
   rintro _ h1 ⟨ψ1,y,le1,rfl,rfl,st1⟩
   refine ⟨s.1,rfl,?_⟩
   exact Ag (IntKind.wrap .i64 (z.1+(1:Int)),(if s.1>z.2.1 then s.1 else z.2.1),()) _ rfl rfl ⟨hw,rfl,ψ1,le.trans le1,q2 ψ1 h1 [] st1⟩
  ·rintro i z w ⟨hz,H⟩ hge
   subst hz
   refine AX (by rw [nb]; exact decide_eq_false (Int.not_lt.2 hge)) ?_
   exact AJ (AK z rfl H)
 ·rintro z1 h1 ⟨rfl,ψ1,le1,s1⟩
  refine AY (vs:= [.slice none 0 0]) s1 ?_
  intro r6 h2 s2
  refine AT (fun (z:Int×Unit) w (g:List AW)=> ∃(ψ:AC) (o:Slc) (qs:List (Option Addr)),Sub φ ψ∧qs.length=g.length∧St ψ (⟨Rep.raw 195, [.pointer (some ⟨r6,0,none⟩)], [.slice o.1 o.2.1 o.2.2]⟩::EO o qs::(AP qs g++(AP ps B++F))) w) (g:=all) ?_ ?_
  ·refine BJ ha1 (fun i (z:Int×Unit) w (g:List AW)=>z.1=i∧ ∃(ψ:AC) (o:Slc) (qs:List (Option Addr)),Sub φ ψ∧qs.length=g.length∧St ψ (⟨Rep.raw 195, [.pointer (some ⟨r6,0,none⟩)], [.slice o.1 o.2.1 o.2.2]⟩::EO o qs::(AP qs g++(AP ps B++F))) w) ((0:Int),()) rfl ⟨rfl,ψ1,(none,0,0), [],le1,rfl,(St.nil 139 Ro.pt s2).at1⟩ ?_ ?_
   ·rintro i z w g e ⟨hz,ψ,o,qs,le,hlq,st⟩ he h0 hlt hw
    subst hz
    refine Ai (by rw [nb]; exact decide_eq_true hlt) ?_
    obtain ⟨s,hs,he⟩:=Option.bind_eq_some_iff.1 he
    obtain ⟨l,hls,he⟩:=Option.bind_eq_some_iff.1 he
    obtain ⟨s',hs',he⟩:=Option.bind_eq_some_iff.1 he
    obtain ⟨_,hs1,p,hp,hp'⟩:=Hp hl hs
    obtain ⟨A1,cs1,ea1,hi1,r1,cl1⟩:=(kb.mono le).get hp'
    refine AF _ ea1 (Aa hi1 ?_)
    obtain rfl:=r1
    refine AG (x:=p) (Am st.sub (cl1 0 _ rfl)) rfl ?_
    refine AA (b:=r6) (j:=0) (x:=o) st rfl ?_
    obtain ⟨Γ,hΓ⟩: ∃Γ:List Chk,Γ=(⟨Rep.raw 195, [.pointer (some ⟨r6,0,none⟩)], [.slice o.1 o.2.1 o.2.2]⟩::EO o qs::AP qs g):=⟨_,rfl⟩
    have st1:St ψ (AP ps B++(Γ++F)) w:=by
     have:St ψ (Γ++(AP ps B++F)) w:=by rw [hΓ]; exact st
     refine this.perm ?_
     rw [← List.append_assoc,← List.append_assoc]
     exact List.Perm.append_right F List.perm_append_comm
    obtain ⟨rr,q1,q2⟩:=GL hp hs1 st1
    refine AI (LA (gk.mono le) q1 hls) ?_
    rintro _ h3 ⟨ψ2,y,le2,rfl,k2,st2⟩
    refine ⟨y,rfl,?_⟩
    have back: ∀ {ψ:AC} {h':AH} (Δ:List Chk),St ψ (Δ++(AP ps B++(Γ++F))) h'→St ψ (⟨Rep.raw 195, [.pointer (some ⟨r6,0,none⟩)], [.slice o.1 o.2.1 o.2.2]⟩::EO o qs::(Δ++(AP qs g++(AP ps B++F)))) h':=fun {ψ h'} Δ H=>by
     rw [hΓ] at H
     refine H.perm ?_
     refine List.Perm.trans (l₂:=Δ++((⟨Rep.raw 195, [.pointer (some ⟨r6,0,none⟩)], [.slice o.1 o.2.1 o.2.2]⟩::EO o qs::AP qs g) ++(AP ps B++F))) (List.Perm.append_left Δ ?_) ?_
     ·rw [← List.append_assoc,← List.append_assoc]
      exact List.Perm.append_right _ List.perm_append_comm
     ·exact (List.perm_middle (l₁:=Δ)).trans (List.Perm.cons _ (List.perm_middle (l₁:=Δ)))
    have st3:=back [] (q2 ψ2 h3 [] st2)
    refine AO (st3.cell rfl) ?_
    refine AI (D2 k2 st3 hs') ?_
    rintro _ h4 ⟨ψ3,p',l3,le3,rfl,rfl,st4⟩
    refine ⟨p',rfl,?_⟩
    refine AO (st4.at1.cell rfl) ?_
    refine AY (vs:= [.pointer p']) st4 ?_
    intro r14 h5 st5
    have cw:=St.cells st5
    refine AO (st5.at2.cell rfl) ?_
    obtain ⟨hap,rfl⟩:=K9 he hlq p'
    refine Aj (r:=Ro.pt) (ms:= [p']) Nh (st5.tail.at2) rfl cw (.cons (a:= [_]) rfl .nil) rfl hap ?_
    intro t15 h6 st6
    refine CP (b:=r6) (j:=0) (v:= .slice t15.1 t15.2.1 t15.2.2) (st6.at2) rfl (Nat.lt_succ_self 0) ?_
    intro h7 st7
    exact Ag (IntKind.wrap .i64 (z.1+(1:Int)),()) _ rfl rfl ⟨hw,ψ3,t15,qs++ [p'],(le.trans le2).trans le3,by simp [hlq],(Mk hlq (st7.tail) |>fun H=>by
     rw [Jc hlq,List.append_assoc]
     refine st7.perm (List.Perm.cons _ (List.Perm.cons _ ?_))
     exact (List.perm_middle (l₁:=AP qs g)).symm)⟩
   ·rintro i z w ⟨hz,H⟩ hge
    subst hz
    refine AX (by rw [nb]; exact decide_eq_false (Int.not_lt.2 hge)) ?_
    exact AJ (AK z rfl H)
  ·rintro z7 h3 ⟨ψ2,o,qs,le2,hlq,s3⟩
   rw [← nb] at hk1
   have s4:St ψ2 (K8 r6 ⟨o,qs,all,hlq⟩ ++(AP ps B++F)) h3:=Mi (gk.mono le2) s3
   refine AI (R8 (v:=⟨o,qs,all,hlq⟩) (k.mono le2) hk1 s4) ?_
   rintro _ h4 ⟨rfl,ψ3,v',le3,hal,s5⟩
   refine ⟨(),rfl,?_⟩
   obtain ⟨o',qs',all',hlq'⟩:=v'
   dsimp only at hal s5
   subst hal
   obtain ⟨gk3,s6⟩:=HM s5
   have le03:=le2.trans le3
   refine AT (fun (z:Int×Slc×Unit) w (g:List AW)=> ∃(ψ:AC) (us:List (Option Addr)),Sub ψ3 ψ∧us.length=g.length∧St ψ (EO z.2.1 us::(AP us g++(⟨Rep.raw 195, [.pointer (some ⟨r6,0,none⟩)], [.slice o'.1 o'.2.1 o'.2.2]⟩::EO o' qs'::(AP qs' st'.2.2++(AP ps B++F))))) w) (g:=r) ?_ ?_
   ·refine BJ hd3 (fun i (z:Int×Slc×Unit) w (g:List AW)=>z.1=i∧ ∃(ψ:AC) (us:List (Option Addr)),Sub ψ3 ψ∧us.length=g.length∧St ψ (EO z.2.1 us::(AP us g++(⟨Rep.raw 195, [.pointer (some ⟨r6,0,none⟩)], [.slice o'.1 o'.2.1 o'.2.2]⟩::EO o' qs'::(AP qs' st'.2.2++(AP ps B++F))))) w) ((0:Int),((none,0,0):Slc),()) rfl ⟨rfl,ψ3, [],Sub.refl _,rfl,St.nil _ _ s6⟩ ?_ ?_
    ·rintro i z w g e ⟨hz,ψ,us,le,hlu,st⟩ he h0 hlt hw
     subst hz
     refine Ai (by rw [nb]; exact decide_eq_true hlt) ?_
     obtain ⟨s,hs,he⟩:=Option.bind_eq_some_iff.1 he
     obtain ⟨a,ha,he⟩:=Option.bind_eq_some_iff.1 he
     obtain ⟨l,hls,he⟩:=Option.bind_eq_some_iff.1 he
     obtain ⟨s',hs',he⟩:=Option.bind_eq_some_iff.1 he
     obtain ⟨_,hs1,p,hp,hp'⟩:=Hp hl hs
     obtain ⟨_,ha1,q,hq,hq'⟩:=Hp hlq' ha
     obtain ⟨A1,cs1,ea1,hi1,r1,cl1⟩:=(kb.mono (le03.trans le)).get hp'
     refine AF _ ea1 (Aa hi1 ?_)
     obtain rfl:=r1
     refine AG (x:=p) (Am st.sub (cl1 0 _ rfl)) rfl ?_
     obtain ⟨X1,hX1⟩: ∃X1:List Chk,X1=EO z.2.1 us::AP us g:=⟨_,rfl⟩
     have st1:St ψ (⟨Rep.raw 195, [.pointer (some ⟨r6,0,none⟩)], [.slice o'.1 o'.2.1 o'.2.2]⟩::EO o' qs'::(AP qs' st'.2.2++(AP ps B++(F++X1)))) w:=by
      have:St ψ (X1++(⟨Rep.raw 195, [.pointer (some ⟨r6,0,none⟩)], [.slice o'.1 o'.2.1 o'.2.2]⟩::EO o' qs'::(AP qs' st'.2.2++(AP ps B++F)))) w:=by rw [hX1]; exact st
      have h2:=this.perm List.perm_append_comm
      simp only [List.cons_append,List.append_assoc] at h2
      exact h2
     refine AA (b:=r6) (j:=0) (x:=o') st1 rfl ?_
     obtain ⟨A2,cs2,ea2,hi2,r2,cl2⟩:=St.get (st1.at1) hq'
     refine AF _ ea2 (Aa hi2 ?_)
     obtain rfl:=r2
     refine AG (x:=q) (cl2 0 _ rfl) rfl ?_
     obtain ⟨Y1,hY1⟩: ∃Y1:List Chk,Y1=(⟨Rep.raw 195, [.pointer (some ⟨r6,0,none⟩)], [.slice o'.1 o'.2.1 o'.2.2]⟩::EO o' qs'::AP qs' st'.2.2):=⟨_,rfl⟩
     have st2:St ψ (AP ps B++(Y1++(F++X1))) w:=by
      have:St ψ (Y1++(AP ps B++(F++X1))) w:=by rw [hY1]; exact st1
      exact this.perm (Vf _ _ _)
     obtain ⟨rr,q1,q2⟩:=GL hp hs1 st2
     refine AI (FN q1 (r:=s.1) rfl) ?_
     rintro _ h5 ⟨ψ4,y4,le4,rfl,rfl,st3⟩
     refine ⟨s.1,rfl,?_⟩
     have st4:St ψ4 (⟨Rep.raw 195, [.pointer (some ⟨r6,0,none⟩)], [.slice o'.1 o'.2.1 o'.2.2]⟩::EO o' qs'::(AP qs' st'.2.2++(AP ps B++(F++X1)))) h5:=by
      have h1:=q2 ψ4 h5 [] st3
      have h2:St ψ4 (Y1++(AP ps B++(F++X1))) h5:=by
       exact St.perm h1 (Vf (AP ps B) Y1 (F++X1))
      rw [hY1] at h2
      exact h2
     obtain ⟨A3,cs3,ea3,hi3,r3,cl3⟩:=St.get (st4.at1) hq'
     obtain rfl:=r3
     have e12:A3=A2:=Option.some.inj (ea3.symm.trans ea2)
     subst e12
     refine AO (cl3 0 _ rfl) (AO (st4.cell rfl) ?_)
     obtain ⟨Z1,hZ1⟩: ∃Z1:List Chk,Z1= [(⟨Rep.raw 195, [.pointer (some ⟨r6,0,none⟩)], [.slice o'.1 o'.2.1 o'.2.2]⟩:Chk),EO o' qs'] :=⟨_,rfl⟩
     have st5:St ψ4 (AP qs' st'.2.2++(Z1++(AP ps B++(F++X1)))) h5:=by
      have:St ψ4 (Z1++(AP qs' st'.2.2++(AP ps B++(F++X1)))) h5:=by rw [hZ1]; exact st4
      refine this.perm ?_
      rw [← List.append_assoc,← List.append_assoc (AP qs' st'.2.2)]
      exact List.Perm.append_right _ List.perm_append_comm
     obtain ⟨rr2,w1,w2⟩:=GL hq ha1 st5
     refine AI (LA (gk3.mono (le.trans le4)) w1 hls) ?_
     rintro _ h6 ⟨ψ5,y5,le5,rfl,k5,st6⟩
     refine ⟨y5,rfl,?_⟩
     have st7:St ψ5 (EO z.2.1 us::(AP us g++(⟨Rep.raw 195, [.pointer (some ⟨r6,0,none⟩)], [.slice o'.1 o'.2.1 o'.2.2]⟩::EO o' qs'::(AP qs' st'.2.2++(AP ps B++F))))) h6:=by
      have h1:=w2 ψ5 h6 [] st6
      have h2:St ψ5 (X1++(Z1++(AP qs' st'.2.2++(AP ps B++F)))) h6:=by
       refine St.perm h1 ?_
       show (AP qs' st'.2.2++(Z1++(AP ps B++(F++X1)))).Perm _
       refine List.Perm.trans ?_ (List.perm_append_comm (l₁:=Z1++(AP qs' st'.2.2++(AP ps B++F))) (l₂:=X1))
       simp only [List.append_assoc]
       rw [← List.append_assoc,← List.append_assoc Z1]
       exact List.Perm.append_right _ List.perm_append_comm
      rw [hX1,hZ1] at h2
      exact h2
     refine AI (D2 k5 st7 hs') ?_
     rintro _ h7 ⟨ψ6,p',l3,le6,rfl,rfl,st8⟩
     refine ⟨p',rfl,?_⟩
     refine AY (vs:= [.pointer p']) st8 ?_
     intro r27 h8 st9
     have cw:=St.cells st9
     obtain ⟨hap,rfl⟩:=K9 he hlu p'
     refine Aj (r:=Ro.pt) (ms:= [p']) Nh (st9.tail.at1) rfl cw (.cons (a:= [_]) rfl .nil) rfl hap ?_
     intro t28 h9 st10
     exact Ag (IntKind.wrap .i64 (z.1+(1:Int)),t28,()) _ rfl rfl ⟨hw,ψ6,us++ [p'],((le.trans le4).trans le5).trans le6,by simp [hlu],Mk hlu st10⟩
    ·rintro i z w ⟨hz,H⟩ hge
     subst hz
     refine AX (by rw [nb]; exact decide_eq_false (Int.not_lt.2 hge)) ?_
     exact AJ (AK z rfl H)
   ·rintro z h5 ⟨ψ,us,le,hlu,st⟩
    refine AB ⟨ψ,z.2.1,us,le03.trans le,rfl,hlu,?_⟩
    obtain ⟨X1,hX1⟩: ∃X1:List Chk,X1=EO z.2.1 us::AP us r:=⟨_,rfl⟩
    have h1:St ψ (X1++(⟨Rep.raw 195, [.pointer (some ⟨r6,0,none⟩)], [.slice o'.1 o'.2.1 o'.2.2]⟩::EO o' qs'::(AP qs' st'.2.2++(AP ps B++F)))) h5:=by rw [hX1]; exact st
    have h2:=(h1.perm (List.perm_append_comm)).tail.tail
    have h3:St ψ (AP qs' st'.2.2++((AP ps B++F) ++X1)) h5:=by rw [← List.append_assoc]; exact h2
    have h4: ∀(L:List Chk) {M:List Chk},St ψ (L++M) h5→St ψ M h5:=fun L=>by
     induction L with
     | nil=>intro M H; exact H
     | cons c L ih=>intro M H; exact ih H.tail
    have h6:=(h4 _ h3).perm List.perm_append_comm
    rw [hX1] at h6
    exact h6
end Go.Proofs.YteolcjbobmpdiaaGreatDoor.Dg
namespace Go.Proofs.YteolcjbobmpdiaaGreatDoor
open Go Go.Shelf Go.Proofs
set_option maxRecDepth 100000
def Du:Ren:=⟨fun x=>bif Nat.beq x 129 then 179 else bif Nat.beq x 176 then 125 else bif Nat.beq x 249 then 154 else bif Nat.beq x 283 then 192 else bif Nat.beq x 284 then 193 else bif Nat.beq x 285 then 194 else bif Nat.beq x 286 then 195 else bif Nat.beq x 288 then 169 else bif Nat.beq x 317 then 205 else bif Nat.beq x 318 then 206 else bif Nat.beq x 319 then 207 else bif Nat.beq x 320 then 208 else bif Nat.beq x 337 then 211 else bif Nat.beq x 338 then 150 else 0,fun x=>bif Nat.beq x 0 then 0 else bif Nat.beq x 2 then 2 else bif Nat.beq x 3 then 3 else bif Nat.beq x 4 then 4 else bif Nat.beq x 5 then 5 else bif Nat.beq x 9 then 9 else bif Nat.beq x 20 then 20 else bif Nat.beq x 37 then 22 else bif Nat.beq x 46 then 244 else bif Nat.beq x 51 then 263 else bif Nat.beq x 53 then 237 else bif Nat.beq x 171 then 271 else bif Nat.beq x 173 then 273 else bif Nat.beq x 212 then 285 else bif Nat.beq x 213 then 286 else bif Nat.beq x 232 then 291 else bif Nat.beq x 233 then 251 else 0,fun x=>bif Nat.beq x 17 then 1 else bif Nat.beq x 18 then 2 else bif Nat.beq x 19 then 0 else 0⟩
theorem Ut:Lays.n176 Tryz.prog Du where
 mixed:=by kernel_rfl
 f129:=(Tryz.func179).trans (congrArg some (show Tryz.f179=Body.n129 Du by kernel_rfl))
 f176:=(Tryz.func125).trans (congrArg some (show Tryz.f125=Body.n176 Du by kernel_rfl))
 f249:=(Tryz.func154).trans (congrArg some (show Tryz.f154=Body.n249 Du by kernel_rfl))
 f283:=(Tryz.func192).trans (congrArg some (show Tryz.f192=Body.n283 Du by kernel_rfl))
 f284:=(Tryz.func193).trans (congrArg some (show Tryz.f193=Body.n284 Du by kernel_rfl))
 f285:=(Tryz.func194).trans (congrArg some (show Tryz.f194=Body.n285 Du by kernel_rfl))
 f286:=(Tryz.func195).trans (congrArg some (show Tryz.f195=Body.n286 Du by kernel_rfl))
 f288:=(Tryz.func169).trans (congrArg some (show Tryz.f169=Body.n288 Du by kernel_rfl))
 f317:=(Tryz.func205).trans (congrArg some (show Tryz.f205=Body.n317 Du by kernel_rfl))
 f318:=(Tryz.func206).trans (congrArg some (show Tryz.f206=Body.n318 Du by kernel_rfl))
 f319:=(Tryz.func207).trans (congrArg some (show Tryz.f207=Body.n319 Du by kernel_rfl))
 f320:=(Tryz.func208).trans (congrArg some (show Tryz.f208=Body.n320 Du by kernel_rfl))
 f337:=(Tryz.func211).trans (congrArg some (show Tryz.f211=Body.n337 Du by kernel_rfl))
 f338:=(Tryz.func150).trans (congrArg some (show Tryz.f150=Body.n338 Du by kernel_rfl))
 t0:=Tryz.underlying0
 a0:=Tryz.isAgg0
 z0:=Tryz.sizeOf0
 v0:=Tryz.zeroValue0
 t2:=Tryz.underlying2
 a2:=Tryz.isAgg2
 z2:=Tryz.sizeOf2
 v2:=Tryz.zeroValue2
 t3:=Tryz.underlying3
 a3:=Tryz.isAgg3
 z3:=Tryz.sizeOf3
 v3:=Tryz.zeroValue3
 t4:=Tryz.underlying4
 a4:=Tryz.isAgg4
 z4:=Tryz.sizeOf4
 v4:=Tryz.zeroValue4
 t5:=Tryz.underlying5
 a5:=Tryz.isAgg5
 z5:=Tryz.sizeOf5
 v5:=Tryz.zeroValue5
 t9:=Tryz.underlying9
 a9:=Tryz.isAgg9
 z9:=Tryz.sizeOf9
 v9:=Tryz.zeroValue9
 t20:=Tryz.underlying20
 a20:=Tryz.isAgg20
 z20:=Tryz.sizeOf20
 v20:=Tryz.zeroValue20
 t37:=Tryz.underlying22
 a37:=Tryz.isAgg22
 z37:=Tryz.sizeOf22
 v37:=Tryz.zeroValue22
 t46:=Tryz.underlying244
 a46:=Tryz.isAgg244
 z46:=Tryz.sizeOf244
 v46:=Tryz.zeroValue244
 t51:=Tryz.underlying263
 a51:=Tryz.isAgg263
 z51:=Tryz.sizeOf263
 v51:=Tryz.zeroValue263
 t53:=Tryz.underlying237
 a53:=Tryz.isAgg237
 z53:=Tryz.sizeOf237
 v53:=Tryz.zeroValue237
 t171:=Tryz.underlying271
 a171:=Tryz.isAgg271
 z171:=Tryz.sizeOf271
 v171:=Tryz.zeroValue271
 t173:=Tryz.underlying273
 a173:=Tryz.isAgg273
 z173:=Tryz.sizeOf273
 v173:=Tryz.zeroValue273
 t212:=Tryz.underlying285
 a212:=Tryz.isAgg285
 z212:=Tryz.sizeOf285
 v212:=Tryz.zeroValue285
 t213:=Tryz.underlying286
 a213:=Tryz.isAgg286
 z213:=Tryz.sizeOf286
 t232:=Tryz.underlying291
 a232:=Tryz.isAgg291
 z232:=Tryz.sizeOf291
 v232:=Tryz.zeroValue291
 t233:=Tryz.underlying251
 a233:=Tryz.isAgg251
 z233:=Tryz.sizeOf251
 v233:=Tryz.zeroValue251
 g17:=by kernel_rfl
 g18:=by kernel_rfl
 g19:=by kernel_rfl
theorem Ta:LaysM.n176 Tryz.prog Du:= {Ut with
 i0:=by kernel_rfl
 i2:=by kernel_rfl
 i3:=by kernel_rfl
 i4:=by kernel_rfl
 i5:=by kernel_rfl
 i9:=by kernel_rfl
 i20:=by kernel_rfl
 i37:=by kernel_rfl
 i46:=by kernel_rfl
 i51:=by kernel_rfl
 i53:=by kernel_rfl
 i171:=by kernel_rfl
 i173:=by kernel_rfl
 i212:=by kernel_rfl
 i232:=by kernel_rfl
 i233:=by kernel_rfl
 m17:=by kernel_rfl
 m18:=by kernel_rfl
 m19:=by kernel_rfl
 }
end Go.Proofs.YteolcjbobmpdiaaGreatDoor
namespace Go.Proofs.YteolcjbobmpdiaaGreatDoor
open Go Go.Eng Go.RowKit
set_option linter.unusedVariables false
set_option maxRecDepth 100000
def Glob (φ:AC):Prop:= ∃g t f,Tryz.prog.globalNamed "internal/strconv.uint64pow10" =some g∧φ g=some (.cells (Lib.pow10Tab.map fun z=>Value.int .u64 z).toArray t f)
theorem Glob.mono {φ ψ:AC} (H:Glob φ) (hs:Sub φ ψ):Glob ψ:=by
 obtain ⟨g,t,f,h1,h2⟩:=H
 exact ⟨g,t,f,h1,hs _ _ h2⟩
def CT (i:Int):List Int:=(Lib.itoa i).map fun b=>(b.toNat:Int)
def Da (l:List Int) (i b:Int):Option (List Int):=if b=10∧ -9223372036854775808≤i∧i≤9223372036854775807∧l.length≤1000000 then some (l++CT i) else none
theorem OQ (i:Int):Lib.byteCells (Lib.itoa i)=(CT i).map (BW.int .u8).val:=by
 unfold Lib.byteCells CT
 rw [List.map_map]
 rfl
class Uu (G:List Chk):Prop where
 off: ∀c ∈ G,∀φ h F,Chk.on φ h F c→ ∀k,F k→ ∃o:Obj,h[k]? =some o∧ ∀cs f,o ≠ .cells cs 5 f
instance W2:Uu [] :=⟨fun c hc=>by cases hc⟩
instance Wn {b:Nat} {vs:List Value} {G:List Chk} [H:Uu G] :Uu (⟨Rep.raw 70, [.pointer (some ⟨b,0,none⟩)],vs⟩::G):=⟨fun c hc φ h F hon k hk=>by
 rcases List.mem_cons.1 hc with rfl | hc
 ·obtain ⟨b',e,hb,hF⟩:=hon
  have hkb:=(hF k).1 hk
  subst hkb
  exact ⟨_,hb,fun cs f e=>by cases e⟩
 ·exact H.off c hc φ h F hon k hk⟩
theorem PO {φ:AC} {h h':AH} {X X':EA} (hk: ∀(k:Nat) (o:Obj),h[k]? =some o→(∀cs f,o ≠ .cells cs 5 f)→h'[k]? =some o) (hX: ∀k,X' k→ ∃cs f,h'[k]? =some (.cells cs 5 f)) (hs:Sub φ (BN h')):
 ∀ {G:List Chk} {Y:EA},(∀c ∈ G,∀φ h F,Chk.on φ h F c→ ∀k,F k→ ∃o:Obj,h[k]? =some o∧ ∀cs f,o ≠ .cells cs 5 f)→StX φ h G (fun k=>X k∨Y k)→StX φ h' G (fun k=>X' k∨Y k):=by
 intro G
 induction G with
 | nil=>intro Y _ _; exact hs
 | cons c G ih=>
  intro Y hG ⟨F,h1,h2,H⟩
  have hoff:=hG c (by simp) φ h F h1
  refine ⟨F,c.R.loc (fun k hF=> ?_) h1,fun k hF=>⟨(h2 k hF).1,fun g=> ?_⟩,(ih (Y:=fun k=>Y k∨F k) (fun c hc=>hG c (by simp [hc])) (H.less fun k hk=> ?_)).less fun k hk=> ?_⟩
  ·obtain ⟨o,ho,hno⟩:=hoff k hF
   rw [ho]; exact hk k o ho hno
  ·rcases g with g | g
   ·obtain ⟨o,ho,hno⟩:=hoff k hF
    obtain ⟨cs,f,hc⟩:=hX k g
    rw [hk k o ho hno] at hc
    exact hno cs f (Option.some.inj hc)
   ·exact (h2 k hF).2 (.inr g)
  ·rcases hk with hk | hk | hk
   ·exact .inl (.inl hk)
   ·exact .inl (.inr hk)
   ·exact .inr hk
  ·rcases hk with (hk | hk) | hk
   ·exact .inl hk
   ·exact .inr (.inl hk)
   ·exact .inr (.inr hk)
theorem KD {h0 h:AH} {G:List Chk} [hG:Uu G] {t:Slc} {l:List Int} {i b:Int} (gk:Glob (BN h0)) (s0:St (BN h0) (⟨Rep.row 5 (Ro.int .u8), [.slice t.1 t.2.1 t.2.2],l⟩::G) h) {r:List Int} (hd:Da l i b=some r):
 CallsH Tryz.prog 125 [(.slice t.1 t.2.1 t.2.2),(.int .i64 i),(.int .i64 b)] h (Ar fun v h'=> ∃ψ:AC,∃y:Slc,∃l':List Int,Sub (BN h0) ψ∧ψ=BN h0∧v=((.one aS):Sh).val y∧l'=r∧St ψ (⟨Rep.row 5 (Ro.int .u8), [.slice y.1 y.2.1 y.2.2],l'⟩::G) h'):=by
 unfold Da at hd
 split at hd
 ·rename_i hg
  obtain ⟨rfl,h1,h2,hlen⟩:=hg
  cases hd
  obtain ⟨F,⟨p,n,c,vs,e,hn,hc,hf,ho,ha,hF⟩,hX,H⟩:=s0
  have hn:l.length=n:=hn
  have ha':vs=l.map (BW.int .u8).val:=Ck ha
  simp only [List.cons.injEq,Value.slice.injEq,and_true] at e
  obtain ⟨e1,e2,e3⟩:=e
  rw [e1,e2,e3]
  have hs:Sub (BN h0) (BN h):=H.sub
  have hB:h0.size≤h.size:=by
   rcases Nat.lt_or_ge h.size h0.size with g | g
   ·have h1:BN h0 h.size=some h0[h.size] :=Array.getElem?_eq_getElem g
    have:=Au (hs _ _ h1)
    omega
   ·exact g
  have hold: ∀k,k<h0.size→(BN h0) k ≠ none:=fun k hk g=>by
   have h1:BN h0 k=some h0[k] :=Array.getElem?_eq_getElem hk
   rw [h1] at g; cases g
  have own:World.ownsRow (DG h) h0.size 5 1 (.slice p n c) n vs:=by
   refine ⟨by rw [ha',List.length_map,hn,Nat.mul_one],?_⟩
   rcases ho with ⟨rfl,rfl,rfl,rfl⟩ | ⟨b,off,arr,rfl,hb,g1,g2,g3,g4⟩
   ·exact .inl ⟨rfl,rfl⟩
   ·obtain ⟨q1,q2⟩:=hf _ _ _ rfl
    subst q1
    have hsz:=q2 _ _ _ hb
    have hsz:arr.size=c * 1:=hsz
    have g1:vs.length=n * 1:=g1
    refine .inr ⟨b,c,arr,rfl,?_,hb,g2,hc,hsz,?_⟩
    ·rcases Nat.lt_or_ge b h0.size with g | g
     ·exact absurd (hX b ((hF b).2 (by simp [blk]))).1 (hold b g)
     ·exact g
    ·refine List.ext_getElem? fun i=> ?_
     rw [List.getElem?_take]
     split
     ·rename_i hi
      have hi':i<vs.length:=by omega
      have:=g4 i vs[i] (List.getElem?_eq_getElem hi')
      rw [List.getElem?_eq_getElem hi']
      simpa using this
     ·rw [List.getElem?_eq_none (by omega)]
  intro w hw
  subst hw
  refine (Any.strconv_AppendInt_10 Ta h0.size n i h1 h2 (.slice p n c) vs w own hB (by omega) (fun w' hb=> ?_)).mono ?_
  ·obtain ⟨g,t',f,g1,g2⟩:=gk
   have hg:w.heap[g]? =some (.cells (Lib.pow10Tab.map fun z=>Value.int .u64 z).toArray t' f):=hs _ _ g2
   have hlt:=Au (h:=h0) g2
   show (Tryz.prog.globalNamed _).bind _=_
   rw [g1]
   show (match w'.heap[g]? with | some (.cells cs _ _)=>some cs | _=>none)=_
   rw [hb.block g hlt,hg]
  ·rintro e w' ⟨v',rfl,hown,hb,hoth⟩
   have hkeep: ∀(k:Nat) (o:Obj),w.heap[k]? =some o→(∀cs f,o ≠ .cells cs 5 f)→w'.heap[k]? =some o:=fun k o ho hno=>hoth k o ho (by simp) hno
   refine ⟨⟨hb.os,hb.tape,hb.output,hb.size⟩,v',rfl,BN h0,?_⟩
   obtain ⟨k1,k2⟩:=hown
   have hsub:Sub (BN h0) (BN w'.heap):=fun i o ho=>by
    have hlt:=Au (h:=h0) ho
    show w'.heap[i]? =some o
    rw [hb.block i hlt]
    exact hs i o ho
   have hvs:vs++Lib.byteCells (Lib.itoa i)=(l++CT i).map (BW.int .u8).val:=by rw [List.map_append,ha',OQ]
   have hdl:(CT i).length=(Lib.itoa i).length:=by unfold CT; simp
   have hall: ∀(l:List Int),(Ro.int .u8).All (BN h0) (l.map (BW.int .u8).val) l:=fun l=>by
    induction l with
    | nil=>exact .nil
    | cons x l ih=>exact .cons (a:= [_]) rfl ih
   rcases k2 with ⟨rfl,hz⟩ | ⟨g,cap,cur,rfl,hBg,hg,hle,hm,hcs,hcur⟩
   ·refine ⟨(none,0,0),l++CT i,Sub.refl _,rfl,rfl,rfl,fun _=>False,⟨none,0,0, [],rfl,(by rw [List.length_append,hdl,hn]; exact hz),Nat.zero_le _,(fun _ _ _ h=>by cases h), .inl ⟨rfl,rfl,rfl,rfl⟩,?_,fun i=>by simp [blk]⟩,fun _ hk=>hk.elim,(PO (X:=F) (X':=fun _=>False) (Y:=fun _=>False) hkeep (fun _ g=>g.elim) hsub hG.off (H.less fun k hk=>hk.elim .inr .inl)).less fun k hk=>hk.elim (fun g=> .inl g) (fun g=> .inl g)⟩
    have:l++CT i= [] :=List.eq_nil_of_length_eq_zero (by rw [List.length_append,hdl,hn]; exact hz)
    show (Ro.int .u8).All (BN h0) [] (l++CT i)
    rw [this]; exact .nil
   ·refine ⟨(some ⟨g,0,none⟩,n+(Lib.itoa i).length,cap),l++CT i,Sub.refl _,rfl,rfl,rfl,fun k=>k=g,⟨_,_,cap,(l++CT i).map (BW.int .u8).val,rfl,by simp; omega,hm,(fun b' off s e=>by cases e; exact ⟨rfl,fun arr ty f harr=>by
     rw [hg] at harr; cases harr; exact hcs⟩), .inr ⟨g,0,cur,rfl,hg,by show _=_ * 1; simp; omega,hle,by show 0+cap * 1≤_; omega,fun j v hv=> ?_⟩,hall _,fun k=>by simp [blk]⟩,fun k hk=>⟨?_,fun g=>g⟩,(PO (X:=F) (X':=fun k=>k=g) (Y:=fun _=>False) hkeep (fun k hk=>by subst hk; exact ⟨_,_,hg⟩) hsub hG.off (H.less fun k hk=>hk.elim .inr .inl)).less fun k hk=>hk.elim (fun g=> .inr g) (fun g=> .inl g)⟩
    ·rw [← hvs,← hcur,List.getElem?_take] at hv
     split at hv
     ·simpa using hv
     ·cases hv
    ·subst hk
     exact Array.getElem?_eq_none hBg
 ·cases hd
end Go.Proofs.YteolcjbobmpdiaaGreatDoor
namespace Go.Proofs.YteolcjbobmpdiaaGreatDoor
open Go Go.Eng Dg
set_option linter.unusedVariables false
set_option maxRecDepth 100000
structure KE (φ:AC):Prop where
 a:Glob φ
 b:Dg.Glob φ
theorem KE.mono {φ ψ:AC} (H:KE φ) (hs:Sub φ ψ):KE ψ:=⟨H.a.mono hs,H.b.mono hs⟩
noncomputable def OR (s o:AW):Option (Bool×AW):=need (OkS s∧OkS o) <| some (Ee s o,BB s o)
noncomputable def Nj (s:AW):Option (List Int):=IG s
section
variable {φ:AC} {h:AH} {F:List Chk}
theorem Qb {s_0 o_1:Option Addr} {b a:AW} (gk:Dg.Glob φ) (s0:St φ (BR s_0 b::BR o_1 a::F) h) {r:Bool×AW} (hd:OR b a=some r):
 CallsH Tryz.prog 139 [.pointer s_0, .pointer o_1] h (Ar fun v h'=> ∃ψ:AC,∃y:Bool,∃l:AW,Sub φ ψ∧v=((.one aB):Sh).val y∧(y,l)=r∧St ψ (BR s_0 l::BR o_1 a::F) h'):=by
 obtain ⟨⟨h1,h2⟩,hd⟩:=B0 hd
 obtain rfl:=Option.some.inj hd
 refine (Hn gk h1 h2 (List.Perm.swap _ _ _) s0).mono ?_
 rintro e h' ⟨u,rfl,ψ,le,rfl,s4⟩
 exact ⟨_,rfl,ψ,_,_,le,rfl,rfl,s4⟩
theorem LY {s_0:Option Addr} {a:AW} (gk:Dg.Glob φ) (s0:St φ (BR s_0 a::F) h) {r:List Int} (hd:Nj a=some r):
 CallsH Tryz.prog 70 [.pointer s_0] h (Ar fun v h'=> ∃ψ:AC,∃y:Slc,∃l:List Int,Sub φ ψ∧v=((.one aS):Sh).val y∧l=r∧Ro.SliceIs (Ro.int .i64) ψ y l∧St ψ (BR s_0 a::F) h'):=by
 refine (LA gk s0 hd).mono ?_
 rintro e h' ⟨u,rfl,ψ,y,le,rfl,k,s4⟩
 exact ⟨_,rfl,ψ,_,_,le,rfl,rfl,k,s4⟩
theorem RF {ps:List (Option Addr)} {ss:List AW} {x y:Nat} {p q:Option Addr} {s o:AW} (gk:Dg.Glob φ) (hs:ss[x]? =some s) (ho:ss[y]? =some o) (hp:ps[x]? =some p) (hq:ps[y]? =some q) (k:OkS s∧OkS o) (s0:St φ (AP ps ss++F) h):
 CallsH Tryz.prog 139 [.pointer p, .pointer q] h (Ar fun v h'=> ∃ψ:AC,Sub φ ψ∧v=((.one aB):Sh).val (Ee s o)∧St ψ (AP ps (ss.set x (BB s o)) ++F) h'):=by
 obtain ⟨r1,a1,a2⟩:=D3 hp hs
 obtain ⟨r2,b1,_⟩:=D3 hq ho
 have mv: ∀(p:Option Addr) (s:AW) (r:List Chk) (L:List Chk),L.Perm (BR p s::r)→(L++F).Perm (BR p s::(r++F)):=fun p s r L hL=>List.Perm.append_right F hL
 have hpm:=(mv p s r1 _ a1).symm.trans (mv q o r2 _ b1)
 refine (Hn gk k.1 k.2 hpm (s0.perm (mv p s r1 _ a1))).mono ?_
 rintro e h' ⟨u,rfl,ψ,le,rfl,s4⟩
 exact ⟨_,rfl,ψ,le,rfl,s4.perm (mv p _ r1 _ (a2 _)).symm⟩
theorem PP {ps:List (Option Addr)} {ss:List AW} {x:Nat} {p q:Option Addr} {s o:AW} (gk:Dg.Glob φ) (hs:ss[x]? =some s) (hp:ps[x]? =some p) (k:OkS s∧OkS o) (s0:St φ (BR q o::(AP ps ss++F)) h):
 CallsH Tryz.prog 139 [.pointer p, .pointer q] h (Ar fun v h'=> ∃ψ:AC,Sub φ ψ∧v=((.one aB):Sh).val (Ee s o)∧St ψ (BR q o::(AP ps (ss.set x (BB s o)) ++F)) h'):=by
 obtain ⟨r1,a1,a2⟩:=D3 hp hs
 have mv: ∀(s:AW) (L:List Chk),L.Perm (BR p s::r1)→(BR q o::(L++F)).Perm (BR p s::(BR q o::(r1++F))):=fun s L hL=>(List.Perm.cons _ (List.Perm.append_right F hL)).trans (List.Perm.swap _ _ _)
 refine (Hn gk k.1 k.2 (List.Perm.swap _ _ _) (s0.perm (mv s _ a1))).mono ?_
 rintro e h' ⟨u,rfl,ψ,le,rfl,s4⟩
 exact ⟨_,rfl,ψ,le,rfl,s4.perm (mv _ _ (a2 _)).symm⟩
end
end Go.Proofs.YteolcjbobmpdiaaGreatDoor
namespace Go.Proofs.YteolcjbobmpdiaaGreatDoor
open Go Go.Eng
set_option linter.unusedVariables false
set_option maxRecDepth 100000
theorem glob_of {W:World} (hL:laidMetH Tryz.prog Rows.lookDoneRow.laid W):KE (BN W.heap):=by
 rw [MakeChecks.laidMetH_plain _ _ _ (by kernel_rfl)] at hL
 refine ⟨?_,?_⟩
 ·have h1:laidMet Tryz.prog (("internal/strconv.uint64pow10",Lib.tabData .u64 Lib.pow10Tab):: []) W:=hL.tail.tail
  have hg:Tryz.prog.globalNamed "internal/strconv.uint64pow10" =some 1:=by kernel_rfl
  have h2:=Lib.tabIs_of_head hg (by kernel_rfl) Tryz.underlying285 Tryz.underlying237 (by kernel_rfl) (by kernel_rfl) h1
  unfold Lib.TabIs World.var? at h2
  rw [hg,Option.bind_some] at h2
  cases hb:W.heap[1]? with
  | none=>rw [hb] at h2; cases h2
  | some o=>
   rw [hb] at h2
   cases o with
   | cells cs t f=>cases h2; exact ⟨1,t,f,hg,hb⟩
   | _=>cases h2
 ·have h1:laidMet Tryz.prog (("math/bits.deBruijn64tab",Lib.tabData .u8 (Lib.deBruijn64tab.map fun (z:Nat)=>(z:Int)))::("internal/strconv.uint64pow10",Lib.tabData .u64 Lib.pow10Tab):: []) W:=hL.tail
  have hg:Tryz.prog.globalNamed "math/bits.deBruijn64tab" =some 0:=by kernel_rfl
  have h2:=Lib.tabIs_of_head hg (by kernel_rfl) Tryz.underlying251 Tryz.underlying5 (by kernel_rfl) (by kernel_rfl) h1
  unfold Lib.TabIs World.var? at h2
  rw [hg,Option.bind_some] at h2
  cases hb:W.heap[0]? with
  | none=>rw [hb] at h2; cases h2
  | some o=>
   rw [hb] at h2
   cases o with
   | cells cs t f=>
    refine ⟨t,f,?_⟩
    show W.heap[0]? =_
    rw [hb]
    have h3:=Option.some.inj h2
    rw [h3,List.map_map]
    rfl
   | _=>cases h2
theorem wf8 {x:Int} (h:(Lit.int .u8 x).wf=true):0≤x∧x<256:=by
 simp only [Lit.wf,Bool.and_eq_true,decide_eq_true_eq] at h
 have e1:IntKind.min .u8=0:=rfl
 have e2:IntKind.max .u8=255:=rfl
 omega
theorem W5 {α:Type} {cs:List α} (h:cs.length=7): ∃a b c d e f g,cs= [a,b,c,d,e,f,g] :=by
 match cs,h with
 | [a,b,c,d,e,f,g],_=>exact ⟨a,b,c,d,e,f,g,rfl⟩
section
variable {h:AH}
theorem Jd {n:Nat} {cs:List Value} (hr:FM Tryz.prog h n 22 cs): ∃(t:Slc) (l:List Int),cs= [.slice t.1 t.2.1 t.2.2] ∧Ro.SliceIs (Ro.int .u8) (BN h) t l∧l.length≤9223372036854775807∧ ∀x ∈ l,0≤x∧x<256:=by
 obtain ⟨l,⟨t,e,hs⟩,h1,h2⟩:=(G0 Tryz.underlying22 (by kernel_rfl) (L0 Tryz.underlying5)) n cs hr
 exact ⟨t,l,e,hs,h1,fun x hx=>wf8 (h2 x hx)⟩
theorem Tb {n:Nat} {cs:List Value} (hr:FM Tryz.prog h n 23 cs): ∃(t:Slc) (l:List (List Int)),cs= [.slice t.1 t.2.1 t.2.2] ∧Ro.SliceIs (Ro.list (Ro.int .u8)) (BN h) t l∧l.length≤9223372036854775807∧ ∀r ∈ l,r.length≤9223372036854775807∧ ∀x ∈ r,0≤x∧x<256:=by
 obtain ⟨l,⟨t,e,hs⟩,h1,h2⟩:=(G0 Tryz.underlying23 (by kernel_rfl) (G0 Tryz.underlying22 (by kernel_rfl) (L0 Tryz.underlying5))) n cs hr
 exact ⟨t,l,e,hs,h1,fun r hr=>⟨(h2 r hr).1,fun x hx=>wf8 ((h2 r hr).2 x hx)⟩⟩
theorem PQ {n:Nat} {cs:List Value} (H:FM Tryz.prog h n 25 cs): ∃(x:Int×Int×Slc×Slc×Slc×Slc×Slc×Unit) (d2:List Int) (d3:List (List Int)) (d4 d5 d6:List Int),
 cs= [.int .u8 x.1, .int .u8 x.2.1,sv x.2.2.1,sv x.2.2.2.1,sv x.2.2.2.2.1,sv x.2.2.2.2.2.1,sv x.2.2.2.2.2.2.1] ∧Ro.SliceIs (Ro.int .u8) (BN h) x.2.2.1 d2∧Ro.SliceIs (Ro.list (Ro.int .u8)) (BN h) x.2.2.2.1 d3∧
 Ro.SliceIs (Ro.int .u8) (BN h) x.2.2.2.2.1 d4∧Ro.SliceIs (Ro.int .u8) (BN h) x.2.2.2.2.2.1 d5∧Ro.SliceIs (Ro.int .u8) (BN h) x.2.2.2.2.2.2.1 d6∧SmG (x.1,x.2.1,d2,d3,d4,d5,d6):=by
 cases n with
 | zero=>exact H.elim
 | succ n=>
  unfold FM at H
  rw [Tryz.underlying25] at H
  obtain ⟨hlen,hf⟩:=H
  have hlen:cs.length=7:=hlen.trans (by kernel_rfl)
  obtain ⟨a,b,c,d,e,f,g,rfl⟩:=W5 hlen
  have e1:Tryz.prog.cellsOf 5=1:=by kernel_rfl
  have e2:Tryz.prog.cellsOf 22=1:=by kernel_rfl
  have e3:Tryz.prog.cellsOf 23=1:=by kernel_rfl
  have f0:=hf _ (.head _)
  have f1:=hf _ (.tail _ (.head _))
  have f2:=hf _ (.tail _ (.tail _ (.head _)))
  have f3:=hf _ (.tail _ (.tail _ (.tail _ (.head _))))
  have f4:=hf _ (.tail _ (.tail _ (.tail _ (.tail _ (.head _)))))
  have f5:=hf _ (.tail _ (.tail _ (.tail _ (.tail _ (.tail _ (.head _))))))
  have f6:=hf _ (.tail _ (.tail _ (.tail _ (.tail _ (.tail _ (.tail _ (.head _)))))))
  dsimp only at f0 f1 f2 f3 f4 f5 f6
  rw [e1] at f0 f1
  rw [e2] at f2 f4 f5 f6
  rw [e3] at f3
  obtain ⟨x0,h0,w0⟩:=LX Tryz.underlying5 f0
  obtain ⟨x1,h1,w1⟩:=LX Tryz.underlying5 f1
  obtain ⟨t2,l2,h2,s2,n2,w2⟩:=Jd f2
  obtain ⟨t3,l3,h3,s3,n3,w3⟩:=Tb f3
  obtain ⟨t4,l4,h4,s4,n4,w4⟩:=Jd f4
  obtain ⟨t5,l5,h5,s5,n5,w5⟩:=Jd f5
  obtain ⟨t6,l6,h6,s6,n6,w6⟩:=Jd f6
  have h0: [a] =_:=h0
  have h1: [b] =_:=h1
  have h2: [c] =_:=h2
  have h3: [d] =_:=h3
  have h4: [e] =_:=h4
  have h5: [f] =_:=h5
  have h6: [g] =_:=h6
  simp only [List.cons.injEq,and_true] at h0 h1 h2 h3 h4 h5 h6
  exact ⟨(x0,x1,t2,t3,t4,t5,t6,()),l2,l3,l4,l5,l6,by rw [h0,h1,h2,h3,h4,h5,h6],s2,s3,s4,s5,s6,⟨wf8 w0,wf8 w1,⟨n2,w2⟩,⟨n3,w3⟩,⟨n4,w4⟩,⟨n5,w5⟩,⟨n6,w6⟩⟩⟩
end
def cloneD {α:Type} (l:List α):Option (List α):=if l.length≤1073741824 then some l else none
theorem FK {α:Type} {l r:List α} (h:cloneD l=some r):l.length≤1073741824∧r=l:=by
 unfold cloneD at h
 split at h
 ·rename_i g; exact ⟨g,(Option.some.inj h).symm⟩
 ·cases h
theorem W6:G5 Tryz.prog 67 67 70 2:=⟨Tryz.underlying67, .inl Tryz.underlying67,⟨Tryz.t70,by kernel_rfl,rfl,⟨_,rfl,rfl⟩,by decide,by decide⟩,by decide⟩
theorem Wo:G5 Tryz.prog 54 54 73 2:=⟨Tryz.underlying54, .inl Tryz.underlying54,⟨Tryz.t73,by kernel_rfl,rfl,⟨_,rfl,rfl⟩,by decide,by decide⟩,by decide⟩
section
variable {φ:AC} {h:AH} {F:List Chk}
theorem L5 {t:Slc} {l r:List Bu} (k:Ro.SliceIs Ca φ t l) (s0:St φ F h) (hd:cloneD l=some r):
 CallsH Tryz.prog 77 [.slice t.1 t.2.1 t.2.2] h (Ar fun v h'=> ∃ψ:AC,∃y:Slc,∃l1:List Bu,Sub φ ψ∧v=((.one aS):Sh).val y∧l1=r∧St ψ (cR 70 Ca y l1::F) h'):=by
 obtain ⟨hb,rfl⟩:=FK hd
 refine AR mixed Tryz.func77 ?_
 rw [EB]
 unfold Cm
 cases hp:t.1 with
 | none=>
  rw [k.2.2.2.1 hp]
  exact AB ⟨φ,(none,0,0), [],Sub.refl _,rfl,rfl,s0.nil _ _⟩
 | some a=>
  rw [Option.isNone_some]
  refine AY (vs:= []) s0 fun b h1 s1=> ?_
  have s2:=St.lit (r:=Ca) (l:= []) (n:=0) s1 .nil rfl (by decide)
  obtain ⟨ws,ha,hc⟩:=k.heap s1.sub
  rw [hp] at hc
  refine Aj (r:=Ca) (ms:=r) (l':=r) W6 s2 rfl hc ha k.length.symm (by unfold app; rw [if_pos (by simpa using hb)]; rfl) fun y h2 s3=> ?_
  exact AB ⟨φ,y,_,Sub.refl _,rfl,rfl,s3⟩
theorem PR {t:Slc} {l r:List Ek} (k:Ro.SliceIs Fq φ t l) (s0:St φ F h) (hd:cloneD l=some r):
 CallsH Tryz.prog 79 [.slice t.1 t.2.1 t.2.2] h (Ar fun v h'=> ∃ψ:AC,∃y:Slc,∃l1:List Ek,Sub φ ψ∧v=((.one aS):Sh).val y∧l1=r∧St ψ (cR 73 Fq y l1::F) h'):=by
 obtain ⟨hb,rfl⟩:=FK hd
 refine AR mixed Tryz.func79 ?_
 rw [EC]
 unfold Cn
 cases hp:t.1 with
 | none=>
  rw [k.2.2.2.1 hp]
  exact AB ⟨φ,(none,0,0), [],Sub.refl _,rfl,rfl,s0.nil _ _⟩
 | some a=>
  rw [Option.isNone_some]
  refine AY (vs:= []) s0 fun b h1 s1=> ?_
  have s2:=St.lit (r:=Fq) (l:= []) (n:=0) s1 .nil rfl (by decide)
  obtain ⟨ws,ha,hc⟩:=k.heap s1.sub
  rw [hp] at hc
  refine Aj (r:=Fq) (ms:=r) (l':=r) Wo s2 rfl hc ha k.length.symm (by unfold app; rw [if_pos (by simpa using hb)]; rfl) fun y h2 s3=> ?_
  exact AB ⟨φ,y,_,Sub.refl _,rfl,rfl,s3⟩
end
theorem Ml:G5 Tryz.prog 67 67 70 2:=⟨Tryz.underlying67, .inl Tryz.underlying67,⟨Tryz.t70,by kernel_rfl,rfl,⟨_,rfl,rfl⟩,by decide,by decide⟩,by decide⟩
noncomputable def Bp (a_0:Gx) (items_1:List Bu) (sym_2:Int):Option (List Bu):=
 (forS (σ:=List Bu) (0:Int) (((List.length items_1):Nat):Int) ([] :List Bu) fun i_z2 z2=>
  (idx items_1 i_z2).bind fun e31=>
  (Bd a_0 (e31.1,e31.2)).bind fun t9=>
  (cond (t9==sym_2)
  ((app z2 ([(e31.1,(IntKind.wrap .i64 (e31.2+(1:Int))))] :List Bu)).bind fun t14=>
   some t14)
  (some z2)).bind fun z10=>
  some z10).bind fun z1=>
 some z1
theorem JE {φ:AC} {h:AH} {F:List Chk} {a_0:Option Addr} {e:Gx} {items_1:Slc} {i:List Bu} {sym_2:Int} (m:Ro.SliceIs Ca φ items_1 i) (s0:St φ (cO 131 (Rep.ro B2) a_0 e::F) h) {r:(List Bu)} (hd:Bp e i sym_2=some r):
 CallsH Tryz.prog 104 [(.pointer a_0),(sv items_1),(.int .i64 sym_2)] h (Ar fun v h'=> ∃ψ:AC,∃y:Slc,∃n:List Bu,Sub φ ψ∧v=((.one aS):Sh).val y∧n=r∧Ro.SliceIs Ca ψ y n∧St ψ (cO 131 (Rep.ro B2) a_0 e::F) h'):=by
 refine AR mixed Tryz.func104 ?_
 rw [Iw]
 unfold GA
 unfold Bp at hd
 have o:items_1.2.1=List.length i:=m.length
 obtain ⟨a2,a3,hd⟩:=bS hd
 refine AT (fun (y:Int×Slc×Unit) w_ g=> ∃ψ:AC,∃p:List Bu,Sub φ ψ∧p=g∧St ψ (cR 70 Ca y.2.1 p::cO 131 (Rep.ro B2) a_0 e::F) w_) (g:=a2) ?_ ?_
 ·refine BJ a3 (fun a4 (y:Int×Slc×Unit) w_ g=> ∃ψ:AC,∃q:List Bu,Sub φ ψ∧y.1=a4∧q=g∧St ψ (cR 70 Ca y.2.1 q::cO 131 (Rep.ro B2) a_0 e::F) w_) ((0:Int),((none,0,0):Slc),()) rfl ⟨φ,([] :List Bu),(Sub.refl _),rfl,rfl,(((s0.nil 70 Ca).at1).at1)⟩ ?_ ?_
  ·rintro _ z2 b3 _ _ ⟨b4,a5,s,rfl,rfl,j⟩ c a6 u w
   try dsimp only at c a6 u w
   refine Ai (dT o u) ?_
   obtain ⟨b,a7,c⟩:=bS c
   obtain ⟨b5,b6,a8,a9,aa,z⟩:=(m.mono s).get a7
   refine AF _ a8 (Aa a9 ?_)
   obtain ⟨_,_,rfl,ab,ac⟩:=aa
   obtain rfl:=ab
   obtain rfl:=ac
   refine AG (x:=b.1) (AE j.sub (z 0 _ rfl)) rfl ?_
   refine AG (x:=b.2) (by rw [Ae]; exact (AE j.sub (z 1 _ rfl))) rfl ?_
   refine AY (vs:= [.int .i64 (0:Int), .int .i64 (0:Int)]) j fun r6 b7 ad=> ?_
   refine AQ ad rfl rfl fun b8 ae=> ?_
   refine AQ ae rfl rfl fun b9 k=> ?_
   refine AA (x:=b.1) k rfl ?_
   refine AA (x:=b.2) k rfl ?_
   obtain ⟨ba,af,c⟩:=bS c
   refine AI (C7 (x_1:=(b.1,b.2,())) k.at2 af) ?_
   rintro _ bb ⟨l,t9,ag,rfl,rfl,f⟩
   refine ⟨t9,rfl,?_⟩
   obtain ⟨ah,d,c⟩:=bS c
   refine Ao (fun (y:Slc×Unit) w_ g=> ∃ψ:AC,∃a0:List Bu,Sub l ψ∧a0=g∧St ψ (cR 70 Ca y.1 a0::cO 131 (Rep.ro B2) a_0 e::cW 70 r6 [.int .i64 b.1, .int .i64 b.2] ::F) w_) (g:=ah) ?_ ?_
   ·refine AL d rfl (fun _ d=> ?_) (fun _ d=> ?_)
    ·refine AA (x:=b.1) f.at1 rfl ?_
     refine AA (x:=b.2) f.at1 rfl ?_
     refine AY (vs:= [.int .i64 b.1, .int .i64 (wN b.2)]) f fun r13 bc a1=> ?_
     obtain ⟨ai,aj,d⟩:=bS d
     refine Aj (r:=Ca) (ms:=([(b.1,(wN b.2))] :List Bu)) Ml a1.tail.at2 rfl (St.cells a1) (.cons (a:= [_,_]) ⟨[_],_,rfl,rfl,rfl⟩ .nil) rfl aj ?_
     intro t14 bd ak
     obtain rfl:=iS d
     exact AS (t14,()) rfl ⟨l,ai,(Sub.refl _),rfl,ak.at2.at2.at2⟩
    obtain rfl:=iS d
    exact AS (z2.2.1,()) rfl ⟨l,a5,(Sub.refl _),rfl,f.at2.at2.at2.at2⟩
   rintro z10 be ⟨al,am,an,rfl,ao⟩
   try dsimp only at c
   obtain rfl:=iS c
   exact Ag ((wN z2.1),z10.1,()) _ rfl rfl ⟨al,am,((s.trans ag).trans an),w,rfl,ao.at2.tail.at1.at1⟩
  ·rintro _ z2 bf ⟨ap,aq,ar,rfl,rfl,au⟩ av
   refine AX (dF o av) ?_
   exact AJ (AK (z2.1,z2.2.1,()) rfl ⟨ap,aq,ar,rfl,au.at1.at1⟩)
 rintro z1 bg ⟨bh,aw,ax,rfl,ay⟩
 try dsimp only at hd
 obtain ⟨az,b0,b1,b2⟩:=St.freezeRow (t:=z1.2.1) ay
 obtain rfl:=iS hd
 exact AB ⟨az,z1.2.1,aw,(ax.trans b0),rfl,rfl,b1,b2⟩
noncomputable def CE (a_0:C1) (n_1:Int):Option (List Bu×List Bu×List Ek×Int×Int):=
 (cond (decide (n_1< (0:Int)))
 (some true)
 (some (decide (n_1≥ (((List.length a_0.2.2.2.2.2.2.1):Nat):Int))))).bind fun z2=>
 cond z2
 (some (([] :List Bu),([] :List Bu),([] :List Ek),(0:Int),(0:Int)))
 ((idx a_0.2.2.2.2.2.2.1 n_1).bind fun e83=>
  some (e83.1,e83.2.1,e83.2.2.1,e83.2.2.2.1,e83.2.2.2.2))
theorem EF {φ:AC} {h:AH} {F:List Chk} {a_0:Option Addr} {o:C1} {n_1:Int} (p:Pt FC φ a_0 o) (s0:St φ (F) h) {r:(List Bu×List Bu×List Ek×Int×Int)} (hd:CE o n_1=some r):
 CallsH Tryz.prog 78 [(.pointer a_0),(.int .i64 n_1)] h (Ar fun v h'=> ∃ψ:AC,∃y:Slc×Slc×Slc×Int×Int×Unit,∃q:List Bu,∃s:List Bu,∃t:List Ek,Sub φ ψ∧v=((.one (.agg [.slice, .slice, .slice,(.int .i64),(.int .i64)])):Sh).val y∧(q,s,t,y.2.2.2.1,y.2.2.2.2.1)=r∧Ro.SliceIs Ca ψ y.1 q∧Ro.SliceIs Ca ψ y.2.1 s∧Ro.SliceIs Fq ψ y.2.2.1 t∧St ψ (F) h'):=by
 refine AR mixed Tryz.func78 ?_
 rw [KS]
 unfold G9
 unfold CE at hd
 refine AY (vs:= [.slice none 0 0, .slice none 0 0, .slice none 0 0, .int .i64 (0:Int), .int .i64 (0:Int)]) s0 fun r1 aw k=> ?_
 obtain ⟨w,e,hd⟩:=bS hd
 refine Ao (fun (y:Bool×Unit) w_ g=> ∃ψ:AC,Sub φ ψ∧y.1=g∧St ψ (Wq6 r1::F) w_) (g:=w) ?_ ?_
 ·refine AL e rfl (fun _ e=> ?_) (fun _ e=> ?_)
  ·obtain rfl:=iS e
   exact AS (true,()) rfl ⟨φ,(Sub.refl _),rfl,k⟩
  obtain ⟨ax,ay,z,⟨_,_,rfl,⟨az,rfl,b0⟩,_,_,rfl,⟨b1,rfl,b2⟩,_,_,rfl,⟨b3,rfl,b4⟩,_,_,rfl,⟨b5,rfl,b6⟩,_,_,rfl,⟨b7,rfl,b8⟩,_,_,rfl,⟨b9,rfl,ba⟩,_,_,rfl,⟨u,rfl,a0⟩,rfl⟩,a1⟩:=id p
  have a2:=a0.length
  refine AF _ z ?_
  refine AG (x:=u) (AE k.sub (a1.at 6 rfl)) rfl ?_
  obtain rfl:=iS e
  exact AS ((decide (n_1≥ ((u.2.1:Nat):Int))),()) rfl ⟨φ,(Sub.refl _),(by rw [a2]),k⟩
 rintro z2 bb ⟨f,j,rfl,b⟩
 try dsimp only at hd
 refine AL hd rfl (fun _ hd=> ?_) (fun _ hd=> ?_)
 ·refine AQ b rfl rfl fun bc a3=> ?_
  refine AQ a3 rfl rfl fun bd a4=> ?_
  refine AQ a4 rfl rfl fun be a5=> ?_
  refine AQ a5 rfl rfl fun bf a6=> ?_
  refine AQ a6 rfl rfl fun bg c=> ?_
  refine AA (x:=((none,0,0):Slc)) c rfl ?_
  refine AA (x:=((none,0,0):Slc)) c rfl ?_
  refine AA (x:=((none,0,0):Slc)) c rfl ?_
  refine AA (x:=(0:Int)) c rfl ?_
  refine AA (x:=(0:Int)) c rfl ?_
  obtain rfl:=iS hd
  exact AB ⟨f,(((none,0,0):Slc),((none,0,0):Slc),((none,0,0):Slc),(0:Int),(0:Int),()),([] :List Bu),([] :List Bu),([] :List Ek),j,rfl,rfl,(Ro.SliceIs.nil Ca f),(Ro.SliceIs.nil Ca f),(Ro.SliceIs.nil Fq f),c.tail⟩
 obtain ⟨bh,bi,a7,⟨_,_,rfl,⟨bj,rfl,bk⟩,_,_,rfl,⟨bl,rfl,bm⟩,_,_,rfl,⟨bn,rfl,bo⟩,_,_,rfl,⟨bp,rfl,bq⟩,_,_,rfl,⟨br,rfl,bs⟩,_,_,rfl,⟨bt,rfl,bu⟩,_,_,rfl,⟨a8,rfl,a9⟩,rfl⟩,aa⟩:=id p
 refine AF _ a7 ?_
 refine AG (x:=a8) (AE (Sub.trans j b.sub) (aa.at 6 rfl)) rfl ?_
 obtain ⟨a,ab,hd⟩:=bS hd
 obtain ⟨bv,bw,ac,ad,ae,i⟩:=(a9.mono j).get ab
 refine AF _ ac (Aa ad ?_)
 obtain ⟨_,_,rfl,af,ag⟩:=ae
 obtain ⟨l,rfl,ah⟩:=af
 obtain ⟨_,_,rfl,ai,aj⟩:=ag
 obtain ⟨m,rfl,ak⟩:=ai
 obtain ⟨_,_,rfl,al,am⟩:=aj
 obtain ⟨n,rfl,an⟩:=al
 obtain ⟨_,_,rfl,ao,ap⟩:=am
 obtain rfl:=ao
 obtain rfl:=ap
 refine AG (x:=l) (AE b.sub (i 0 _ rfl)) rfl ?_
 refine AG (x:=m) (by rw [Ae]; exact (AE b.sub (i 1 _ rfl))) rfl ?_
 refine AG (x:=n) (by rw [Ae]; exact (AE b.sub (i 2 _ rfl))) rfl ?_
 refine AG (x:=a.2.2.2.1) (by rw [Ae]; exact (AE b.sub (i 3 _ rfl))) rfl ?_
 refine AG (x:=a.2.2.2.2) (by rw [Ae]; exact (AE b.sub (i 4 _ rfl))) rfl ?_
 refine AQ b rfl rfl fun bx aq=> ?_
 refine AQ aq rfl rfl fun bz ar=> ?_
 refine AQ ar rfl rfl fun c0 au=> ?_
 refine AQ au rfl rfl fun c1 av=> ?_
 refine AQ av rfl rfl fun c2 d=> ?_
 refine AA (x:=l) d rfl ?_
 refine AA (x:=m) d rfl ?_
 refine AA (x:=n) d rfl ?_
 refine AA (x:=a.2.2.2.1) d rfl ?_
 refine AA (x:=a.2.2.2.2) d rfl ?_
 obtain rfl:=iS hd
 exact AB ⟨f,(l,m,n,a.2.2.2.1,a.2.2.2.2,()),a.1,a.2.1,a.2.2.1,j,rfl,rfl,ah,ak,an,d.tail⟩
noncomputable def BF (a_0:C1):Option Int:=
 some (((List.length a_0.2.2.2.2.2.2.1):Nat):Int)
theorem Bj {φ:AC} {h:AH} {F:List Chk} {a_0:Option Addr} {a:C1} (c:Pt FC φ a_0 a) (s0:St φ (F) h) {r:Int} (hd:BF a=some r):
 CallsH Tryz.prog 20 [(.pointer a_0)] h (Ar fun v h'=> ∃ψ:AC,∃y:Int,Sub φ ψ∧v=((.one aI):Sh).val y∧y=r∧St ψ (F) h'):=by
 refine AR mixed Tryz.func20 ?_
 rw [Jp]
 unfold Gb
 unfold BF at hd
 obtain ⟨i,j,d,⟨_,_,rfl,⟨k,rfl,l⟩,_,_,rfl,⟨m,rfl,n⟩,_,_,rfl,⟨o,rfl,p⟩,_,_,rfl,⟨q,rfl,s⟩,_,_,rfl,⟨t,rfl,u⟩,_,_,rfl,⟨w,rfl,z⟩,_,_,rfl,⟨b,rfl,e⟩,rfl⟩,f⟩:=id c
 have g:=e.length
 refine AF _ d ?_
 refine AG (x:=b) (AE s0.sub (f.at 6 rfl)) rfl ?_
 obtain rfl:=iS hd
 exact AB ⟨φ,((b.2.1:Nat):Int),(Sub.refl _),rfl,(by rw [g]),s0⟩
noncomputable def BT (a_0:C1) (n_1:Int) (sym_2:Int):Option Int:=
 (CE a_0 n_1).bind fun t1=>
 (Cf (σ:=Unit) (β:=Int) (0:Int) (((List.length t1.2.2.1):Nat):Int) () fun i_z3 z3=>
  (idx t1.2.2.1 i_z3).bind fun e37=>
  cond (e37.1==sym_2)
  (some (AU.done e37.2))
  (some (AU.next ()))).bind fun e_z2=>match e_z2 with
 | .next z2=>
  some (-1:Int)
 | .done q60=>some q60
theorem C9 {φ:AC} {h:AH} {F:List Chk} {a_0:Option Addr} {i:C1} {n_1:Int} {sym_2:Int} (q:Pt FC φ a_0 i) (s0:St φ (F) h) {r:Int} (hd:BT i n_1 sym_2=some r):
 CallsH Tryz.prog 41 [(.pointer a_0),(.int .i64 n_1),(.int .i64 sym_2)] h (Ar fun v h'=> ∃ψ:AC,∃y:Int,Sub φ ψ∧v=((.one aI):Sh).val y∧y=r∧St ψ (F) h'):=by
 refine AR mixed Tryz.func41 ?_
 rw [KR]
 unfold G8
 unfold BT at hd
 obtain ⟨ai,s,hd⟩:=bS hd
 refine AI (EF q s0 s) ?_
 rintro _ aj ⟨d,t1,ak,al,am,j,rfl,rfl,an,ao,k,t⟩
 refine ⟨t1,rfl,?_⟩
 try dsimp only at hd
 have l:=k.length
 obtain ⟨u,w,hd⟩:=bS hd
 refine AT (fun (y:Int×Int×Unit) w_ g=> ∃ψ:AC,Sub d ψ∧AU.next ()=g∧St ψ (F) w_) (g:=u) ?_ ?_
 ·refine Be w (fun z (y:Int×Int×Unit) w_ g=> ∃ψ:AC,Sub d ψ∧y.1=z∧()=g∧St ψ (F) w_) ((0:Int),(0:Int),()) rfl ⟨d,(Sub.refl _),rfl,rfl,t⟩ ?_ ?_
  ·rintro _ z3 ap _ _ ⟨m,e,rfl,rfl,f⟩ a a0 n o a1
   try dsimp only at a a0 n o
   refine Ai (dT l n) ?_
   obtain ⟨b,a2,a⟩:=bS a
   obtain ⟨aq,ar,a3,a4,a5,p⟩:=(k.mono e).get a2
   refine AF _ a3 (Aa a4 ?_)
   obtain ⟨_,_,rfl,a6,a7⟩:=a5
   obtain rfl:=a6
   obtain rfl:=a7
   refine AG (x:=b.1) (AE f.sub (p 0 _ rfl)) rfl ?_
   refine AG (x:=b.2) (by rw [Ae]; exact (AE f.sub (p 1 _ rfl))) rfl ?_
   refine AY (vs:= [.int .i64 (0:Int), .int .i64 (0:Int)]) f fun r7 au a8=> ?_
   refine AQ a8 rfl rfl fun av a9=> ?_
   refine AQ a9 rfl rfl fun aw c=> ?_
   refine AA (x:=b.1) c rfl ?_
   refine AL a rfl (fun _ a=> ?_) (fun _ a=> ?_)
   ·refine AA (x:=b.2) c rfl ?_
    obtain rfl:=iS a
    obtain rfl:=a1 _ rfl
    try dsimp only at hd
    obtain rfl:=iS hd
    exact Af (Ah (AB ⟨m,b.2,(j.trans e),rfl,rfl,c.tail⟩))
   obtain rfl:=iS a
   exact Ag ((wN z3.1),z3.2.1,()) _ rfl rfl ⟨m,e,o,rfl,c.tail⟩
  ·rintro _ z3 ax _ ⟨aa,ab,rfl,rfl,ac⟩ ad ae
   subst ae
   refine AX (dF l ad) ?_
   exact AJ (AK (z3.1,z3.2.1,()) rfl ⟨aa,ab,rfl,ac⟩)
 rintro z2 ay ⟨af,ag,rfl,ah⟩
 try dsimp only at hd
 obtain rfl:=iS hd
 exact AB ⟨af,(-1:Int),(j.trans ag),rfl,rfl,ah⟩
noncomputable def Bq (a_0:C1) (n_1:Int) (seq_2:List Int):Option Int:=
 (cond (decide (n_1< (0:Int)))
 (some true)
 (some (decide (n_1≥ (((List.length a_0.2.2.2.2.2.2.1):Nat):Int))))).bind fun z1=>
 cond z1
 (some (-1:Int))
 (((Cf (σ:=Int) (β:=Int) (0:Int) (((List.length seq_2):Nat):Int) n_1 fun i_z5 z5=>
  (idx seq_2 i_z5).bind fun e53=>
  (BT a_0 z5 e53).bind fun t8=>
  cond (decide (t8< (0:Int)))
  (some (AU.done t8))
  (some (AU.next t8))).map AU.get).bind fun z4=>
  some z4)
theorem Db {φ:AC} {h:AH} {F:List Chk} {a_0:Option Addr} {i:C1} {n_1:Int} {seq_2:Slc} {f:List Int} (j:Pt FC φ a_0 i) (k:Ro.SliceIs (Ro.int .i64) φ seq_2 f) (s0:St φ (F) h) {r:Int} (hd:Bq i n_1 f=some r):
 CallsH Tryz.prog 72 [(.pointer a_0),(.int .i64 n_1),(sv seq_2)] h (Ar fun v h'=> ∃ψ:AC,∃y:Int,Sub φ ψ∧v=((.one aI):Sh).val y∧y=r∧St ψ (F) h'):=by
 refine AR mixed Tryz.func72 ?_
 rw [Iv]
 unfold F9
 unfold Bq at hd
 have l:seq_2.2.1=List.length f:=k.length
 obtain ⟨w,b,hd⟩:=bS hd
 refine Ao (fun (y:Bool×Unit) w_ g=> ∃ψ:AC,Sub φ ψ∧y.1=g∧St ψ (F) w_) (g:=w) ?_ ?_
 ·refine AL b rfl (fun _ b=> ?_) (fun _ b=> ?_)
  ·obtain rfl:=iS b
   exact AS (true,()) rfl ⟨φ,(Sub.refl _),rfl,s0⟩
  obtain ⟨al,am,z,⟨_,_,rfl,⟨an,rfl,ao⟩,_,_,rfl,⟨ap,rfl,aq⟩,_,_,rfl,⟨ar,rfl,au⟩,_,_,rfl,⟨av,rfl,aw⟩,_,_,rfl,⟨ax,rfl,ay⟩,_,_,rfl,⟨az,rfl,b0⟩,_,_,rfl,⟨m,rfl,a0⟩,rfl⟩,a1⟩:=id j
  have a2:=a0.length
  refine AF _ z ?_
  refine AG (x:=m) (AE s0.sub (a1.at 6 rfl)) rfl ?_
  obtain rfl:=iS b
  exact AS ((decide (n_1≥ ((m.2.1:Nat):Int))),()) rfl ⟨φ,(Sub.refl _),(by rw [a2]),s0⟩
 rintro z1 b1 ⟨c,d,rfl,n⟩
 try dsimp only at hd
 refine AL hd rfl (fun _ hd=> ?_) (fun _ hd=> ?_)
 ·obtain rfl:=iS hd
  exact AB ⟨c,(-1:Int),d,rfl,rfl,n⟩
 obtain ⟨b2,a3,hd⟩:=bS hd
 obtain ⟨a4,a5,a6⟩:=Option.map_eq_some_iff.1 a3
 subst a6
 refine AT (fun (y:Int×Int×Unit) w_ g=> ∃ψ:AC,Sub c ψ∧y.2.1=g∧St ψ (F) w_) (g:=(AU.get a4)) ?_ ?_
 ·refine Be a5 (fun a7 (y:Int×Int×Unit) w_ g=> ∃ψ:AC,Sub c ψ∧y.1=a7∧y.2.1=g∧St ψ (F) w_) ((0:Int),n_1,()) rfl ⟨c,(Sub.refl _),rfl,rfl,n⟩ ?_ ?_
  ·rintro _ z5 b3 _ _ ⟨b4,e,rfl,rfl,o⟩ a a8 p q a9
   try dsimp only at a a8 p q
   refine Ai (dT l p) ?_
   obtain ⟨b5,aa,a⟩:=bS a
   refine CV k aa (Sub.trans (d.trans e) o.sub) ?_
   obtain ⟨b6,ab,a⟩:=bS a
   refine AI (C9 (j.mono (d.trans e)) o ab) ?_
   rintro _ b7 ⟨s,t8,t,rfl,rfl,u⟩
   refine ⟨t8,rfl,?_⟩
   refine AL a rfl (fun _ a=> ?_) (fun _ a=> ?_)
   ·obtain rfl:=iS a
    obtain rfl:=a9 _ rfl
    exact AJ (AK (z5.1,t8,()) rfl ⟨s,(e.trans t),rfl,u⟩)
   obtain rfl:=iS a
   exact Ag ((wN z5.1),t8,()) _ rfl rfl ⟨s,(e.trans t),q,rfl,u⟩
  ·rintro _ z5 b8 _ ⟨ac,ad,rfl,rfl,ae⟩ af ag
   subst ag
   refine AX (dF l af) ?_
   exact AJ (AK (z5.1,z5.2.1,()) rfl ⟨ac,ad,rfl,ae⟩)
 rintro z4 b9 ⟨ah,ai,aj,ak⟩
 rw [← aj] at hd
 try dsimp only at hd
 obtain rfl:=iS hd
 exact AB ⟨ah,z4.2.1,(d.trans ai),rfl,rfl,ak⟩
theorem Mm:G5 Tryz.prog 22 22 5 1:=⟨Tryz.underlying22, .inl Tryz.underlying22,⟨Tryz.t5,by kernel_rfl,rfl,⟨_,rfl,rfl⟩,by decide,by decide⟩,by decide⟩
noncomputable def Dj (kernel_0:List Bu):Option ByteArray:=
 (forS (σ:=List Int) (0:Int) (((List.length kernel_0):Nat):Int) ([] :List Int) fun i_z2 z2=>
  (idx kernel_0 i_z2).bind fun e28=>
  (Da z2 e28.1 (10:Int)).bind fun t8=>
  (app t8 ([(46:Int)] :List Int)).bind fun t10=>
  (Da t10 e28.2 (10:Int)).bind fun t12=>
  (app t12 ([(32:Int)] :List Int)).bind fun t14=>
  some t14).bind fun z1=>
 (Q5 z1).bind fun t15=>
 some t15
theorem MA {h:AH} {kernel_0:Slc} {d:List Bu} (gk:Glob (BN h)) (f:Ro.SliceIs Ca (BN h) kernel_0 d) (s0:St (BN h) [] h) {r:ByteArray} (hd:Dj d=some r):
 CallsH Tryz.prog 100 [(sv kernel_0)] h (Ar fun v h'=> ∃ψ:AC,∃y:ByteArray,Sub (BN h) ψ∧v=((.one (.atom .string)):Sh).val y∧y=r∧St ψ [] h'):=by
 refine AR mixed Tryz.func100 ?_
 rw [MU]
 unfold Km
 unfold Dj at hd
 have i:kernel_0.2.1=List.length d:=f.length
 obtain ⟨z,a0,hd⟩:=bS hd
 refine AT (fun (y:Int×Slc×Unit) w_ g=> ∃ψ:AC,∃j:List Int,Sub (BN h) ψ∧ψ=(BN h)∧j=g∧St ψ (cR 5 (Ro.int .u8) y.2.1 j:: []) w_) (g:=z) ?_ ?_
 ·refine BJ a0 (fun a1 (y:Int×Slc×Unit) w_ g=> ∃ψ:AC,∃k:List Int,Sub (BN h) ψ∧ψ=(BN h)∧y.1=a1∧k=g∧St ψ (cR 5 (Ro.int .u8) y.2.1 k:: []) w_) ((0:Int),((none,0,0):Slc),()) rfl ⟨(BN h),([] :List Int),(Sub.refl _),rfl,rfl,rfl,(s0.nil 5 (Ro.int .u8))⟩ ?_ ?_
  ·rintro _ z2 ar _ _ ⟨au,av,l,rfl,rfl,rfl,e⟩ b a2 m n
   try dsimp only at b a2 m n
   refine Ai (dT i m) ?_
   obtain ⟨c,a3,b⟩:=bS b
   obtain ⟨aw,ax,a4,a5,a6,o⟩:=(f.mono l).get a3
   refine AF _ a4 (Aa a5 ?_)
   obtain ⟨_,_,rfl,a7,a8⟩:=a6
   obtain rfl:=a7
   obtain rfl:=a8
   refine AG (x:=c.1) (AE e.sub (o 0 _ rfl)) rfl ?_
   refine AG (x:=c.2) (by rw [Ae]; exact (AE e.sub (o 1 _ rfl))) rfl ?_
   refine AY (vs:= [.int .i64 (0:Int), .int .i64 (0:Int)]) e fun r6 ay a9=> ?_
   refine AQ a9 rfl rfl fun az aa=> ?_
   refine AQ aa rfl rfl fun b0 p=> ?_
   refine AA (x:=c.1) p rfl ?_
   obtain ⟨b1,ab,b⟩:=bS b
   refine AI (KD gk p.at1 ab) ?_
   rintro _ b2 ⟨b3,t8,b4,ac,rfl,rfl,rfl,ad⟩
   refine ⟨t8,rfl,?_⟩
   refine AY (vs:= [.int .u8 (46:Int)]) ad fun r9 b5 q=> ?_
   obtain ⟨b6,ae,b⟩:=bS b
   refine Aj (r:=(Ro.int .u8)) (ms:=([(46:Int)] :List Int)) Mm q.tail rfl (St.cells q) (.cons (a:= [_]) rfl .nil) rfl ae ?_
   intro t10 b7 s
   refine AA (x:=c.2) s.at1 rfl ?_
   obtain ⟨b8,af,b⟩:=bS b
   refine AI (KD gk s af) ?_
   rintro _ b9 ⟨ba,t12,bb,ag,rfl,rfl,rfl,ah⟩
   refine ⟨t12,rfl,?_⟩
   refine AY (vs:= [.int .u8 (32:Int)]) ah fun r13 bc t=> ?_
   obtain ⟨ai,aj,b⟩:=bS b
   refine Aj (r:=(Ro.int .u8)) (ms:=([(32:Int)] :List Int)) Mm t.tail rfl (St.cells t) (.cons (a:= [_]) rfl .nil) rfl aj ?_
   intro t14 bd ak
   obtain rfl:=iS b
   exact Ag ((wN z2.1),t14,()) _ rfl rfl ⟨(BN h),ai,((l.trans ac).trans ag),rfl,n,rfl,ak.at1.tail⟩
  ·rintro _ z2 be ⟨bf,al,am,rfl,rfl,rfl,an⟩ ao
   refine AX (dF i ao) ?_
   exact AJ (AK (z2.1,z2.2.1,()) rfl ⟨(BN h),al,am,rfl,rfl,an⟩)
 rintro z1 bg ⟨bh,bi,ap,rfl,rfl,u⟩
 try dsimp only at hd
 obtain ⟨w,aq,hd⟩:=bS hd
 refine QH (x:=w) Tryz.underlying22 Tryz.underlying5 Tryz.underlying9 (St.bytes u) aq ?_
 obtain rfl:=iS hd
 exact AB ⟨(BN h),w,ap,(by first | with_reducible rfl | (show Value.string _=Value.string _; with_reducible rfl) | rfl),(by first | with_reducible rfl | rfl),u.tail⟩
theorem JF {φ:AC} {h:AH} {F:List Chk} {kernel_0:Slc} {a:List Bu} (gk:Glob φ) (b:Ro.SliceIs Ca φ kernel_0 a) (s0:St φ (F) h) {r:ByteArray} (hd:Dj a=some r):
 CallsH Tryz.prog 100 [(sv kernel_0)] h (Ar fun v h'=> ∃ψ:AC,∃y:ByteArray,Sub φ ψ∧v=((.one (.atom .string)):Sh).val y∧y=r∧St ψ (F) h'):=by
 refine CallsH.mono (MA (gk.mono s0.sub) (b.mono s0.sub) (Sub.refl _) hd) ?_
 rintro e h' ⟨v,rfl,ψ,y,hs,rfl,rfl,s1⟩
 exact ⟨_,rfl,φ,y,Sub.refl _,rfl,rfl,s0.keep (hs.trans s1.sub)⟩
noncomputable def BY (a_0:Gx) (items_1:List Bu):Option (List Int):=
 (forS (σ:=List Int) (0:Int) (((List.length items_1):Nat):Int) ([] :List Int) fun i_z2 z2=>
  (idx items_1 i_z2).bind fun e31=>
  (Bd a_0 (e31.1,e31.2)).bind fun t9=>
  (cond (decide (t9≥ (0:Int)))
  ((app z2 ([t9] :List Int)).bind fun t12=>
   some t12)
  (some z2)).bind fun z10=>
  some z10).bind fun z1=>
 (Q9 z1).bind fun t13=>
 (K0 t13).bind fun t14=>
 some t14
theorem HN {φ:AC} {h:AH} {F:List Chk} {a_0:Option Addr} {e:Gx} {items_1:Slc} {f:List Bu} (l:Ro.SliceIs Ca φ items_1 f) (s0:St φ (cO 131 (Rep.ro B2) a_0 e::F) h) {r:(List Int)} (hd:BY e f=some r):
 CallsH Tryz.prog 103 [(.pointer a_0),(sv items_1)] h (Ar fun v h'=> ∃ψ:AC,∃y:Slc,∃m:List Int,Sub φ ψ∧v=((.one aS):Sh).val y∧m=r∧Ro.SliceIs (Ro.int .i64) ψ y m∧St ψ (cO 131 (Rep.ro B2) a_0 e::F) h'):=by
 refine AR mixed Tryz.func103 ?_
 rw [HB]
 unfold Em
 unfold BY at hd
 have n:items_1.2.1=List.length f:=l.length
 obtain ⟨a2,a3,hd⟩:=bS hd
 refine AT (fun (y:Int×Slc×Unit) w_ g=> ∃ψ:AC,∃o:List Int,Sub φ ψ∧o=g∧St ψ (cR 3 (Ro.int .i64) y.2.1 o::cO 131 (Rep.ro B2) a_0 e::F) w_) (g:=a2) ?_ ?_
 ·refine BJ a3 (fun a4 (y:Int×Slc×Unit) w_ g=> ∃ψ:AC,∃p:List Int,Sub φ ψ∧y.1=a4∧p=g∧St ψ (cR 3 (Ro.int .i64) y.2.1 p::cO 131 (Rep.ro B2) a_0 e::F) w_) ((0:Int),((none,0,0):Slc),()) rfl ⟨φ,([] :List Int),(Sub.refl _),rfl,rfl,(((s0.nil 3 (Ro.int .i64)).at1).at1)⟩ ?_ ?_
  ·rintro _ z2 b9 _ _ ⟨ba,a5,q,rfl,rfl,i⟩ b a6 s u
   try dsimp only at b a6 s u
   refine Ai (dT n s) ?_
   obtain ⟨c,a7,b⟩:=bS b
   obtain ⟨bb,bc,a8,a9,aa,w⟩:=(l.mono q).get a7
   refine AF _ a8 (Aa a9 ?_)
   obtain ⟨_,_,rfl,ab,ac⟩:=aa
   obtain rfl:=ab
   obtain rfl:=ac
   refine AG (x:=c.1) (AE i.sub (w 0 _ rfl)) rfl ?_
   refine AG (x:=c.2) (by rw [Ae]; exact (AE i.sub (w 1 _ rfl))) rfl ?_
   refine AY (vs:= [.int .i64 (0:Int), .int .i64 (0:Int)]) i fun r6 bd ad=> ?_
   refine AQ ad rfl rfl fun be ae=> ?_
   refine AQ ae rfl rfl fun bf j=> ?_
   refine AA (x:=c.1) j rfl ?_
   refine AA (x:=c.2) j rfl ?_
   obtain ⟨bg,af,b⟩:=bS b
   refine AI (C7 (x_1:=(c.1,c.2,())) j.at2 af) ?_
   rintro _ bh ⟨k,t9,ag,rfl,rfl,z⟩
   refine ⟨t9,rfl,?_⟩
   obtain ⟨ah,d,b⟩:=bS b
   refine Ao (fun (y:Slc×Unit) w_ g=> ∃ψ:AC,∃a0:List Int,Sub k ψ∧a0=g∧St ψ (cR 3 (Ro.int .i64) y.1 a0::cO 131 (Rep.ro B2) a_0 e::cW 70 r6 [.int .i64 c.1, .int .i64 c.2] ::F) w_) (g:=ah) ?_ ?_
   ·refine AL d rfl (fun _ d=> ?_) (fun _ d=> ?_)
    ·refine AY (vs:= [.int .i64 t9]) z fun r11 bi a1=> ?_
     obtain ⟨ai,aj,d⟩:=bS d
     refine Aj (r:=(Ro.int .i64)) (ms:=([t9] :List Int)) ED a1.tail.at2 rfl (St.cells a1) (.cons (a:= [_]) rfl .nil) rfl aj ?_
     intro t12 bj ak
     obtain rfl:=iS d
     exact AS (t12,()) rfl ⟨k,ai,(Sub.refl _),rfl,ak.at2.at2.at2⟩
    obtain rfl:=iS d
    exact AS (z2.2.1,()) rfl ⟨k,a5,(Sub.refl _),rfl,z.at2.at2.at2.at2⟩
   rintro z10 bk ⟨al,am,an,rfl,ao⟩
   try dsimp only at b
   obtain rfl:=iS b
   exact Ag ((wN z2.1),z10.1,()) _ rfl rfl ⟨al,am,((q.trans ag).trans an),u,rfl,ao.at2.tail.at1.at1⟩
  ·rintro _ z2 bl ⟨ap,aq,ar,rfl,rfl,au⟩ av
   refine AX (dF n av) ?_
   exact AJ (AK (z2.1,z2.2.1,()) rfl ⟨ap,aq,ar,rfl,au.at1.at1⟩)
 rintro z1 bm ⟨bn,bo,aw,rfl,ax⟩
 try dsimp only at hd
 obtain ⟨bp,ay,hd⟩:=bS hd
 refine AI (R0 ax ay) ?_
 rintro _ bq ⟨br,t13,bs,az,rfl,rfl,b0⟩
 refine ⟨t13,rfl,?_⟩
 obtain ⟨bt,b1,hd⟩:=bS hd
 refine AI (PA b0 b1) ?_
 rintro _ bu ⟨bv,t14,b2,b3,rfl,rfl,b4⟩
 refine ⟨t14,rfl,?_⟩
 obtain ⟨b5,b6,b7,b8⟩:=St.freezeRow (t:=t14) b4
 obtain rfl:=iS hd
 exact AB ⟨b5,t14,b2,(((aw.trans az).trans b3).trans b6),rfl,rfl,b7,b8⟩
noncomputable def B1 (a_0:C1) (n_1:Int):Option (List Bu):=
 (CE a_0 n_1).bind fun t1=>
 (cloneD t1.2.1).bind fun t2=>
 some t2
theorem Er {φ:AC} {h:AH} {F:List Chk} {a_0:Option Addr} {a:C1} {n_1:Int} (c:Pt FC φ a_0 a) (s0:St φ (F) h) {r:(List Bu)} (hd:B1 a n_1=some r):
 CallsH Tryz.prog 32 [(.pointer a_0),(.int .i64 n_1)] h (Ar fun v h'=> ∃ψ:AC,∃y:Slc,∃b:List Bu,Sub φ ψ∧v=((.one aS):Sh).val y∧b=r∧Ro.SliceIs Ca ψ y b∧St ψ (F) h'):=by
 refine AR mixed Tryz.func32 ?_
 rw [IK]
 unfold Fa
 unfold B1 at hd
 obtain ⟨q,d,hd⟩:=bS hd
 refine AI (EF c s0 d) ?_
 rintro _ s ⟨u,t1,w,x,z,e,rfl,rfl,a0,f,a1,g⟩
 refine ⟨t1,rfl,?_⟩
 try dsimp only at hd
 obtain ⟨a2,i,hd⟩:=bS hd
 refine AI (L5 f g i) ?_
 rintro _ a3 ⟨a4,t2,j,k,rfl,rfl,l⟩
 refine ⟨t2,rfl,?_⟩
 obtain ⟨m,n,o,p⟩:=St.freezeRow (t:=t2) l
 obtain rfl:=iS hd
 exact AB ⟨m,t2,j,((e.trans k).trans n),rfl,rfl,o,p⟩
noncomputable def BK (a_0:C1) (n_1:Int):Option (List Ek):=
 (CE a_0 n_1).bind fun t1=>
 (cloneD t1.2.2.1).bind fun t2=>
 some t2
theorem CB {φ:AC} {h:AH} {F:List Chk} {a_0:Option Addr} {a:C1} {n_1:Int} (c:Pt FC φ a_0 a) (s0:St φ (F) h) {r:(List Ek)} (hd:BK a n_1=some r):
 CallsH Tryz.prog 34 [(.pointer a_0),(.int .i64 n_1)] h (Ar fun v h'=> ∃ψ:AC,∃y:Slc,∃b:List Ek,Sub φ ψ∧v=((.one aS):Sh).val y∧b=r∧Ro.SliceIs Fq ψ y b∧St ψ (F) h'):=by
 refine AR mixed Tryz.func34 ?_
 rw [IL]
 unfold Fb
 unfold BK at hd
 obtain ⟨q,d,hd⟩:=bS hd
 refine AI (EF c s0 d) ?_
 rintro _ s ⟨u,t1,w,x,z,e,rfl,rfl,a0,a1,f,g⟩
 refine ⟨t1,rfl,?_⟩
 try dsimp only at hd
 obtain ⟨a2,i,hd⟩:=bS hd
 refine AI (PR f g i) ?_
 rintro _ a3 ⟨a4,t2,j,k,rfl,rfl,l⟩
 refine ⟨t2,rfl,?_⟩
 obtain ⟨m,n,o,p⟩:=St.freezeRow (t:=t2) l
 obtain rfl:=iS hd
 exact AB ⟨m,t2,j,((e.trans k).trans n),rfl,rfl,o,p⟩
end Go.Proofs.YteolcjbobmpdiaaGreatDoor
namespace Go.Proofs.YteolcjbobmpdiaaGreatDoor
open Go Go.Eng Go.RowKit Go.Shelf Go.Sort
set_option linter.unusedVariables false
set_option maxRecDepth 100000
def orI (x y:Int):Int:=if x=0 then y else x
set_option maxHeartbeats 1000000 in
theorem or2 {b:Nat} {x y:Int} (w:World) (h0:w.cell? ⟨b,0,none⟩=some (.int .i64 x)) (h1:w.cell? ⟨b,1,none⟩=some (.int .i64 y)):
 Calls Tryz.prog 157 #[.slice (some ⟨b,0,none⟩) 2 2] w fun e w'=>e= .returned (.int .i64 (orI x y))∧w'=w:=by
 have hmx:Tryz.prog.follows .mixedOrders=true:=mixed
 go_enter Tryz.func157,Tryz.ntmps157
 go_wp2
 go_loop [5,8] (fun _ i=> ∃k:Nat,k≤2∧i= .int .i64 k∧(1≤k→x=0)∧(2≤k→y=0)) (fun _ i=>match i with | .int _ m=>2 - m.toNat | _=>0)
 case atStart=>exact ⟨0,by omega,rfl,by omega,by omega⟩
 case round=>
  obtain ⟨k,hk,rfl,g1,g2⟩:=hrel
  have hk3:k=0∨k=1∨k=2:=by omega
  rcases hk3 with rfl | rfl | rfl
  ·go_wp2
   ·have hne:(x !=0)=true:=by assumption
    go_ret
    exact ⟨by unfold orI; rw [if_neg (by simpa using hne)]; rfl,rfl⟩
   ·have hne:(x !=0)=false:=by assumption
    exact ⟨⟨1,by omega,rfl,fun _=>by simpa using hne,fun h=>by omega⟩,by decide⟩
  ·go_wp2
   ·have hne:(y !=0)=true:=by assumption
    go_ret
    have hx:=g1 (by omega); subst hx; exact ⟨rfl,rfl⟩
   ·have hne:(y !=0)=false:=by assumption
    exact ⟨⟨2,by omega,rfl,fun _=>g1 (by omega),fun _=>by simpa using hne⟩,by decide⟩
  ·go_wp2
   go_ret
   have hx:=g1 (by omega); have hy:=g2 (by omega); subst hx; subst hy; exact ⟨rfl,rfl⟩
theorem Je {w:World} {b i:Nat} {c:Array Value} {t:TypeId} {v:Value} (hb:w.heap[b]? =some (.cells c t (0,0))) (hv:c[i]? =some v):w.cell? ⟨b,i,none⟩=some v:=by
 rw [Pw,FA (c:=c) (t:=t) (f:=(0,0)) hb rfl]
 exact hv
theorem Nk (w:World) (x y:Int):(w.alloc (.cells #[.int .i64 x, .int .i64 y] 3)).cell? ⟨w.heap.size,0,none⟩=some (.int .i64 x)∧(w.alloc (.cells #[.int .i64 x, .int .i64 y] 3)).cell? ⟨w.heap.size,1,none⟩=some (.int .i64 y):=by
 have hb:(w.alloc (.cells #[.int .i64 x, .int .i64 y] 3)).heap[w.heap.size]? =some (.cells #[.int .i64 x, .int .i64 y] 3 (0,0)):=by
  show (w.heap.push _)[w.heap.size]? =_
  rw [Array.getElem?_push,if_pos rfl]
 exact ⟨Je hb rfl,Je hb rfl⟩
theorem Mn (w:World) (o:Obj):w.alloc o=grow w #[o] :=by
 show ({w with heap:=w.heap.push o} :World)= {w with heap:=w.heap++ #[o] }
 rw [Array.push_eq_append]
set_option maxHeartbeats 4000000 in
theorem Wp {a b:Int×Int} (w:World):
 Calls Tryz.prog 128 #[.agg #[.int .i64 a.1, .int .i64 a.2], .agg #[.int .i64 b.1, .int .i64 b.2]] w fun e w'=>e= .returned (.int .i64 (orI (Lib.compareInt a.1 b.1) (Lib.compareInt a.2 b.2)))∧ ∃q os',w'=grow (w.drewN q) os':=by
 have hmx:Tryz.prog.follows .mixedOrders=true:=mixed
 have e61: ∀args w,(callFunc 158 args).run Tryz.prog w= .ok (.enter 158 args) w:=enters_of Tryz.func158 (by kernel_rfl) rfl
 have e60: ∀args w,(callFunc 157 args).run Tryz.prog w= .ok (.enter 157 args) w:=enters_of Tryz.func157 (by kernel_rfl) rfl
 go_enter Tryz.func128,Tryz.ntmps128
 go_wp2
 obtain ⟨A,hA⟩: ∃A,A=Obj.cells #[Value.int .i64 a.1,Value.int .i64 a.2] 70 (0,0):=⟨_,rfl⟩
 obtain ⟨B,hB⟩: ∃B,B=Obj.cells #[Value.int .i64 b.1,Value.int .i64 b.2] 70 (0,0):=⟨_,rfl⟩
 obtain ⟨W,hW⟩: ∃W,W=(w.alloc A).alloc B:=⟨_,rfl⟩
 have hh:W.heap=(w.heap.push A).push B:=by rw [hW]; rfl
 have ha:W.heap[w.heap.size]? =some A:=by rw [hh,Array.getElem?_push,if_neg (by simp),Array.getElem?_push,if_pos rfl]
 have hb:W.heap[w.heap.size+1]? =some B:=by rw [hh,Array.getElem?_push,if_pos (by simp)]
 rw [← hA,← hB,← hW]
 rw [hA] at ha
 rw [hB] at hb
 have f1:W.drew.cell? ⟨w.heap.size,0,none⟩=some (.int .i64 a.1):=Je (w:=W.drew) ha rfl
 have f2:W.drew.cell? ⟨w.heap.size,1,none⟩=some (.int .i64 a.2):=Je (w:=W.drew) ha rfl
 have f3:W.drew.cell? ⟨w.heap.size+1,0,none⟩=some (.int .i64 b.1):=Je (w:=W.drew) hb rfl
 have f4:W.drew.cell? ⟨w.heap.size+1,1,none⟩=some (.int .i64 b.2):=Je (w:=W.drew) hb rfl
 have hWg:grow w #[A,B] =W:=by rw [hW,Mn,Mn,grow_grow]; rfl
 clear hh ha hb hW hA hB
 refine wp_region_still_tail 10 (by kernel_rfl) (by kernel_rfl) ?_
 simp only [List.take_succ_cons,List.take_zero,List.drop_succ_cons,List.drop_zero]
 still_step
 still_step
 still_step
 still_step
 still_call (Any.cmp_Compare_int Kz _ _ _)
 still_step
 still_step
 still_step
 still_step
 still_call (Any.cmp_Compare_int Kz _ _ _)
 refine wpStill_nil ?_
 clear f1 f2 f3 f4
 change wpList _ _ _ _ _ W.drew
 generalize hV:W.drew=V
 go_wp2_with (go_at_call 157; refine (or2 (x:=Lib.compareInt a.1 b.1) (y:=Lib.compareInt a.2 b.2) _ (Nk _ _ _).1 (Nk _ _ _).2).mono ?_; rintro e w' ⟨rfl,rfl⟩)
 go_ret
 refine ⟨rfl,1,#[A,B] ++ #[.cells #[.int .i64 (Lib.compareInt a.1 b.1), .int .i64 (Lib.compareInt a.2 b.2)] 3 (0,0)],?_⟩
 rw [Mn,← hV,← hWg,← grow_grow]
 rfl
abbrev Item:=Int×Int
def FO (x:Item):List Value:= [.int .i64 x.1, .int .i64 x.2]
def cfI (x y:Item):Int:=orI (Lib.compareInt x.1 y.1) (Lib.compareInt x.2 y.2)
def Dc (x y:Item):Bool:=decide (x.1<y.1∨x.1=y.1∧x.2<y.2)
def GM (l:List Item):List Item:=Na (fun x y=> !Dc y x) l
theorem LB (a b c:Item) (h1:(!Dc b a)=true) (h2:(!Dc c b)=true):(!Dc c a)=true:=by
 simp only [Dc,Bool.not_eq_true',decide_eq_false_iff_not] at *
 omega
theorem LC (a b:Item):(!Dc b a || !Dc a b)=true:=by
 simp only [Dc,Bool.or_eq_true,Bool.not_eq_true',decide_eq_false_iff_not]
 omega
theorem R9 (l:List Item):GM l=l.mergeSort fun x y=> !Dc y x:=
 O9 LB LC (fun a b h1 h2=>by
  simp only [Dc,Bool.not_eq_true',decide_eq_false_iff_not] at *
  exact Prod.ext (by omega) (by omega)) l
def Hq (l:List Item):Option (List Item):=if l.length<4611686018427387904 then some (GM l) else none
theorem SA {φ:AC} {vs:List Value} {l:List Item} (H:Ca.All φ vs l):vs=l.flatMap FO:=by
 induction H with
 | nil=>rfl
 | cons h _ ih=>
  obtain ⟨_,_,rfl,rfl,rfl⟩:=h
  rw [ih,List.flatMap_cons]
  rfl
theorem SC {φ:AC} (l:List Item):Ca.All φ (l.flatMap FO) l:=by
 induction l with
 | nil=>exact .nil
 | cons x l ih=>exact Ro.All.cons (a:=FO x) ⟨[_],_,rfl,rfl,rfl⟩ ih
theorem Tc (l:List Item): ∀t:Nat,t<l.length * 2→(l.flatMap FO)[t]? =some ((FO (l[t / 2]?.getD (0,0)))[t % 2]!):=by
 induction l with
 | nil=>intro t h; simp at h
 | cons x l ih=>
  intro t h
  rw [List.flatMap_cons]
  match t with
  | 0=>rfl
  | 1=>rfl
  | t+2=>
   rw [List.getElem?_append_right (by simp [FO])]
   have e:t+2 - (FO x).length=t:=by simp [FO]
   rw [e,ih t (by simp at h; omega),show (t+2) / 2=t / 2+1 by omega,List.getElem?_cons_succ,show (t+2) % 2=t % 2 by omega]
theorem LD (l:List Item):(l.flatMap FO).length=l.length * 2:=by
 induction l with
 | nil=>rfl
 | cons x l ih=>rw [List.flatMap_cons,List.length_append,ih,List.length_cons]; simp [FO]; omega
theorem Mo (l:List Item):flatK FO 2 l.toArray=(l.flatMap FO).toArray:=by
 refine ext_get! (by rw [size_flatK,List.size_toArray,List.size_toArray,LD]) fun t ht=> ?_
 rw [size_flatK,List.size_toArray] at ht
 rw [get_flatK _ _ _ _ (by simpa using ht)]
 have h1:=Tc l t ht
 have ht':t< (l.flatMap FO).length:=by rw [LD]; exact ht
 rw [List.getElem?_eq_getElem ht'] at h1
 rw [getElem!_pos _ t (by simpa using ht')]
 have h2:t / 2<l.length:=by omega
 rw [getElem!_pos _ (t / 2) (by simpa using h2)]
 rw [List.getElem?_eq_getElem h2] at h1
 simp only [List.getElem_toArray]
 exact (Option.some.inj h1).symm
theorem Mp (x y:Item):ltOf cfI x y=Dc x y:=by
 unfold ltOf cfI Dc orI Lib.compareInt
 by_cases h1:x.1<y.1
 ·simp [h1]
 ·by_cases h2:y.1<x.1
  ·have: ¬x.1=y.1:=by omega
   simp [h1,h2,this]
  ·have h3:x.1=y.1:=by omega
   by_cases h4:x.2<y.2
   ·simp [h3,h4]
   ·by_cases h5:y.2<x.2<;>simp [h3,h4,h5]
theorem Qc (x y:Item):Dc x y=true ↔ (x.1<y.1∨x.1=y.1∧x.2<y.2):=by unfold Dc; exact decide_eq_true_iff
theorem JG (x y:Item):Dc x y=false ↔ ¬(x.1<y.1∨x.1=y.1∧x.2<y.2):=by unfold Dc; exact decide_eq_false_iff_not
theorem W7:SWO (ltOf cfI) where
 irrefl x:=by rw [Mp,JG]; omega
 trans x y z h1 h2:=by rw [Mp,Qc] at *; omega
 ntrans x y z h1 h2:=by rw [Mp,JG] at *; omega
theorem W8 (x y:Item) (h1:ltOf cfI x y=false) (h2:ltOf cfI y x=false):x=y:=by
 rw [Mp,JG] at h1 h2
 exact Prod.ext (by omega) (by omega)
section
variable {φ:AC} {h:AH} {F:List Chk}
theorem Qd {t:Slc} {l r:List Item} (s0:St φ (cR 70 Ca t l::F) h) (hd:Hq l=some r):
 CallsH Tryz.prog 127 [.slice t.1 t.2.1 t.2.2, .func (.func 128) #[] #[]] h (Ar fun v h'=> ∃ψ:AC,∃y:Unit,∃l1:List Item,Sub φ ψ∧v=((.tuple []):Sh).val y∧l1=r∧St ψ (cR 70 Ca t l1::F) h'):=by
 unfold Hq at hd
 split at hd
 ·rename_i hb
  cases hd
  intro w hw
  subst hw
  rcases St.rowHoldsF s0 with ⟨hl,hn⟩ | ⟨b,off,vs,ht,hall,hn,hlt,hfit,hH⟩
  ·subst hl
   rw [hn]
   have hc:=AnyF.slices_SortFunc_none I7 t.1 t.2.2 (.func (.func 128) #[] #[]) w
   refine (show Calls Tryz.prog 127 #[.slice t.1 0 t.2.2,_] w _ from hc).mono ?_
   rintro e w' ⟨rfl,rfl⟩
   exact ⟨Bn.refl _,_,rfl,φ,(),_,Sub.refl _,rfl,rfl,by rw [show GM [] = [] from rfl]; exact s0⟩
  ·have hvs:=SA hall
   subst hvs
   have hHd:HoldsK FO 2 w b off l.toArray:=by unfold HoldsK; rw [Mo]; exact hH
   have hc:=AnyQ.slices_SortFunc_total I7 2 (fun w=>Tryz.isAgg70 w) (fun w=>Tryz.sizeOf70 w) FO (fun _=>rfl) (fun x v hv=>by simp [FO] at hv; rcases hv with rfl | rfl<;>rfl) cfI W7 128 #[] b off t.2.2 l.toArray w
    (enters_of Tryz.func128 (by kernel_rfl) rfl) (fun m os dk hdk x y=>Wp (a:=x) (b:=y) _) hHd hlt (by simpa using hb) W8
   have hn2:t.2.1=l.toArray.size:=by rw [hn]; simp
   rw [ht,hn2]
   refine (show Calls Tryz.prog 127 #[.slice (some ⟨b,off,none⟩) l.toArray.size t.2.2,_] w _ from hc).mono ?_
   rintro e w' ⟨rfl,k,os,rfl⟩
   have hsrt:(l.toArray.toList.mergeSort fun x y=> !(ltOf cfI) y x)=GM l:=by
    rw [R9]
    congr 1
    funext x y
    rw [Mp]
   rw [hsrt]
   have hlen:(GM l).length=l.length:=(Cu _ _).length_eq
   have s1:=St.rowSortedF s0 ht ((GM l).flatMap FO) (SC _) hlen (by rw [LD,hlen,← LD]; exact hfit) k os
   refine ⟨⟨rfl,rfl,rfl,by unfold sortWorldK; rw [size_grow,size_putRowK]; exact Nat.le_add_right _ _⟩,_,rfl,φ,(),_,Sub.refl _,rfl,rfl,?_⟩
   unfold sortWorldK putRowK
   rw [Mo]
   exact s1
 ·cases hd
end
end Go.Proofs.YteolcjbobmpdiaaGreatDoor
namespace Go.Proofs.YteolcjbobmpdiaaGreatDoor
open Go Go.Eng
set_option linter.unusedVariables false
set_option maxRecDepth 100000
noncomputable def A9 (a_0:Gx) (kernel_1:List Bu):Option (List Bu):=
 (cloneD kernel_1).bind fun t1=>
 (loop (σ:=(Int×List Bu×List (Int×Bool))) (β:=(List Bu×List (Int×Bool))) ((0:Int),t1,([] :List (Int×Bool))) fun z4=>
  cond (decide (z4.1< (((List.length z4.2.1):Nat):Int)))
  (((idx z4.2.1 z4.1).bind fun e45=>
   (Bd a_0 (e45.1,e45.2)).bind fun t9=>
   (cond (decide (t9< (0:Int)))
   (some true)
   ((BZ (a_0.1,a_0.2.1,a_0.2.2.1,a_0.2.2.2.1,a_0.2.2.2.2.1,a_0.2.2.2.2.2.1) t9).bind fun t18=>
    cond t18
    (some true)
    ((some (BL t9 z4.2.2)).bind fun t19=>
     some (Option.getD t19 false)))).bind fun z10=>
   cond z10
   (some (z4.2.1,z4.2.2))
   ((forS (σ:=List Bu) (0:Int) (((List.length a_0.2.2.1):Nat):Int) z4.2.1 fun i_z24 z24=>
    (idx a_0.2.2.1 i_z24).bind fun e160=>
    (cond (e160.1==t9)
    ((Ak z24 (i_z24,(0:Int))).bind fun t35=>
     some (!t35))
    (some false)).bind fun z31=>
    (cond z31
    ((app z24 ([(i_z24,(0:Int))] :List Bu)).bind fun t40=>
     some t40)
    (some z24)).bind fun z36=>
    some z36).bind fun z23=>
    some (z23,(Bt t9 true z4.2.2)))).bind fun z5=>
   some (AU.next ((IntKind.wrap .i64 (z4.1+(1:Int))),z5.1,z5.2)))
  (some (AU.done (z4.2.1,z4.2.2)))).bind fun z3=>
 (Hq z3.1).bind fun t41=>
 some t41
theorem HO {φ:AC} {h:AH} {F:List Chk} {a_0:Option Addr} {b:Gx} {kernel_1:Slc} {ar:List Bu} (bl:Ro.SliceIs Ca φ kernel_1 ar) (s0:St φ (cO 131 (Rep.ro B2) a_0 b::F) h) {r:(List Bu)} (hd:A9 b ar=some r):
 CallsH Tryz.prog 101 [(.pointer a_0),(sv kernel_1)] h (Ar fun v h'=> ∃ψ:AC,∃y:Slc,∃au:List Bu,Sub φ ψ∧v=((.one aS):Sh).val y∧au=r∧Ro.SliceIs Ca ψ y au∧St ψ (cO 131 (Rep.ro B2) a_0 b::F) h'):=by
 refine AR mixed Tryz.func101 ?_
 rw [HA]
 unfold El
 unfold A9 at hd
 obtain ⟨e4,bm,hd⟩:=bS hd
 refine AI (L5 bl s0 bm) ?_
 rintro _ e5 ⟨af,t1,bn,bo,rfl,rfl,bp⟩
 refine ⟨t1,rfl,?_⟩
 refine DA (kyI .i64) Ro.bool bp fun r2 e6 bq=> ?_
 obtain ⟨br,bs,hd⟩:=bS hd
 refine AT (fun (y:Int×Slc×Unit) w_ g=> ∃ψ:AC,∃av:List Bu,∃aw:List (Int×Bool),Sub af ψ∧(av,aw)=g∧St ψ (cR 70 Ca y.2.1 av::cM (kyI .i64) Ro.bool r2 aw::cO 131 (Rep.ro B2) a_0 b::F) w_) (g:=br) ?_ ?_
 ·refine Dr bs (fun (y:Int×Slc×Unit) w_ g=> ∃ψ:AC,∃ax:List Bu,∃ay:List (Int×Bool),Sub af ψ∧(y.1,ax,ay)=g∧St ψ (cR 70 Ca y.2.1 ax::cM (kyI .i64) Ro.bool r2 ay::cO 131 (Rep.ro B2) a_0 b::F) w_) ((0:Int),t1,()) rfl ⟨af,bn,([] :List (Int×Bool)),(Sub.refl _),rfl,bq.at1.at2.at2.at2⟩ ?_
  ·rintro z4 e7 _ _ ⟨az,a2,j,b0,rfl,a3⟩ k bt
   try dsimp only at k
   have bu:=a3.rowLen
   refine AL k (by rw [bu] <;>rfl) (fun _ k=> ?_) (fun _ k=> ?_)
   ·obtain ⟨bv,c,k⟩:=bS k
    refine AT (fun (y:Slc×Unit) w_ g=> ∃ψ:AC,∃b1:List Bu,∃b2:List (Int×Bool),Sub az ψ∧(b1,b2)=g∧St ψ (cR 70 Ca y.1 b1::cM (kyI .i64) Ro.bool r2 b2::cO 131 (Rep.ro B2) a_0 b::F) w_) (g:=bv) ?_ ?_
    ·obtain ⟨a4,bw,c⟩:=bS c
     obtain ⟨e8,e9,bx,bz,c0,b3⟩:=(a3).get bw
     refine AF _ bx (Aa bz ?_)
     obtain ⟨_,_,rfl,c1,c2⟩:=c0
     obtain rfl:=c1
     obtain rfl:=c2
     refine AG (x:=a4.1) (b3 0 _ rfl) rfl ?_
     refine AG (x:=a4.2) (by rw [Ae]; exact (b3 1 _ rfl)) rfl ?_
     obtain ⟨ea,c3,c⟩:=bS c
     refine AI (C7 (x_1:=(a4.1,a4.2,())) a3.at2 c3) ?_
     rintro _ eb ⟨b4,t9,b5,rfl,rfl,b6⟩
     refine ⟨t9,rfl,?_⟩
     obtain ⟨c4,e,c⟩:=bS c
     refine Ao (fun (y:Bool×Unit) w_ g=> ∃ψ:AC,Sub b4 ψ∧y.1=g∧St ψ (cO 131 (Rep.ro B2) a_0 b::cR 70 Ca z4.2.1 a2::cM (kyI .i64) Ro.bool r2 j::F) w_) (g:=c4) ?_ ?_
     ·refine AL e rfl (fun _ e=> ?_) (fun _ e=> ?_)
      ·have c5:=b6.at2
       obtain rfl:=iS e
       exact AS (true,()) rfl ⟨b4,(Sub.refl _),rfl,c5.at2.at2⟩
      obtain ⟨ec,ed,c6,⟨_,_,rfl,⟨a5,rfl,ag⟩,_,_,rfl,⟨a6,rfl,ah⟩,_,_,rfl,⟨a7,rfl,ai⟩,_,_,rfl,⟨a8,rfl,aj⟩,_,_,rfl,⟨a9,rfl,ak⟩,_,_,rfl,⟨aa,rfl,al⟩,_,_,rfl,rfl,rfl⟩,l⟩:=St.openR b6
      subst c6
      refine AF _ rfl ?_
      refine AA (x:=a5) l rfl ?_
      refine AA (x:=a6) l rfl ?_
      refine AA (x:=a7) l rfl ?_
      refine AA (x:=a8) l rfl ?_
      refine AA (x:=a9) l rfl ?_
      refine AA (x:=aa) l rfl ?_
      obtain ⟨ee,c7,e⟩:=bS e
      refine AI (EZ (p_0:=(a5,a6,a7,a8,a9,aa,())) ag ah ai aj ak al l c7) ?_
      rintro _ ef ⟨b7,t18,d,rfl,rfl,am⟩
      refine ⟨t18,rfl,?_⟩
      refine AL e rfl (fun _ e=> ?_) (fun _ e=> ?_)
      ·have c8:=St.shutR (r:=B2) (x:=(b.1,b.2.1,b.2.2.1,b.2.2.2.1,b.2.2.2.2.1,b.2.2.2.2.2.1,b.2.2.2.2.2.2.1,(b.2.2.2.2.2.2.2))) am ⟨[_],_,rfl,⟨a5,rfl,(ag.mono d)⟩,⟨[_],_,rfl,⟨a6,rfl,(ah.mono d)⟩,⟨[_],_,rfl,⟨a7,rfl,(ai.mono d)⟩,⟨[_],_,rfl,⟨a8,rfl,(aj.mono d)⟩,⟨[_],_,rfl,⟨a9,rfl,(ak.mono d)⟩,⟨[_],_,rfl,⟨aa,rfl,(al.mono d)⟩,⟨[_],_,rfl,rfl,rfl⟩⟩⟩⟩⟩⟩⟩
       obtain rfl:=iS e
       exact AS (true,()) rfl ⟨b7,d,rfl,c8.at2.at2.at2⟩
      obtain ⟨eg,c9,e⟩:=bS e
      obtain rfl:=iS c9
      refine Fy (a:= .bool) (kk:=(kyI .i64)) (i:=Tryz.t4) false Tryz.underlying213 Tryz.underlying3 (by kernel_rfl) rfl am.at2 ?_
      have ca:=St.shutR (r:=B2) (x:=(b.1,b.2.1,b.2.2.1,b.2.2.2.1,b.2.2.2.2.1,b.2.2.2.2.2.1,b.2.2.2.2.2.2.1,(b.2.2.2.2.2.2.2))) am ⟨[_],_,rfl,⟨a5,rfl,(ag.mono d)⟩,⟨[_],_,rfl,⟨a6,rfl,(ah.mono d)⟩,⟨[_],_,rfl,⟨a7,rfl,(ai.mono d)⟩,⟨[_],_,rfl,⟨a8,rfl,(aj.mono d)⟩,⟨[_],_,rfl,⟨a9,rfl,(ak.mono d)⟩,⟨[_],_,rfl,⟨aa,rfl,(al.mono d)⟩,⟨[_],_,rfl,rfl,rfl⟩⟩⟩⟩⟩⟩⟩
      obtain rfl:=iS e
      exact AS (((BL t9 j).getD false),()) rfl ⟨b7,d,rfl,ca.at2.at2.at2⟩
     rintro z10 eh ⟨ab,b8,rfl,b9⟩
     try dsimp only at c
     refine AL c rfl (fun _ c=> ?_) (fun _ c=> ?_)
     ·have cb:=b9.at1
      obtain rfl:=iS c
      exact AK (z4.2.1,()) rfl ⟨ab,a2,j,(b5.trans b8),rfl,cb.at1.at2.at2⟩
     refine Ip (kk:=(kyI .i64)) (y:=true) Tryz.underlying213 Tryz.underlying3 b9.at2 rfl fun ei cc=> ?_
     obtain ⟨ac,ej,cd,⟨_,_,rfl,⟨s,rfl,ce⟩,_,_,rfl,⟨u,rfl,cf⟩,_,_,rfl,⟨q,rfl,an⟩,_,_,rfl,⟨w,rfl,cg⟩,_,_,rfl,⟨z,rfl,ch⟩,_,_,rfl,⟨a0,rfl,ci⟩,_,_,rfl,rfl,rfl⟩,ba⟩:=St.openR cc.at1
     subst cd
     have bb:=an.length
     refine AF _ rfl ?_
     refine AA (x:=q) ba rfl ?_
     obtain ⟨cj,ck,c⟩:=bS c
     refine AT (fun (y:Int×Slc×Unit) w_ g=> ∃ψ:AC,∃bc:List Bu,Sub ab ψ∧bc=g∧St ψ (cR 70 Ca y.2.1 bc::cW 131 ac [sv s,sv u,sv q,sv w,sv z,sv a0,sv b.2.2.2.2.2.2.1, .int .i64 (b.2.2.2.2.2.2.2)] ::cM (kyI .i64) Ro.bool r2 (Bt t9 true j)::F) w_) (g:=cj) ?_ ?_
     ·refine BJ ck (fun cl (y:Int×Slc×Unit) w_ g=> ∃ψ:AC,∃bd:List Bu,Sub ab ψ∧y.1=cl∧bd=g∧St ψ (cR 70 Ca y.2.1 bd::cW 131 ac [sv s,sv u,sv q,sv w,sv z,sv a0,sv b.2.2.2.2.2.2.1, .int .i64 (b.2.2.2.2.2.2.2)] ::cM (kyI .i64) Ro.bool r2 (Bt t9 true j)::F) w_) ((0:Int),z4.2.1,()) rfl ⟨ab,a2,(Sub.refl _),rfl,rfl,ba.at2.at2.at2.at2⟩ ?_ ?_
      ·rintro _ z24 ek _ _ ⟨be,bf,bg,rfl,rfl,ad⟩ f cm bh bi
       try dsimp only at f cm bh bi
       refine Ai (dT bb bh) ?_
       obtain ⟨m,cn,f⟩:=bS f
       obtain ⟨el,em,co,cp,cq,ao⟩:=(an.mono bg).get cn
       refine AF _ co (Aa cp ?_)
       obtain ⟨_,_,rfl,cr,cs⟩:=cq
       obtain rfl:=cr
       obtain ⟨_,_,rfl,ct,cu⟩:=cs
       obtain ⟨ap,rfl,en⟩:=ct
       obtain rfl:=cu
       refine AG (x:=m.1) (AE ad.sub (ao 0 _ rfl)) rfl ?_
       refine AG (x:=ap) (by rw [Ae]; exact (AE ad.sub (ao 1 _ rfl))) rfl ?_
       refine AG (x:=m.2.2) (by rw [Ae]; exact (AE ad.sub (ao 2 _ rfl))) rfl ?_
       refine AY (vs:= [.int .i64 (0:Int), .slice none 0 0, .int .i64 (0:Int)]) ad fun r29 eo cv=> ?_
       refine AQ cv rfl rfl fun ep cw=> ?_
       refine AQ cw rfl rfl fun er cx=> ?_
       refine AQ cx rfl rfl fun es cy=> ?_
       refine AY (vs:= [.int .i64 (0:Int), .int .i64 (0:Int)]) cy fun r30 eu cz=> ?_
       refine AQ cz rfl rfl fun ev d0=> ?_
       refine AQ d0 rfl rfl fun ew a1=> ?_
       obtain ⟨d1,n,f⟩:=bS f
       refine Ao (fun (y:Bool×Unit) w_ g=> ∃ψ:AC,Sub be ψ∧y.1=g∧St ψ (cW 70 r30 [.int .i64 z24.1, .int .i64 (0:Int)] ::cW 65 r29 [.int .i64 m.1,sv ap, .int .i64 m.2.2] ::cR 70 Ca z24.2.1 bf::cW 131 ac [sv s,sv u,sv q,sv w,sv z,sv a0,sv b.2.2.2.2.2.2.1, .int .i64 (b.2.2.2.2.2.2.2)] ::cM (kyI .i64) Ro.bool r2 (Bt t9 true j)::F) w_) (g:=d1) ?_ ?_
       ·refine AA (x:=m.1) a1.at1 rfl ?_
        refine AL n rfl (fun _ n=> ?_) (fun _ n=> ?_)
        ·refine AA (x:=z24.1) a1 rfl ?_
         refine AA (x:=(0:Int)) a1 rfl ?_
         obtain ⟨ex,d2,n⟩:=bS n
         refine AI (DD (v_1:=(z24.1,(0:Int),())) a1.at2 d2) ?_
         rintro _ ey ⟨d3,t35,d4,rfl,rfl,d5⟩
         refine ⟨t35,rfl,?_⟩
         obtain rfl:=iS n
         exact AS ((!t35),()) rfl ⟨d3,d4,rfl,d5.at4.at4.at2.at4.at4⟩
        obtain rfl:=iS n
        exact AS (false,()) rfl ⟨be,(Sub.refl _),rfl,a1.at4.at4.at4.at4.at4⟩
       rintro z31 ez ⟨aq,d6,rfl,ae⟩
       try dsimp only at f
       obtain ⟨d7,o,f⟩:=bS f
       refine Ao (fun (y:Slc×Unit) w_ g=> ∃ψ:AC,∃bj:List Bu,Sub aq ψ∧bj=g∧St ψ (cR 70 Ca y.1 bj::cW 70 r30 [.int .i64 z24.1, .int .i64 (0:Int)] ::cW 65 r29 [.int .i64 m.1,sv ap, .int .i64 m.2.2] ::cW 131 ac [sv s,sv u,sv q,sv w,sv z,sv a0,sv b.2.2.2.2.2.2.1, .int .i64 (b.2.2.2.2.2.2.2)] ::cM (kyI .i64) Ro.bool r2 (Bt t9 true j)::F) w_) (g:=d7) ?_ ?_
       ·refine AL o rfl (fun _ o=> ?_) (fun _ o=> ?_)
        ·refine AA (x:=z24.1) ae rfl ?_
         refine AA (x:=(0:Int)) ae rfl ?_
         refine AY (vs:= [.int .i64 z24.1, .int .i64 (0:Int)]) ae fun r39 f0 bk=> ?_
         obtain ⟨d8,d9,o⟩:=bS o
         refine Aj (r:=Ca) (ms:=([(z24.1,(0:Int))] :List Bu)) Ml bk.tail.at2 rfl (St.cells bk) (.cons (a:= [_,_]) ⟨[_],_,rfl,rfl,rfl⟩ .nil) rfl d9 ?_
         intro t40 f1 da
         obtain rfl:=iS o
         exact AS (t40,()) rfl ⟨aq,d8,(Sub.refl _),rfl,da.at4.at4.at4.at4.at4⟩
        obtain rfl:=iS o
        exact AS (z24.2.1,()) rfl ⟨aq,bf,(Sub.refl _),rfl,ae.at2.at4.at4.at4.at4.at4⟩
       rintro z36 f2 ⟨db,dc,dd,rfl,de⟩
       try dsimp only at f
       obtain rfl:=iS f
       exact Ag ((wN z24.1),z36.1,()) _ rfl rfl ⟨db,dc,((bg.trans d6).trans dd),bi,rfl,de.at1.tail.at1.tail.at2.at2.at2⟩
      ·rintro _ z24 f3 ⟨df,dg,dh,rfl,rfl,di⟩ dj
       refine AX (dF bb dj) ?_
       exact AJ (AK (z24.1,z24.2.1,()) rfl ⟨df,dg,dh,rfl,di.at2.at2.at2⟩)
     rintro z23 f4 ⟨dk,dl,p,rfl,dm⟩
     try dsimp only at c
     have dn:=St.shutR (r:=B2) (x:=(b.1,b.2.1,b.2.2.1,b.2.2.2.1,b.2.2.2.2.1,b.2.2.2.2.2.1,b.2.2.2.2.2.2.1,(b.2.2.2.2.2.2.2))) dm.at1 ⟨[_],_,rfl,⟨s,rfl,(ce.mono p)⟩,⟨[_],_,rfl,⟨u,rfl,(cf.mono p)⟩,⟨[_],_,rfl,⟨q,rfl,(an.mono p)⟩,⟨[_],_,rfl,⟨w,rfl,(cg.mono p)⟩,⟨[_],_,rfl,⟨z,rfl,(ch.mono p)⟩,⟨[_],_,rfl,⟨a0,rfl,(ci.mono p)⟩,⟨[_],_,rfl,rfl,rfl⟩⟩⟩⟩⟩⟩⟩
     obtain rfl:=iS c
     exact LQ (z23.2.1,()) rfl ⟨dk,dl,(Bt t9 true j),((b5.trans b8).trans p),rfl,dn.at2.at2⟩
    rintro z5 f5 ⟨dp,dq,dr,ds,rfl,dt⟩
    try dsimp only at k
    obtain rfl:=iS k
    exact Ag ((wN z4.1),z5.1,()) _ rfl rfl ⟨dp,dq,dr,(b0.trans ds),rfl,dt.at2.at2.at2⟩
   obtain rfl:=iS k
   obtain rfl:=bt _ rfl
   exact AJ (AK (z4.1,z4.2.1,()) rfl ⟨az,a2,j,b0,rfl,a3.at2.at2.at2⟩)
 rintro z3 f6 ⟨f7,f8,f9,du,rfl,dv⟩
 try dsimp only at hd
 obtain ⟨fa,dw,hd⟩:=bS hd
 refine AI (Qd dv dw) ?_
 rintro _ fb ⟨fc,t41,dx,dy,rfl,rfl,dz⟩
 refine ⟨t41,rfl,?_⟩
 obtain ⟨e0,e1,e2,e3⟩:=St.freezeRow (t:=z3.2.1) dz
 obtain rfl:=iS hd
 exact AB ⟨e0,z3.2.1,dx,(((bo.trans du).trans dy).trans e1),rfl,rfl,e2,e3.tail⟩
abbrev dtB:Type:=(List Item×List Item×Slc×Int×Int)
abbrev roB:Ro dtB:=Ro.prod (Ro.list Ca) (Ro.prod (Ro.list Ca) (Ro.prod Ro.slc (Ro.prod (Ro.int .i64) (Ro.int .i64))))
abbrev dtK:Type:=(List Item×List Item×Int×Int)
abbrev LE {ε:Type} (b:dtK) (s:ε):List Item×List Item×ε×Int×Int:=(b.1,b.2.1,s,b.2.2.1,b.2.2.2)
abbrev EG {ε:Type} (B:List dtK) (S:List ε):List (List Item×List Item×ε×Int×Int):=List.zipWith LE B S
theorem D4 {ε:Type} {B:List dtK} {S:List ε} (h:S.length=B.length):(EG B S).length=B.length:=by
 unfold EG; rw [List.length_zipWith]; omega
theorem SD {ε:Type} {B:List dtK} {S:List ε} (h:S.length=B.length) (b:dtK) (s:ε):EG (B++ [b]) (S++ [s])=EG B S++ [LE b s] :=by
 unfold EG; rw [List.zipWith_append h.symm]; rfl
abbrev Fd:Type:=List (ByteArray×Int)
abbrev qA (p:Ay) (s:Slc) (t:Int):Gx:=(p.1,p.2.1,p.2.2.1,p.2.2.2.1,p.2.2.2.2.1,p.2.2.2.2.2,s,t)
abbrev FP:Slc:=(none,0,0)
theorem PS (p:Ay) (s:Slc) (t:Int) (k:List Item):A9 (qA p s t) k=A9 (qA p FP 0) k:=rfl
abbrev bC (c3 c4 c5 c6 m a r1 r2:Nat) (fd:Fd) (p:Ay) (ls:Slc) (tot:Int) (L:List dtB) (rm cl:CX) (F:List Chk):List Chk:=
 cW 185 c3 [.map (some m)] ::cM kyS (Ro.int .i64) m fd::cW 41 c4 [pv a] ::cO 131 (Rep.ro B2) (some ⟨a,0,none⟩) (qA p ls tot)::cR 150 roB ls L::
 cW 183 c5 [pv r1] ::cO 211 (Rep.ro FD) (some ⟨r1,0,none⟩) rm::cW 183 c6 [pv r2] ::cO 211 (Rep.ro FD) (some ⟨r2,0,none⟩) cl::F
noncomputable def SE (p:Ay) (fd:Fd) (B:List dtK) (rm cl:CX) (k:List Item) (fr wi:Int):Option (Int×Int×Fd×List dtK×CX×CX):=
 (Dj k).bind fun s=>
 cond (BL s fd).isSome (some ((BL s fd).getD 0,0,fd,B,rm,cl))
 ((A9 (qA p FP 0) k).bind fun its=>
  (CC rm 1).bind fun t=>
  (cond (t.1==(0:Int)) ((CC cl ((its.length:Nat):Int)).bind fun u=>some (u.1,u.2)) (some (t.1,cl))).bind fun z=>
  (app B [(k,its,fr,wi)]).bind fun B'=>
  some (IntKind.wrap .i64 (((B'.length:Nat):Int) - 1),z.1,Bt s ((B.length:Nat):Int) fd,B',t.2,z.2))
theorem W9:G5 Tryz.prog 129 129 150 5:=⟨Tryz.underlying129, .inl Tryz.underlying129,⟨Tryz.t150,by kernel_rfl,rfl,⟨_,rfl,rfl⟩,by decide,by decide⟩,by decide⟩
theorem St.bC_of {φ:AC} {h:AH} {a0 a1 a2 a3 a4 a5 a6 a7 a8:Chk} {F:List Chk} (H:St φ (a3::a4::a1::a8::a6::a0::a2::a5::a7::F) h):St φ (a0::a1::a2::a3::a4::a5::a6::a7::a8::F) h:=
 H.at3.at8.at5.at8.at5.at5.at8.at7.at8
set_option maxHeartbeats 2000000 in
theorem RG {φ:AC} {h:AH} {F:List Chk} {t:Slc} {k:List Item} {fr wi:Int} {c3 c4 c5 c6 m a r1 r2:Nat} {fd:Fd} {p:Ay} {ls:Slc} {tot:Int} {B:List dtK} {S:List Slc} {rm cl:CX}
 (gk:Glob φ) (k1:Ro.SliceIs Ca φ t k) (hS:S.length=B.length) (s0:St φ (bC c3 c4 c5 c6 m a r1 r2 fd p ls tot (EG B S) rm cl F) h) {r:Int×Int×Fd×List dtK×CX×CX} (hd:SE p fd B rm cl k fr wi=some r):
 CallsH Tryz.prog 99 [.slice t.1 t.2.1 t.2.2, .int .i64 fr, .int .i64 wi,pv c3,pv c4,pv c5,pv c6] h (Ar fun v h'=> ∃(ψ:AC) (y:Int×Int×Unit) (ls':Slc) (S':List Slc),Sub φ ψ∧v=((.tuple [.atom (.int .i64), .atom (.int .i64)]):Sh).val y∧y.1=r.1∧y.2.1=r.2.1∧
  ((r.2.2.2.1=B∧S'=S)∨ ∃x,r.2.2.2.1=B++ [x] ∧S'=S++ [FP])∧St ψ (bC c3 c4 c5 c6 m a r1 r2 r.2.2.1 p ls' tot (EG r.2.2.2.1 S') r.2.2.2.2.1 r.2.2.2.2.2 F) h'):=by
 refine AR mixed Tryz.func99 ?_
 rw [KT]
 unfold HC
 unfold SE at hd
 obtain ⟨s,hs,hd⟩:=bS hd
 refine AA (x:=some m) s0 rfl ?_
 refine AI (JF gk k1 s0 hs) ?_
 rintro _ h1 ⟨ψ1,s,le1,rfl,rfl,s1⟩
 refine ⟨s,rfl,?_⟩
 refine AO (St.cell s1 rfl) ?_
 refine Rx (a:= .int .i64) (kk:=kyS) (i:=Tryz.t3) 0 Tryz.underlying185 Tryz.underlying9 (by kernel_rfl) rfl s1.at1 fun y hy=> ?_
 subst hy
 refine AL hd rfl (fun _ hd=> ?_) (fun _ hd=> ?_)
 ·obtain rfl:=iS hd
  exact AB ⟨ψ1,((BL s fd).getD 0,0,()),ls,S,le1,rfl,rfl,rfl, .inl ⟨rfl,rfl⟩,s1⟩
 obtain ⟨its,hc,hd⟩:=bS hd
 obtain ⟨tk,ht,hd⟩:=bS hd
 obtain ⟨z,hz,hd⟩:=bS hd
 obtain ⟨B',hB,hd⟩:=bS hd
 obtain rfl:=iS hd
 refine AA (x:=some ⟨a,0,none⟩) s1.at2 rfl ?_
 refine AI (HO (k1.mono le1) s1.at3 (by rw [PS]; exact hc)) ?_
 rintro _ h2 ⟨ψ2,y2,l2,le2,rfl,rfl,k2,s2⟩
 refine ⟨y2,rfl,?_⟩
 have n2:=k2.length
 have le12:=le1.trans le2
 refine AY (vs:= [.slice none 0 0, .slice none 0 0, .slice none 0 0, .int .i64 (0:Int), .int .i64 (0:Int)]) s2 fun r6 h3 s3=> ?_
 refine AQ s3 rfl rfl fun h4 s4=> ?_
 refine AQ s4 rfl rfl fun h5 s5=> ?_
 refine AQ s5 rfl rfl fun h6 s6=> ?_
 refine AQ s6 rfl rfl fun h7 s7=> ?_
 refine AQ s7 rfl rfl fun h8 s8=> ?_
 have s8':St ψ2 (cW 150 r6 [sv t,sv y2, .slice none 0 0, .int .i64 fr, .int .i64 wi] ::cO 131 (Rep.ro B2) (some ⟨a,0,none⟩) (qA p ls tot)::cW 185 c3 [.map (some m)] ::cM kyS (Ro.int .i64) m fd::cW 41 c4 [pv a] ::cR 150 roB ls (EG B S)::
  cW 183 c5 [pv r1] ::cO 211 (Rep.ro FD) (some ⟨r1,0,none⟩) rm::cW 183 c6 [pv r2] ::cO 211 (Rep.ro FD) (some ⟨r2,0,none⟩) cl::F) h8:=s8
 refine AA (x:=some ⟨r1,0,none⟩) s8'.at6 rfl ?_
 refine AI (FJ s8'.at7 ht) ?_
 rintro _ h9 ⟨ψ3,y3,rm',le3,rfl,rfl,s9⟩
 refine ⟨y3,rfl,?_⟩
 dsimp only at hz
 refine Ao (fun (y:Int×Unit) w (g:Int×CX)=> ∃(ψ:AC) (cl':CX),Sub ψ3 ψ∧(y.1,cl')=g∧St ψ (cO 211 (Rep.ro FD) (some ⟨r2,0,none⟩) cl'::cO 211 (Rep.ro FD) (some ⟨r1,0,none⟩) rm'::cW 150 r6 [sv t,sv y2, .slice none 0 0, .int .i64 fr, .int .i64 wi] ::
  cO 131 (Rep.ro B2) (some ⟨a,0,none⟩) (qA p ls tot)::cW 185 c3 [.map (some m)] ::cM kyS (Ro.int .i64) m fd::cW 41 c4 [pv a] ::cR 150 roB ls (EG B S)::cW 183 c5 [pv r1] ::cW 183 c6 [pv r2] ::F) w) (g:=z) ?_ ?_
 ·refine AL hz rfl (fun _ hz=> ?_) (fun _ hz=> ?_)
  ·obtain ⟨u,hu,hz⟩:=bS hz
   obtain rfl:=iS hz
   refine AA (x:=some ⟨r2,0,none⟩) s9.at8 rfl ?_
   refine AA (x:=y2) s9.at1 rfl ?_
   rw [← n2] at hu
   refine AI (FJ s9.at9 hu) ?_
   rintro _ h10 ⟨ψ4,y4,cl',le4,rfl,rfl,s10⟩
   refine ⟨y4,rfl,?_⟩
   exact AS (y4,()) rfl ⟨ψ4,cl',le4,rfl,s10⟩
  ·obtain rfl:=iS hz
   exact AS (y3,()) rfl ⟨ψ3,cl,Sub.refl _,rfl,s9.at9⟩
 rintro z9 h11 ⟨ψ5,cl',le5,rfl,s11⟩
 refine AA (x:=some m) s11.at4 rfl ?_
 refine AA (x:=some ⟨a,0,none⟩) s11.at6 rfl ?_
 refine AF _ rfl ?_
 have s12':=s11.at3
 obtain ⟨b,vs,e,⟨_,_,rfl,⟨u1,rfl,kk1⟩,_,_,rfl,⟨u2,rfl,kk2⟩,_,_,rfl,⟨u3,rfl,kk3⟩,_,_,rfl,⟨u4,rfl,kk4⟩,_,_,rfl,⟨u5,rfl,kk5⟩,_,_,rfl,⟨u6,rfl,kk6⟩,_,_,rfl,rfl,rfl⟩,s12⟩:=St.openR s12'
 obtain rfl:a=b:=by simpa using e
 refine AA (x:=ls) s12 rfl ?_
 have le25:=(le2.trans le3).trans le5
 have le15:=le1.trans le25
 refine AI (JF (gk.mono le15) (k1.mono le15) s12 hs) ?_
 rintro _ h13 ⟨ψ6,q6,le6,rfl,rfl,s13⟩
 refine ⟨q6,rfl,?_⟩
 refine AO (St.cell (b:=a) (j:=6) s13 rfl) ?_
 refine AO (St.cell s13.at6 rfl) ?_
 refine AO (St.cell s13.at4 rfl) ?_
 have nL:=St.rowLen s13.at7
 rw [D4 hS] at nL
 refine Ip (kk:=kyS) (y:=((ls.2.1:Nat):Int)) Tryz.underlying185 Tryz.underlying9 s13.at5 rfl fun h14 s14=> ?_
 refine AA (x:=some ⟨a,0,none⟩) s14.at6 rfl ?_
 refine AA (x:=some ⟨a,0,none⟩) s14.at6 rfl ?_
 refine AF _ rfl ?_
 refine AA (x:=ls) s14.at1 rfl ?_
 refine AA (x:=t) s14.at4 rfl ?_
 refine AA (x:=y2) s14.at4 rfl ?_
 refine AA (x:=FP) s14.at4 rfl ?_
 refine AA (x:=fr) s14.at4 rfl ?_
 refine AA (x:=wi) s14.at4 rfl ?_
 refine AY (vs:= [sv t,sv y2, .slice none 0 0, .int .i64 fr, .int .i64 wi]) s14 fun r28 h15 s15=> ?_
 refine AO (St.cell (b:=a) (j:=6) s15.at2 rfl) ?_
 refine AO (St.cell s15.at7 rfl) ?_
 refine AO (St.cell s15.at7 rfl) ?_
 have cw:=St.cells s15
 have le26:=le25.trans le6
 have le16:=le1.trans le26
 obtain ⟨hapl,rfl⟩:=MR hB
 have hap:app (EG B S) [LE (k,l2,fr,wi) FP] =some (EG (B++ [(k,l2,fr,wi)]) (S++ [FP])):=by
  unfold app
  rw [D4 hS,SD hS,if_pos (by simpa using hapl)]
 refine Aj (r:=roB) (ms:= [LE (k,l2,fr,wi) FP]) W9 (s15.tail.at7) rfl cw (.cons (a:= [_,_,_,_,_]) ⟨[_],_,rfl,⟨t,rfl,k1.mono le16⟩, [_],_,rfl,⟨y2,rfl,k2.mono (((le3.trans le5)).trans le6)⟩, [_],_,rfl,rfl, [_],_,rfl,rfl,rfl⟩ .nil) rfl hap fun ls' h16 s16=> ?_
 have nL':=St.rowLen s16
 rw [D4 (by simp [hS])] at nL'
 refine AO (St.cell s16.at7 rfl) ?_
 refine AF _ rfl ?_
 refine AQ s16.at2 rfl rfl fun h17 s17=> ?_
 refine AA (x:=some ⟨a,0,none⟩) s17.at7 rfl ?_
 refine AF _ rfl ?_
 refine AA (x:=ls') s17 rfl ?_
 have s18:=St.shutR (r:=B2) (x:=qA p ls' tot) s17 ⟨[_],_,rfl,⟨u1,rfl,kk1.mono le6⟩, [_],_,rfl,⟨u2,rfl,kk2.mono le6⟩, [_],_,rfl,⟨u3,rfl,kk3.mono le6⟩, [_],_,rfl,⟨u4,rfl,kk4.mono le6⟩, [_],_,rfl,⟨u5,rfl,kk5.mono le6⟩, [_],_,rfl,⟨u6,rfl,kk6.mono le6⟩, [_],_,rfl,rfl,rfl⟩
 refine AB ⟨ψ6,(IntKind.wrap .i64 (((ls'.2.1:Nat):Int) - 1),z9.1,()),ls',S++ [FP],le16,rfl,by rw [nL'],rfl, .inr ⟨_,rfl,rfl⟩,?_⟩
 rw [nL] at s18
 exact St.bC_of s18.at5.tail
end Go.Proofs.YteolcjbobmpdiaaGreatDoor
