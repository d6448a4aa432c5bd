/-
  G2, G3, G4, P1, P2, P3, P4, Path, P5, Build, Sim6, P6, P7, EngR, EngQ, put together.
  Conditions: none; each part tells its own.
-/
import Derived.Test.YtnkmpgldbddnkaaDoorK3
import Derived.Test.YtnkmpgldbddnkaaDoorK2
import Derived.KernelRfl
import Derived.Test.YtnkmpgldbddnkaaDoorK1
import Derived.WalkKit
import Derived.ProofKit
import Derived.OpenShut
import Derived.ShutString
import Derived.ChangeOld
import Derived.Below
namespace Go.Proofs.YtnkmpgldbddnkaaDoor
open Go Go.Eng
set_option linter.unusedVariables false
set_option maxRecDepth 100000
theorem wr {x:Int} (h: -1000000≤x∧x≤1000000):IntKind.wrap .i64 x=x:=w64 (by omega) (by omega)
theorem tm {x n:Int} (h:0≤x):Int.tmod x n=x % n:=Int.tmod_eq_emod_of_nonneg h
theorem L8 {i:Int} (h0:0≤i) (h1:i<5):ByteArray.extract {data:= #[112,113,114,115,116] } (Int.toNat i) (Int.toNat (i+1))=nm 112 i.toNat:=by
 rw [show Int.toNat (i+1)=i.toNat+1 by omega,NU (by omega)]
theorem L9 {i:Int} (h0:0≤i) (h1:i<5):ByteArray.extract {data:= #[97,98,99,100,101] } (Int.toNat i) (Int.toNat (i+1))=nm 97 i.toNat:=by
 rw [show Int.toNat (i+1)=i.toNat+1 by omega,NT (by omega)]
theorem KV {i:Int} (h0:0≤i) (h1:i<4):ByteArray.extract {data:= #[83,84,85,86] } (Int.toNat i) (Int.toNat (i+1))=nm 83 i.toNat:=by
 rw [show Int.toNat (i+1)=i.toNat+1 by omega,NV (by omega)]
def Dg (L:List FP):List ByteArray:=L.flatMap (·.2)
structure Lv (nl nk:Nat) (L:List FP):Prop where
 len:L.length=nl
 each: ∀(j:Nat) x,L[j]? =some x→1≤x.1∧x.1≤3∧nm 112 j ∈ x.2
 names: ∀x ∈ Dg L,(∃i,i<nl∧x=nm 112 i)∨ ∃i,i<nk∧x=nm 97 i
 once:(Dg L).Nodup
 room:(Dg L).length≤nl+nk
def Tk (n:Nat) (l:List Gu):Prop:=l.length=n∧ ∀j,j<n→l[j]? =some (nm 97 j,nm 97 j,{data:= #[] },false)
structure Ru1 (nt nv nl:Nat) (r:Dn):Prop where
 left: ∃i,i<nv∧r.1=nm 83 i
 few:r.2.1.length≤5
 right: ∀x ∈ r.2.1,(∃i,i<nt∧x=nm 97 i)∨ ∃i,i<nv∧x=nm 83 i
 prec:r.2.2.1= {data:= #[] } ∨ ∃i,i<nl∧r.2.2.1=nm 112 i
 act:r.2.2.2= {data:= #[] }
theorem Lv.snoc {k:Nat} {L:List FP} {a:Int} (H:Lv k 0 L) (ha:1≤a∧a≤3) (hk:k<5):Lv (k+1) 0 (L++ [(a, [nm 112 k])]):=by
 have e:Dg (L++ [(a, [nm 112 k])])=Dg L++ [nm 112 k] :=by unfold Dg; rw [List.flatMap_append]; rfl
 refine ⟨by simp [H.len],fun j x hj=> ?_,fun x hx=> ?_,?_,?_⟩
 ·rcases Nat.lt_or_ge j L.length with g | g
  ·rw [List.getElem?_append_left g] at hj; exact H.each j x hj
  ·rw [List.getElem?_append_right g] at hj
   have:j - L.length=0:=by
    rcases Nat.eq_zero_or_pos (j - L.length) with q | q
    ·exact q
    ·rw [List.getElem?_eq_none (by simp; omega)] at hj; cases hj
   rw [this] at hj
   simp at hj
   subst hj
   have:j=k:=by have:=H.len; omega
   subst this
   exact ⟨ha.1,ha.2,by simp⟩
 ·rw [e] at hx
  rcases List.mem_append.1 hx with h | h
  ·rcases H.names x h with ⟨i,h1,h2⟩ | ⟨i,h1,h2⟩
   ·exact .inl ⟨i,by omega,h2⟩
   ·omega
  ·exact .inl ⟨k,by omega,by simpa using h⟩
 ·rw [e]
  refine List.nodup_append.2 ⟨H.once,by simp,fun x hx y hy hxy=> ?_⟩
  have hy:y=nm 112 k:=by simpa using hy
  subst hy
  rcases H.names x hx with ⟨i,h1,h2⟩ | ⟨i,h1,h2⟩
  ·rw [h2] at hxy
   have:=Gz (by omega) (by omega) hxy
   omega
  ·omega
 ·rw [e,List.length_append]
  have:=H.room
  simp
  omega
theorem MA {L:List FP} {q:Nat} {a:Int} {ns:List ByteArray} {y:ByteArray} (h:L[q]? =some (a,ns)):(Dg (L.set q (a,ns++ [y]))).Perm (y::Dg L):=by
 induction L generalizing q with
 | nil=>simp at h
 | cons x L ih=>
  cases q with
  | zero=>
   simp at h
   subst h
   show (ns++ [y] ++Dg L).Perm (y::(ns++Dg L))
   rw [List.append_assoc]
   exact List.perm_middle
  | succ q=>
   have:=ih (q:=q) (by simpa using h)
   show (x.2++Dg (L.set q (a,ns++ [y]))).Perm (y::(x.2++Dg L))
   exact (this.append_left x.2).trans List.perm_middle
theorem Lv.put {nl k:Nat} {L:List FP} {q:Nat} {a:Int} {ns:List ByteArray} (H:Lv nl k L) (hk:k<5) (hn:nl≤5) (h:L[q]? =some (a,ns)):Lv nl (k+1) (L.set q (a,ns++ [nm 97 k])):=by
 have hp:=MA (y:=nm 97 k) h
 refine ⟨by simp [H.len],fun j x hj=> ?_,fun x hx=> ?_,?_,?_⟩
 ·by_cases hq:j=q
  ·subst hq
   rw [List.getElem?_set_self (List.getElem?_eq_some_iff.1 h).1] at hj
   cases hj
   obtain ⟨h1,h2,h3⟩:=H.each j _ h
   exact ⟨h1,h2,List.mem_append_left _ h3⟩
  ·rw [List.getElem?_set_ne (fun e=>hq e.symm)] at hj
   exact H.each j x hj
 ·rcases List.mem_cons.1 (hp.mem_iff.1 hx) with rfl | h
  ·exact .inr ⟨k,by omega,rfl⟩
  ·rcases H.names x h with h | ⟨i,h1,h2⟩
   ·exact .inl h
   ·exact .inr ⟨i,by omega,h2⟩
 ·rw [hp.nodup_iff]
  refine List.nodup_cons.2 ⟨fun hm=> ?_,H.once⟩
  rcases H.names _ hm with ⟨i,h1,h2⟩ | ⟨i,h1,h2⟩
  ·have:=Gz (by omega) (by omega) h2
   omega
  ·have:=Gz (by omega) (by omega) h2
   omega
 ·rw [hp.length_eq,List.length_cons]
  have:=H.room
  omega
theorem Lv.up {nl k:Nat} {L:List FP} (H:Lv nl k L):Lv nl (k+1) L:=⟨H.len,H.each,fun x hx=>by
 rcases H.names x hx with h | ⟨i,h1,h2⟩
 ·exact .inl h
 ·exact .inr ⟨i,by omega,h2⟩,H.once,by have:=H.room; omega⟩
theorem Tk.snoc {k:Nat} {l:List Gu} (H:Tk k l):Tk (k+1) (l++ [(nm 97 k,nm 97 k,{data:= #[] },false)]):=by
 refine ⟨by simp [H.1],fun j hj=> ?_⟩
 rcases Nat.lt_or_ge j k with g | g
 ·rw [List.getElem?_append_left (by rw [H.1]; exact g)]; exact H.2 j g
 ·have:j=k:=by omega
  subst this
  rw [List.getElem?_append_right (by rw [H.1]; omega),H.1]
  simp
structure Sg (nt nv nl:Nat) (g:DJ):Prop where
 nt1:1≤nt
 nt5:nt≤5
 nv1:1≤nv
 nv4:nv≤4
 nl5:nl≤5
 toks:Tk nt g.1
 skips:g.2.1= []
 levs:Lv nl nt g.2.2.1
 start:g.2.2.2.1=nm 83 0
 rules: ∀r ∈ g.2.2.2.2,Ru1 nt nv nl r
 all: ∀v,v<nv→ ∃r ∈ g.2.2.2.2,r.1=nm 83 v
 room:g.2.2.2.2.length≤16
structure SmG (s:Gv):Prop where
 t0:0≤s.1∧s.1<256
 v0:0≤s.2.1∧s.2.1<256
 lefts:s.2.2.1.length≤9223372036854775807∧ ∀x ∈ s.2.2.1,0≤x∧x<256
 rights:s.2.2.2.1.length≤9223372036854775807∧ ∀l ∈ s.2.2.2.1,l.length≤9223372036854775807∧ ∀x ∈ l,0≤x∧x<256
 precs:s.2.2.2.2.1.length≤9223372036854775807∧ ∀x ∈ s.2.2.2.2.1,0≤x∧x<256
 assocs:s.2.2.2.2.2.1.length≤9223372036854775807∧ ∀x ∈ s.2.2.2.2.2.1,0≤x∧x<256
 levels:s.2.2.2.2.2.2.length≤9223372036854775807∧ ∀x ∈ s.2.2.2.2.2.2,0≤x∧x<256
structure SmF (n m:Nat) (s:Gv):Prop where
 lefts:s.2.2.1.length≤n
 assocs:s.2.2.2.2.2.1.length≤5
 rights: ∀l ∈ s.2.2.2.1,l.length≤m
theorem IP {s:Gv} (G:SmG s) (n m:Nat):Ok (An s (n:Int) (m:Int)) fun b=>b=true→SmF n m s:=by
 unfold An
 refine AM (Q:=fun c=>c=false→s.2.2.1.length≤n∧s.2.2.2.2.2.1.length≤5) (Ah (fun h=>AD (by simp)) fun h=>AD fun h'=> ?_) fun c hc=> ?_
 ·have h:=of_decide_eq_false h; have h':=of_decide_eq_false h'; omega
 refine Ah (fun _=>AD (by simp)) fun h=> ?_
 obtain ⟨h1,h2⟩:=hc h
 refine Ep s.2.2.2.1 (fun _ l=>decide (((l.length:Nat):Int) >(m:Int))) (fun _ _=>false) (by have:=G.rights.1; omega) (fun j x hx=> ?_) (fun h=>AD fun _=>⟨h1,h2,fun l hl=> ?_⟩) fun j x hx hq _=>AD (by simp)
 ·rw [Di,hx,Option.bind_some]
  cases decide (((x.length:Nat):Int) >(m:Int)) <;>rfl
 ·obtain ⟨j,hj⟩:=List.getElem?_of_mem hl
  have:=of_decide_eq_false (h j l hj)
  omega
set_option maxHeartbeats 4000000 in
theorem KW {s:Gv} (G:SmG s) (F:SmF 12 5 s):Ok (A6 s) (Sg (s.1.toNat % 5+1) (s.2.1.toNat % 4+1) s.2.2.2.2.2.1.length):=by
 obtain ⟨tk,vr,lefts,rights,precs,assocs,levels⟩:=s
 obtain ⟨g1,g2,g3,g4,g5,g6,g7⟩:=G
 obtain ⟨f1,f2,f3⟩:=F
 dsimp only at *
 unfold A6
 dsimp only
 have et:IntKind.wrap .i64 ((IntKind.wrap .i64 (Int.tmod tk (5:Int))) +(1:Int))=((tk.toNat % 5+1:Nat):Int):=by
  rw [tm g1.1,wr (show -1000000≤tk % 5∧tk % 5≤1000000 by omega),wr (by omega)]; omega
 have ev:IntKind.wrap .i64 ((IntKind.wrap .i64 (Int.tmod vr (4:Int))) +(1:Int))=((vr.toNat % 4+1:Nat):Int):=by
  rw [tm g2.1,wr (show -1000000≤vr % 4∧vr % 4≤1000000 by omega),wr (by omega)]; omega
 rw [et,ev]
 generalize hnt:tk.toNat % 5+1=nt
 generalize hnv:vr.toNat % 4+1=nv
 have s5:(ByteArray.size {data:= #[112,113,114,115,116] } :Nat)=5:=rfl
 have s5':(ByteArray.size {data:= #[97,98,99,100,101] } :Nat)=5:=rfl
 have s4:(ByteArray.size {data:= #[83,84,85,86] } :Nat)=4:=rfl
 rw [s5,s5',s4]
 refine Bw (by decide) (Bw (by decide) ?_)
 refine DU (fun k (z:DJ)=>z.1= [] ∧z.2.1= [] ∧Lv k 0 z.2.2.1∧z.2.2.2.1=nm 83 0∧z.2.2.2.2= []) (by omega) ⟨rfl,rfl,⟨rfl,fun j x h=>by simp at h,fun x h=>by simp [Dg] at h,by simp [Dg],by simp [Dg]⟩,rfl,rfl⟩ (fun k z hk h=> ?_) fun z hz=> ?_
 ·obtain ⟨z1,z2,z3,z4,z5⟩:=z
  obtain ⟨rfl,rfl,h,rfl,rfl⟩:=h
  have hx:=List.getElem?_eq_getElem hk
  have hb:=g6.2 _ (List.getElem_mem hk)
  refine AX hx (Bw (by decide) (Bw ?_ ?_))
  ·rw [wr (by omega)]; omega
  have hl:=h.len
  dsimp only at hl ⊢
  refine Bg (by simp; omega) (AD ⟨rfl,rfl,?_,rfl,rfl⟩)
  rw [tm hb.1,wr (show -1000000≤assocs[k] % 3∧assocs[k] % 3≤1000000 by omega),wr (show -1000000≤assocs[k] % 3+1∧assocs[k] % 3+1≤1000000 by omega),wr (show -1000000≤(k:Int) +1∧(k:Int) +1≤1000000 by omega),L8 (by omega) (by omega)]
  exact h.snoc (by omega) (by omega)
 obtain ⟨z1,z2,z3,z4,z5⟩:=z
 obtain ⟨rfl,rfl,hz,rfl,rfl⟩:=hz
 dsimp only at hz
 refine DU (fun k (z:DJ)=>Tk k z.1∧z.2.1= [] ∧Lv assocs.length k z.2.2.1∧z.2.2.2.1=nm 83 0∧z.2.2.2.2= []) (by omega) ⟨⟨rfl,fun j h=>by omega⟩,rfl,hz,rfl,rfl⟩ (fun k z hk h=> ?_) fun z hz=> ?_
 ·obtain ⟨z1,z2,z3,z4,z5⟩:=z
  obtain ⟨ht,rfl,hL,rfl,rfl⟩:=h
  dsimp only at ht hL ⊢
  have hl:=hL.len
  have htl:=ht.1
  refine Bw (by rw [wr (by omega)]; omega) ?_
  rw [wr (show -1000000≤(k:Int) +1∧(k:Int) +1≤1000000 by omega),L9 (by omega) (by omega),Int.toNat_natCast]
  refine Bg (by simp; omega) ?_
  refine AM (Q:=fun (z:DJ)=>Tk (k+1) z.1∧z.2.1= [] ∧Lv assocs.length (k+1) z.2.2.1∧z.2.2.2.1=nm 83 0∧z.2.2.2.2= []) (Ah (fun hc=> ?_) fun _=>AD ⟨ht.snoc,rfl,hL.up,rfl,rfl⟩) fun _ h=>AD h
  have hc:=of_decide_eq_true hc
  have hx:=List.getElem?_eq_getElem (show k<levels.length by omega)
  have hb:=g7.2 _ (List.getElem_mem (show k<levels.length by omega))
  refine AX hx (Bw (by rw [wr (by omega)]; omega) ?_)
  have hm:0≤levels[k] % ((z3.length:Int) +1)∧levels[k] % ((z3.length:Int) +1) < (z3.length:Int) +1:=⟨Int.emod_nonneg _ (by omega),Int.emod_lt_of_pos _ (by omega)⟩
  rw [wr (show -1000000≤levels[k] ∧levels[k] ≤1000000 by omega),wr (show -1000000≤(z3.length:Int) +1∧(z3.length:Int) +1≤1000000 by omega),tm hb.1]
  generalize levels[k] % ((z3.length:Int) +1)=q at hm
  refine AM (Q:=fun (z:DJ)=>Tk (k+1) z.1∧z.2.1= [] ∧Lv assocs.length (k+1) z.2.2.1∧z.2.2.2.1=nm 83 0∧z.2.2.2.2= []) (Ah (fun hq=> ?_) fun _=>AD ⟨ht.snoc,rfl,hL.up,rfl,rfl⟩) fun _ h=>AD h
  have hq:=of_decide_eq_true hq
  rw [wr (show -1000000≤q - 1∧q - 1≤1000000 by omega)]
  have hq':(q - 1).toNat<z3.length:=by omega
  have hy:=List.getElem?_eq_getElem hq'
  have hroom:z3[(q - 1).toNat].2.length≤(Dg z3).length:=(List.sublist_flatten_of_mem (List.mem_map_of_mem (List.getElem_mem hq'))).length_le
  have hr:=hL.room
  refine CY (by omega) hy (Bg (by simp only [List.length_nil]; omega) (Bg (by simp only [List.length_nil,List.length_append,List.length_cons]; omega) (CY (by omega) hy (HM (by omega) (by omega) (AD ⟨ht.snoc,rfl,?_,rfl,rfl⟩)))))
  exact hL.put (by omega) (by omega) hy
 obtain ⟨z1,z2,z3,z4,z5⟩:=z
 obtain ⟨hT,rfl,hL,rfl,rfl⟩:=hz
 dsimp only at hT hL
 have hl:=hL.len
 refine DU (fun k (z:DJ)=>z.1=z1∧z.2.1= [] ∧z.2.2.1=z3∧z.2.2.2.1=nm 83 0∧z.2.2.2.2.length=k∧ ∀r ∈ z.2.2.2.2,Ru1 nt nv assocs.length r) (by omega) ⟨rfl,rfl,rfl,rfl,rfl,by simp⟩ (fun k z hk h=> ?_) fun z hz=> ?_
 ·obtain ⟨y1,y2,y3,y4,y5⟩:=z
  obtain ⟨rfl,rfl,rfl,rfl,hlen,hr⟩:=h
  dsimp only at hlen hr hl ⊢
  have hx:=List.getElem?_eq_getElem hk
  have hb:=g3.2 _ (List.getElem_mem hk)
  have hm:0≤lefts[k] % (nv:Int)∧lefts[k] % (nv:Int) < (nv:Int):=⟨Int.emod_nonneg _ (by omega),Int.emod_lt_of_pos _ (by omega)⟩
  refine AX hx (Bw (by omega) (AX hx (Bw (by omega) ?_)))
  rw [wr (show -1000000≤lefts[k] ∧lefts[k] ≤1000000 by omega),tm hb.1]
  generalize lefts[k] % (nv:Int)=q at hm
  rw [wr (show -1000000≤q+1∧q+1≤1000000 by omega)]
  refine Bw (by omega) ?_
  rw [KV (by omega) (by omega)]
  refine AM (Q:=fun (x:Dn)=>x.2.2.1= {data:= #[] } ∧Ru1 nt nv assocs.length x) (Ah (fun hc=> ?_) fun _=>AD ⟨rfl,⟨q.toNat,by omega,rfl⟩,by simp,by simp, .inl rfl,rfl⟩) fun x hx'=> ?_
  ·have hc:=of_decide_eq_true hc
   have hR:=List.getElem?_eq_getElem (show k<rights.length by omega)
   have hRm:=List.getElem_mem (show k<rights.length by omega)
   have hR5:=f3 _ hRm
   have hRb:=(g4.2 _ hRm).2
   generalize rights[k] =R at hR hR5 hRb
   refine Eo (fun (z:Int×Dn)=>0≤z.1∧z.1≤(R.length:Int)∧(z.2.2.1.length:Int)=z.1∧z.2.2.2.1= {data:= #[] } ∧Ru1 nt nv assocs.length z.2) (fun z=>(R.length:Nat) - z.1.toNat) (fun x=>x.2.2.1= {data:= #[] } ∧Ru1 nt nv assocs.length x) ⟨Int.le_refl _,by dsimp only; omega,rfl,rfl,⟨q.toNat,by omega,rfl⟩,by simp,by simp, .inl rfl,rfl⟩ (fun z hz=> ?_) fun x hx=>AD hx
   obtain ⟨i,z⟩:=z
   obtain ⟨h0,h1,h2,h3,h4⟩:=hz
   dsimp only at h0 h1 h2 h3 h4 ⊢
   refine AX hR (Ah (fun hc=> ?_) fun hc=>C5 ⟨h3,h4⟩)
   have hc:=of_decide_eq_true hc
   have hi:i.toNat<R.length:=by omega
   have hy:=List.getElem?_eq_getElem hi
   have hyb:=hRb _ (List.getElem_mem hi)
   refine AX hR (CY h0 hy ?_)
   generalize R[i.toNat] =e at hyb
   rw [wr (show -1000000≤e∧e≤1000000 by omega),wr (show -1000000≤(nt:Int) +(nv:Int)∧(nt:Int) +(nv:Int) ≤1000000 by omega),tm hyb.1]
   have hm2:0≤e % ((nt:Int) +(nv:Int))∧e % ((nt:Int) +(nv:Int)) < (nt:Int) +(nv:Int):=⟨Int.emod_nonneg _ (by omega),Int.emod_lt_of_pos _ (by omega)⟩
   generalize e % ((nt:Int) +(nv:Int))=w at hm2
   rw [tm hm2.1,wr (show -1000000≤w % 5+1∧w % 5+1≤1000000 by omega)]
   refine Bw (by omega) (Bw (by decide) (Bw (by decide) (Bw (by omega) ?_)))
   refine AM (Q:=fun x=>(∃i,i<nt∧x=nm 97 i)∨ ∃i,i<nv∧x=nm 83 i) (Ah (fun hw=> ?_) fun hw=>AD ?_) fun x hx=> ?_
   ·have hw:=of_decide_eq_true hw
    rw [wr (show -1000000≤w - (nt:Int)∧w - (nt:Int) ≤1000000 by omega),wr (show -1000000≤w - (nt:Int) +1∧w - (nt:Int) +1≤1000000 by omega)]
    refine Bw (by omega) (AD ?_)
    rw [KV (by omega) (by omega)]
    exact .inr ⟨_,by omega,rfl⟩
   ·have hw:=of_decide_eq_false hw
    rw [L9 (by omega) (by omega)]
    exact .inl ⟨_,by omega,rfl⟩
   ·refine Bg (by simp; omega) (DV ⟨⟨?_,?_,?_,h3,⟨h4.left,?_,?_,h4.prec,h4.act⟩⟩,?_⟩)
    ·rw [wr (by omega)]; omega
    ·rw [wr (by omega)]; omega
    ·rw [wr (by omega),List.length_append]; simp; omega
    ·rw [List.length_append]; simp; omega
    ·intro x' hx'
     rcases List.mem_append.1 hx' with h | h
     ·exact h4.right _ h
     ·have:x'=x:=by simpa using h
      subst this; exact hx
    ·rw [wr (by omega)]; omega
  ·obtain ⟨hp,hr1⟩:=hx'
   obtain ⟨x1,x2,x3,x4⟩:=x
   dsimp only at hp ⊢
   subst hp
   refine AM (Q:=Ru1 nt nv assocs.length) (Ah (fun hc=> ?_) fun _=>AD hr1) fun x hx=> ?_
   ·have hc:=of_decide_eq_true hc
    have hP:=List.getElem?_eq_getElem (show k<precs.length by omega)
    have hPb:=g5.2 _ (List.getElem_mem (show k<precs.length by omega))
    refine AX hP ?_
    generalize precs[k] =e at hPb
    rw [wr (show -1000000≤e∧e≤1000000 by omega),wr (show -1000000≤(y3.length:Int) +1∧(y3.length:Int) +1≤1000000 by omega),tm hPb.1]
    have hm2:0≤e % ((y3.length:Int) +1)∧e % ((y3.length:Int) +1) < (y3.length:Int) +1:=⟨Int.emod_nonneg _ (by omega),Int.emod_lt_of_pos _ (by omega)⟩
    generalize e % ((y3.length:Int) +1)=w at hm2
    refine Bw (by omega) ?_
    refine AM (Q:=Ru1 nt nv assocs.length) (Ah (fun hw=> ?_) fun _=>AD hr1) fun x hx=>AD hx
    have hw:=of_decide_eq_true hw
    rw [wr (show -1000000≤w - 1∧w - 1≤1000000 by omega)]
    refine Bw (by omega) (AD ⟨hr1.left,hr1.few,hr1.right, .inr ⟨(w - 1).toNat,by omega,?_⟩,hr1.act⟩)
    have:=L8 (i:=w - 1) (by omega) (by omega)
    rw [show w - 1+1=w by omega] at this
    exact this
   ·refine Bg (by simp; omega) (AD ⟨rfl,rfl,rfl,rfl,by simp [hlen],fun r hr'=> ?_⟩)
    rcases List.mem_append.1 hr' with h | h
    ·exact hr _ h
    ·have:r=x:=by simpa using h
     subst this; exact hx
 obtain ⟨y1,y2,y3,y4,y5⟩:=z
 obtain ⟨rfl,rfl,rfl,rfl,hlen,hr⟩:=hz
 dsimp only at hlen hr
 refine DU (fun k (z:DJ)=>z.1=y1∧z.2.1= [] ∧z.2.2.1=y3∧z.2.2.2.1=nm 83 0∧z.2.2.2.2.length≤lefts.length+k∧(∀r ∈ z.2.2.2.2,Ru1 nt nv assocs.length r)∧ ∀v,v<k→ ∃r ∈ z.2.2.2.2,r.1=nm 83 v) (by omega) ⟨rfl,rfl,rfl,rfl,by dsimp only; omega,hr,fun v hv=>by omega⟩ (fun k z hk h=> ?_) fun z hz=> ?_
 ·obtain ⟨x1,x2,x3,x4,x5⟩:=z
  obtain ⟨rfl,rfl,rfl,rfl,h1,h2,h3⟩:=h
  dsimp only at h1 h2 h3 ⊢
  refine Bw (by rw [wr (by omega)]; omega) ?_
  rw [wr (show -1000000≤(k:Int) +1∧(k:Int) +1≤1000000 by omega),KV (by omega) (by omega),Int.toNat_natCast]
  refine Eo (fun (z:Int×Bool)=>0≤z.1∧z.1≤(x5.length:Int)∧(z.2=true→ ∃r ∈ x5,r.1=nm 83 k)) (fun z=>x5.length - z.1.toNat) (fun b=>b=true→ ∃r ∈ x5,r.1=nm 83 k) ⟨by decide,by dsimp only; omega,by simp⟩ (fun z hz=> ?_) fun b hb=> ?_
  ·obtain ⟨i,b⟩:=z
   obtain ⟨j1,j2,j3⟩:=hz
   dsimp only at j1 j2 j3 ⊢
   refine Ah (fun hc=> ?_) fun hc=>C5 j3
   have hc:=of_decide_eq_true hc
   have hi:i.toNat<x5.length:=by omega
   have hy:=List.getElem?_eq_getElem hi
   refine AM (Q:=fun b=>b=true→ ∃r ∈ x5,r.1=nm 83 k) (Ah (fun hb=>AD fun _=>j3 hb) fun _=>CY j1 hy (AD fun he=> ?_)) fun b' hb'=> ?_
   ·rw [Cp] at he
    exact ⟨_,List.getElem_mem hi,of_decide_eq_true he⟩
   ·refine DV ⟨⟨?_,?_,hb'⟩,?_⟩
    ·rw [wr (by omega)]; omega
    ·rw [wr (by omega)]; omega
    ·rw [wr (by omega)]; omega
  ·refine AM (Q:=fun (z:DJ)=>z.1=x1∧z.2.1= [] ∧z.2.2.1=x3∧z.2.2.2.1=nm 83 0∧z.2.2.2.2.length≤lefts.length+(k+1)∧(∀r ∈ z.2.2.2.2,Ru1 nt nv assocs.length r)∧ ∀v,v<k+1→ ∃r ∈ z.2.2.2.2,r.1=nm 83 v) (Ah (fun hc=> ?_) fun hc=>AD ⟨rfl,rfl,rfl,rfl,by dsimp only; omega,h2,fun v hv=> ?_⟩) fun z hz=>AD hz
   ·refine Bg (by simp; omega) (AD ⟨rfl,rfl,rfl,rfl,by dsimp only; rw [List.length_append]; simp; omega,fun r hr'=> ?_,fun v hv=> ?_⟩)
    ·rcases List.mem_append.1 hr' with h | h
     ·exact h2 _ h
     ·obtain rfl:=List.mem_singleton.1 h
      exact ⟨⟨k,hk,rfl⟩,by simp,by simp, .inl rfl,rfl⟩
    ·rcases Nat.lt_succ_iff_lt_or_eq.1 hv with h | rfl
     ·obtain ⟨r,a,b⟩:=h3 v h
      exact ⟨r,List.mem_append_left _ a,b⟩
     ·exact ⟨_,List.mem_append_right _ (List.mem_singleton.2 rfl),rfl⟩
   ·rcases Nat.lt_succ_iff_lt_or_eq.1 hv with h | rfl
    ·exact h3 v h
    ·exact hb (by simpa using hc)
 obtain ⟨x1,x2,x3,x4,x5⟩:=z
 obtain ⟨rfl,rfl,rfl,rfl,h1,h2,h3⟩:=hz
 dsimp only at h1 h2 h3
 exact AD ⟨by omega,by omega,by omega,by omega,by omega,hT,rfl,hL,rfl,h2,h3,by dsimp only; omega⟩
theorem Sg.nm_lev {nt nv nl:Nat} {g:DJ} (H:Sg nt nv nl g): ∀x ∈ Dg g.2.2.1,Nm x:=fun x hx=>by
 have:=H.nl5; have:=H.nt5
 rcases H.levs.names x hx with ⟨i,h,rfl⟩ | ⟨i,h,rfl⟩
 ·exact .lev (by omega)
 ·exact .tok (by omega)
theorem Ru1.nm {nt nv nl:Nat} {r:Dn} (H:Ru1 nt nv nl r) (h1:nt≤5) (h2:nv≤4) (h3:nl≤5):Nm r.1∧(∀x ∈ r.2.1,Nm x)∧(r.2.2.1= {data:= #[] } ∨Nm r.2.2.1):=by
 refine ⟨?_,fun x hx=> ?_,?_⟩
 ·obtain ⟨i,h,e⟩:=H.left; rw [e]; exact .var (by omega)
 ·rcases H.right x hx with ⟨i,h,rfl⟩ | ⟨i,h,rfl⟩
  ·exact .tok (by omega)
  ·exact .var (by omega)
 ·rcases H.prec with h | ⟨i,h,e⟩
  ·exact .inl h
  ·rw [e]; exact .inr (.lev (by omega))
set_option maxHeartbeats 2000000 in
theorem MB {nt nv nl:Nat} {g:DJ} (H:Sg nt nv nl g):Bt g=some true:=by
 refine Ok.eq ?_
 have hlr:=H.room
 have hll:=H.levs.len
 have htl:=H.toks.1
 have hnt:=H.nt5; have hnv:=H.nv4; have hnl:=H.nl5
 obtain ⟨r0,hr0,_⟩:=H.all 0 (by have:=H.nv1; omega)
 have hpos:=List.length_pos_of_mem hr0
 unfold Bt
 have hsk:=H.skips
 have hst:=H.start
 refine AM (Q:=fun x=>x=false) ?_ fun x hx=> ?_
 ·refine AT (decide_eq_false (by omega)) (AT (by rw [hsk]; rfl) (AT (decide_eq_false (by omega)) (AT (decide_eq_false (by omega)) (AT (decide_eq_false (by omega)) ?_))))
  rw [hst]
  exact AI (Kp (by omega)) (AD rfl)
 subst hx
 refine AT rfl ?_
 refine B5 (fun k (l:List ByteArray)=>l.length=k∧ ∀j,j<k→l[j]? =some (nm 97 j)) (by omega) ⟨rfl,fun j h=>by omega⟩ (fun k l hk h=> ?_) fun toks hz=> ?_
 ·have hx:=H.toks.2 k (by omega)
  refine AX hx (Bg (by have:=h.1; simp only [List.length_cons,List.length_nil]; omega) (AX hx ?_))
  refine AI (JG (.tok (by omega))) (AT rfl (CA ⟨by simp [h.1],fun j hj=> ?_⟩))
  rcases Nat.lt_or_ge j k with g | g
  ·rw [List.getElem?_append_left (by rw [h.1]; exact g)]; exact h.2 j g
  ·have:j=k:=by omega
   subst this
   rw [List.getElem?_append_right (by rw [h.1]; omega),h.1]
   simp
 refine B5 (fun k _=>True) (by rw [hsk]; decide) trivial (fun k l hk h=>by rw [hsk] at hk; exact absurd hk (Nat.not_lt_zero _)) fun _ _=> ?_
 refine B5 (fun k (l:List ByteArray)=>l=Dg (g.2.2.1.take k)) (by omega) rfl (fun k l hk h=> ?_) fun levs hv=> ?_
 ·subst h
  have hx:=List.getElem?_eq_getElem hk
  obtain ⟨h1,h2,h3⟩:=H.levs.each k _ hx
  have e:Dg (g.2.2.1.take (k+1))=Dg (g.2.2.1.take k) ++g.2.2.1[k].2:=by
   unfold Dg
   rw [List.take_add_one,hx,List.flatMap_append]
   show _=_
   simp
  have hroom:=H.levs.room
  have e2:Dg g.2.2.1=Dg (g.2.2.1.take (k+1)) ++Dg (g.2.2.1.drop (k+1)):=by
   unfold Dg
   rw [← List.flatMap_append,List.take_append_drop]
  have e3:=congrArg List.length e2
  rw [e,List.length_append,List.length_append] at e3
  refine AX hx (Bg (by omega) ?_)
  refine AM (Q:=fun x=>x=false) (AT (decide_eq_false (by omega)) (AT (decide_eq_false (by omega)) (AD ?_))) fun x hx=> ?_
  ·have:=List.length_pos_of_mem h3
   exact beq_eq_false_iff_ne.2 (by omega)
  ·subst hx
   refine AT rfl ?_
   rw [← e]
   exact CA rfl
 refine B5 (fun k _=>True) (by omega) trivial (fun k _ hk _=> ?_) fun _ _=> ?_
 ·have hx:=List.getElem?_eq_getElem hk
  have hr:=H.rules _ (List.getElem_mem hk)
  obtain ⟨n1,n2,n3⟩:=hr.nm hnt hnv hnl
  have hf:=hr.few
  refine AX hx ?_
  refine AM (Q:=fun x=>x=false) (AI n1.name (AT rfl (AT (decide_eq_false (by omega)) (Ah (fun hc=> ?_) fun hc=> ?_)))) fun x hx=> ?_
  ·rw [hr.act]
   rcases n3 with h | h
   ·rw [h,Cp] at hc; simp at hc
   ·exact AI h.name (AT rfl (AI HN (AD rfl)))
  ·rw [hr.act]
   exact AI HN (AD rfl)
  ·subst hx
   refine AT rfl ?_
   refine B5 (fun k _=>True) (by omega) trivial (fun j _ hj _=> ?_) fun _ _=>CA trivial
   exact AX (List.getElem?_eq_getElem hj) (AI (n2 _ (List.getElem_mem hj)).name (AT rfl (CA trivial)))
 have hmem: ∀x ∈ toks,∃j,j<nt∧x=nm 97 j:=fun x hx=>by
  obtain ⟨j,hj⟩:=List.getElem?_of_mem hx
  have hjl:=(List.getElem?_eq_some_iff.1 hj).1
  have:=hz.2 j (by omega)
  rw [hj] at this
  exact ⟨j,by omega,Option.some.inj this⟩
 have h1:BB toks=some true:=Kq (by omega) (fun x hx=>by obtain ⟨j,hj,rfl⟩:=hmem x hx; exact .tok (by omega)) (List.nodup_iff_pairwise_ne.2 (List.pairwise_iff_getElem.2 fun i j hi hj hij e=>by
  have a:=hz.2 i (by omega)
  have b:=hz.2 j (by omega)
  rw [List.getElem?_eq_getElem hi] at a
  rw [List.getElem?_eq_getElem hj,← e,a] at b
  have:=Gz (by omega) (by omega) (Option.some.inj b)
  omega))
 have h2:BB levs=some true:=by
  rw [hv,List.take_of_length_le (Nat.le_refl _)]
  exact Kq (by have:=H.levs.room; omega) H.nm_lev H.levs.once
 exact AM (Q:=fun x=>x=true) (AI h1 (As rfl (AI h2 (AD rfl)))) fun x hx=>AD hx
abbrev MC:ByteArray:= {data:= #[36,101,110,100] }
structure TT (nt:Nat) (T:List ByteArray):Prop where
 len:T.length=nt+1
 zero:T[0]? =some MC
 tok: ∀j,j<nt→T[j+1]? =some (nm 97 j)
theorem MD (c i:Nat):MC ≠ nm c i:=fun h=>by unfold nm at h; simp at h
theorem TT.cases {nt:Nat} {T:List ByteArray} (H:TT nt T) {j:Nat} {s:ByteArray} (h:T[j]? =some s):(j=0∧s=MC)∨ ∃i,i<nt∧j=i+1∧s=nm 97 i:=by
 cases j with
 | zero=>rw [H.zero] at h; exact .inl ⟨rfl,(Option.some.inj h).symm⟩
 | succ i=>
  have:=(List.getElem?_eq_some_iff.1 h).1
  have hl:=H.len
  rw [H.tok i (by omega)] at h
  exact .inr ⟨i,by omega,rfl,(Option.some.inj h).symm⟩
structure VV (nv:Nat) (V:List ByteArray):Prop where
 names: ∀x ∈ V,∃i,i<nv∧x=nm 83 i
 once:V.Nodup
theorem Ms {nt i:Nat} {T V:List ByteArray} (H:TT nt T) (hn:nt≤5) (hi:i<nt):Ok (A5 (T,V) (nm 97 i)) fun k=>k=((i+1:Nat):Int):=by
 have hl:=H.len
 unfold A5
 refine AM (Eg (by dsimp only; omega)) fun k hk=> ?_
 rcases hk with ⟨rfl,h⟩ | ⟨j,rfl,h⟩
 ·exact absurd (List.mem_of_getElem? (H.tok i hi)) h
 ·refine As (decide_eq_true (by omega)) (AD ?_)
  rcases H.cases h with ⟨_,h⟩ | ⟨q,h1,h2,h3⟩
  ·exact absurd h.symm (MD _ _)
  ·have:=Gz (by omega) (by omega) h3
   omega
theorem JH {nt nv i:Nat} {T V:List ByteArray} (H:TT nt T) (hn:nt≤5) (hv:nv≤4) (hV:V.length≤100) (hi:i<nv) (hm:nm 83 i ∈ V):Ok (A5 (T,V) (nm 83 i)) fun k=> ∃j:Nat,k=((nt+1+j:Nat):Int)∧V[j]? =some (nm 83 i):=by
 have hl:=H.len
 unfold A5
 refine AM (Eg (by dsimp only; omega)) fun k hk=> ?_
 rcases hk with ⟨rfl,h⟩ | ⟨j,rfl,h⟩
 ·refine AT rfl (AM (Eg (by dsimp only; omega)) fun k hk=> ?_)
  rcases hk with ⟨rfl,h⟩ | ⟨j,rfl,h⟩
  ·exact absurd hm h
  ·refine As (decide_eq_true (by omega)) (AD ⟨j,?_,h⟩)
   have:=(List.getElem?_eq_some_iff.1 h).1
   dsimp only at this
   rw [hl,wr (by omega)]
   omega
 ·rcases H.cases h with ⟨_,h⟩ | ⟨q,h1,h2,h3⟩
  ·exact absurd h.symm (MD _ _)
  ·have:=Gz (by omega) (by omega) h3
   omega
theorem Jq {nt nv nl:Nat} {g:DJ} (H:Sg nt nv nl g) (s:ByteArray):Ok (BX g s) fun k=>0≤k∧k≤nl∧ ∀i,i<nl→s=nm 112 i→k ≠ 0:=by
 have hl:=H.levs.len
 have hnl:=H.nl5
 unfold BX
 have hr:=H.levs.room
 have hnt:=H.nt5
 have hlen: ∀(j:Nat) x,g.2.2.1[j]? =some x→x.2.length≤100:=fun j x hx=>by
  have:=(List.sublist_flatten_of_mem (List.mem_map_of_mem (f:=(·.2)) (List.mem_of_getElem? hx))).length_le
  have e:Dg g.2.2.1=(List.map (·.2) g.2.2.1).flatten:=by unfold Dg; rw [List.flatMap_def]
  rw [← e] at this
  omega
 refine Ep g.2.2.1 (fun _ x=> @decide (s ∈ x.2) (Classical.propDecidable _)) (fun k _=>IntKind.wrap .i64 ((k:Int) +1)) (by omega) (fun j x hx=> ?_) (fun h=> ?_) fun j x hx hq _=> ?_
 ·rw [Di,hx,Option.bind_some]
  obtain ⟨k,h1,h2⟩:=Eg (l:=x.2) (s:=s) (by have:=hlen j x hx; omega)
  rw [h1,Option.bind_some]
  rcases h2 with ⟨rfl,h⟩ | ⟨q,rfl,h⟩
  ·rw [@decide_eq_false _ (Classical.propDecidable _) h]; rfl
  ·rw [@decide_eq_true _ (Classical.propDecidable _) (List.mem_of_getElem? h),decide_eq_true (by omega)]; rfl
 ·refine AD ⟨by omega,by omega,fun i hi hs _=> ?_⟩
  have hx:=List.getElem?_eq_getElem (show i<g.2.2.1.length by omega)
  have:= @of_decide_eq_false _ (Classical.propDecidable _) (h i _ hx)
  rw [hs] at this
  exact this (H.levs.each i _ hx).2.2
 ·have:=(List.getElem?_eq_some_iff.1 hx).1
  have e:IntKind.wrap .i64 ((j:Int) +1)=(j:Int) +1:=wr (by omega)
  exact AD ⟨by rw [e]; omega,by rw [e]; omega,fun _ _ _=>by rw [e]; omega⟩
structure Pr (nt nV nl:Nat) (r:Bu):Prop where
 left:((nt+1:Nat):Int) ≤r.1∧r.1< ((nt+1+nV:Nat):Int)
 few:r.2.1.length≤5
 right: ∀x ∈ r.2.1,0<x∧x< ((nt+1+nV:Nat):Int)
 lev:0≤r.2.2∧r.2.2≤nl
structure Pl (nt nl:Nat) (p:Au):Prop where
 nt5:1≤nt∧nt≤5
 nl5:nl≤5
 terms:TT nt p.1
 vars:1≤p.2.1.length∧p.2.1.length≤16
 first: ∃st:Int,((nt+1:Nat):Int) ≤st∧st< ((nt+1+p.2.1.length:Nat):Int)∧p.2.2.1[0]? =some (((nt+1+p.2.1.length:Nat):Int), [st],0)
 rules: ∀(k:Nat) r,1≤k→p.2.2.1[k]? =some r→Pr nt p.2.1.length nl r
 room:1≤p.2.2.1.length∧p.2.2.1.length≤17
 all: ∀v:Nat,v<p.2.1.length→ ∃r ∈ p.2.2.1,r.1=((nt+1+v:Nat):Int)
 levels:p.2.2.2.1.length=nt+1∧ ∀x ∈ p.2.2.2.1,0≤x∧x≤nl
 assocs:p.2.2.2.2.1.length=nl+1
theorem ME {α:Type} {l:List α} (h:l.Nodup) {i j:Nat} (hi:i<l.length) (hj:j<l.length) (e:l[i] =l[j]):i=j:=by
 have H:=List.pairwise_iff_getElem.1 (List.nodup_iff_pairwise_ne.1 h)
 rcases Nat.lt_trichotomy i j with g | g | g
 ·exact absurd e (H i j hi hj g)
 ·exact g
 ·exact absurd e.symm (H j i hj hi g)
set_option maxHeartbeats 4000000 in
theorem Ns {nt nv nl:Nat} {g:DJ} (H:Sg nt nv nl g):Ok (CH g) fun p=>Pl nt nl (p.1,p.2.1,p.2.2.1,p.2.2.2.1,p.2.2.2.2.1,p.2.2.2.2.2.1):=by
 have hlr:=H.room
 have hll:=H.levs.len
 have htl:=H.toks.1
 have hnt:=H.nt5; have hnt1:=H.nt1; have hnv:=H.nv4; have hnl:=H.nl5; have hnv1:=H.nv1
 obtain ⟨r0,hr0,_⟩:=H.all 0 (by omega)
 have hpos:=List.length_pos_of_mem hr0
 unfold CH
 refine AI (MB H) (AT rfl ?_)
 refine DU (fun k (z:Au)=>z.1= [MC] ∧VV nv z.2.1∧z.2.1.length≤k∧(∀(j:Nat) r,j<k→g.2.2.2.2[j]? =some r→r.1 ∈ z.2.1)∧(∀x ∈ z.2.1,∃r ∈ g.2.2.2.2,r.1=x)∧z.2.2.1= [] ∧z.2.2.2.1= [0] ∧z.2.2.2.2.1= [0] ∧z.2.2.2.2.2.length=k+1) (by omega) ⟨rfl,⟨by simp,by simp⟩,by simp,fun j r h=>by omega,by simp,rfl,rfl,rfl,rfl⟩ (fun k z hk h=> ?_) fun z hz=> ?_
 ·obtain ⟨z1,z2,z3,z4,z5,z6⟩:=z
  obtain ⟨rfl,hV,hk2,hall,hfr,rfl,rfl,rfl,h6⟩:=h
  dsimp only at hV hk2 hall hfr h6 ⊢
  have hx:=List.getElem?_eq_getElem hk
  have hr:=H.rules _ (List.getElem_mem hk)
  refine AX hx (AM (Eg (by omega)) fun t ht=> ?_)
  refine AM (Q:=fun (z:Au)=>z.1= [MC] ∧VV nv z.2.1∧z.2.1.length≤k+1∧(∀(j:Nat) r,j<k+1→g.2.2.2.2[j]? =some r→r.1 ∈ z.2.1)∧(∀x ∈ z.2.1,∃r ∈ g.2.2.2.2,r.1=x)∧z.2.2.1= [] ∧z.2.2.2.1= [0] ∧z.2.2.2.2.1= [0] ∧z.2.2.2.2.2=z6) ?_ fun z hz=> ?_
  ·rcases ht with ⟨rfl,ht⟩ | ⟨j,rfl,ht⟩
   ·refine As rfl (AX hx (Bg (by simp only [List.length_cons,List.length_nil]; omega) (AD ⟨rfl,⟨fun x hx'=> ?_,?_⟩,by simp; omega,fun j r hj hr'=> ?_,fun x hx'=> ?_,rfl,rfl,rfl,rfl⟩)))
    ·rcases List.mem_append.1 hx' with h | h
     ·exact hV.names x h
     ·obtain rfl:=List.mem_singleton.1 h
      exact hr.left
    ·exact List.nodup_append.2 ⟨hV.once,by simp,fun x hx' y hy hxy=>ht (by
      have:y=g.2.2.2.2[k].1:=by simpa using hy
      rw [← this,← hxy]; exact hx')⟩
    ·rcases Nat.lt_succ_iff_lt_or_eq.1 hj with h | rfl
     ·exact List.mem_append_left _ (hall j r h hr')
     ·rw [hx] at hr'; cases hr'
      exact List.mem_append_right _ (List.mem_singleton.2 rfl)
    ·rcases List.mem_append.1 hx' with h | h
     ·exact hfr x h
     ·obtain rfl:=List.mem_singleton.1 h
      exact ⟨_,List.getElem_mem hk,rfl⟩
   ·refine AT (decide_eq_false (by omega)) (AD ⟨rfl,hV,by dsimp only; omega,fun i r hi hr'=> ?_,hfr,rfl,rfl,rfl,rfl⟩)
    rcases Nat.lt_succ_iff_lt_or_eq.1 hi with h | rfl
    ·exact hall i r h hr'
    ·rw [hx] at hr'; cases hr'
     exact List.mem_of_getElem? ht
  ·obtain ⟨y1,y2,y3,y4,y5,y6⟩:=z
   obtain ⟨rfl,hV,hk2,hall,hfr,rfl,rfl,rfl,e6⟩:=hz
   have e6':y6=z6:=e6
   have hy6:y6.length=k+1:=by rw [e6']; exact h6
   exact AX hx (Bg (by simp only [List.length_cons,List.length_nil]; omega) (AD ⟨rfl,hV,hk2,hall,hfr,rfl,rfl,rfl,by simp [hy6]⟩))
 obtain ⟨z1,V,z3,z4,z5,acts⟩:=z
 obtain ⟨rfl,hV,hk2,hall,hfr,rfl,rfl,rfl,h6⟩:=hz
 dsimp only at hV hk2 hall hfr h6
 have hV16:V.length≤16:=by omega
 clear hk2
 have hVm: ∀v,v<nv→nm 83 v ∈ V:=fun v hv=>by
  obtain ⟨r,h1,h2⟩:=H.all v hv
  obtain ⟨j,hj⟩:=List.getElem?_of_mem h1
  rw [← h2]
  exact hall j r (List.getElem?_eq_some_iff.1 hj).1 hj
 have hVpos:1≤V.length:=List.length_pos_of_mem (hVm 0 (by omega))
 refine B5 (fun k (z:Au×Au)=>TT k z.2.1∧z.2.2.1=V∧z.2.2.2.1= [] ∧z.2.2.2.2.1.length=k+1∧(∀x ∈ z.2.2.2.2.1,0≤x∧x≤nl)∧z.2.2.2.2.2.1= [0]) (by omega) ⟨⟨rfl,rfl,fun j h=>by omega⟩,rfl,rfl,rfl,by simp,rfl⟩ (fun k z hk h=> ?_) fun z hz=> ?_
 ·obtain ⟨w,z1,z2,z3,z4,z5,z6⟩:=z
  obtain ⟨hT,e2,e3,h4,h4',e5⟩:=h
  dsimp only at hT h4 h4' e2 e3 e5 ⊢
  have hz16:z2.length≤16:=by rw [e2]; exact hV16
  subst e2 e3 e5
  have hx:=H.toks.2 k (by omega)
  have hTl:=hT.len
  refine AX hx (AM (Eg (by omega)) fun t ht=> ?_)
  rcases ht with ⟨rfl,ht⟩ | ⟨j,rfl,ht⟩
  ·refine AT rfl (AX hx (Bg (by simp only [List.length_cons,List.length_nil]; omega) (AX hx (AM (Jq H _) fun t ht=>Bg (by simp only [List.length_cons,List.length_nil]; omega) (CA ⟨⟨by simp [hTl],?_,fun j hj=> ?_⟩,rfl,rfl,by simp [h4],fun x hx'=> ?_,rfl⟩)))))
   ·rw [List.getElem?_append_left (by omega)]; exact hT.zero
   ·rcases Nat.lt_succ_iff_lt_or_eq.1 hj with h | rfl
    ·rw [List.getElem?_append_left (by omega)]; exact hT.tok j h
    ·rw [List.getElem?_append_right (by omega),show j+1 - z1.length=0 by omega]; rfl
   ·rcases List.mem_append.1 hx' with h | h
    ·exact h4' x h
    ·obtain rfl:=List.mem_singleton.1 h
     exact ⟨ht.1,ht.2.1⟩
  ·obtain ⟨i,h1,h2⟩:=hV.names _ (List.mem_of_getElem? ht)
   have:=Gz (by omega) (by omega) h2
   omega
 obtain ⟨w,T,z2,z3,levels,z5,z6⟩:=z
 obtain ⟨hT,e2,e3,h4,h4',e5⟩:=hz
 dsimp only at hT h4 h4' e2 e3 e5 ⊢
 subst e2 e3 e5
 rw [htl] at hT h4
 have hTl:=hT.len
 refine DU (fun k (z:Au)=>z.1=T∧z.2.1=z2∧z.2.2.1= [] ∧z.2.2.2.1=levels∧z.2.2.2.2.1.length=k+1) (by omega) ⟨rfl,rfl,rfl,rfl,rfl⟩ (fun k z hk h=> ?_) fun z hz=> ?_
 ·obtain ⟨y1,y2,y3,y4,y5,y6⟩:=z
  obtain ⟨rfl,rfl,rfl,rfl,h5⟩:=h
  exact AX (List.getElem?_eq_getElem hk) (Bg (by dsimp only at h5 ⊢; simp only [List.length_cons,List.length_nil]; omega) (AD ⟨rfl,rfl,rfl,rfl,by dsimp only at h5 ⊢; simp [h5]⟩))
 obtain ⟨y1,y2,y3,y4,assocs,y6⟩:=z
 obtain ⟨e1,e2,e3,e4,h5⟩:=hz
 dsimp only at h5 e1 e2 e3 e4 ⊢
 subst e1 e2 e3 e4
 rw [hll] at h5
 rw [H.start]
 refine AM (JH (nv:=nv) hT hnt hnv (by omega) (by omega) (hVm 0 (by omega))) fun st hst=> ?_
 obtain ⟨sj,rfl,hsj⟩:=hst
 have hsjl:=(List.getElem?_eq_some_iff.1 hsj).1
 rw [wr (show -1000000≤((y1.length:Nat):Int) +((y2.length:Nat):Int)∧((y1.length:Nat):Int) +((y2.length:Nat):Int) ≤1000000 by omega)]
 refine B5 (fun k (z:Au×Au)=>z.2.1=y1∧z.2.2.1=y2∧z.2.2.2.1.length=k+1∧z.2.2.2.1[0]? =some (((nt+1+y2.length:Nat):Int), [((nt+1+sj:Nat):Int)],0)∧(∀(j:Nat) r,1≤j→z.2.2.2.1[j]? =some r→Pr nt y2.length nl r∧ ∃r' ∈ g.2.2.2.2,g.2.2.2.2[j - 1]? =some r'∧y2[r.1.toNat - (nt+1)]? =some r'.1)∧z.2.2.2.2.1=y4∧z.2.2.2.2.2.1=assocs) (by omega) ⟨rfl,rfl,rfl,by dsimp only; rw [hTl]; simp [Int.natCast_add],fun j r hj hr=>by
  have:=(List.getElem?_eq_some_iff.1 hr).1
  simp at this
  omega,rfl,rfl⟩ (fun k z hk h=> ?_) fun z hz=> ?_
 ·obtain ⟨w,x1,x2,x3,x4,x5,x6⟩:=z
  obtain ⟨e1,e2,hlen,h0,hrs,e4,e5⟩:=h
  dsimp only at hlen h0 hrs e1 e2 e4 e5 ⊢
  subst e1 e2 e4 e5
  have hx:=List.getElem?_eq_getElem hk
  have hr:=H.rules _ (List.getElem_mem hk)
  obtain ⟨vi,hvi,hvl⟩:=hr.left
  refine AX hx ?_
  rw [hvl]
  refine AM (JH (nv:=nv) hT hnt hnv (by omega) hvi (hVm vi hvi)) fun t ht=> ?_
  obtain ⟨tj,rfl,htj⟩:=ht
  have htjl:=(List.getElem?_eq_some_iff.1 htj).1
  have hrf:=hr.few
  refine B5 (fun i (z:Au×Bu)=>z.2.1=((nt+1+tj:Nat):Int)∧z.2.2.1.length=i∧(∀x ∈ z.2.2.1,0<x∧x< ((nt+1+x2.length:Nat):Int))∧0≤z.2.2.2∧z.2.2.2≤nl) (by omega) ⟨rfl,rfl,by simp,by simp,by simp⟩ (fun i z hi h=> ?_) fun z hz=> ?_
  ·obtain ⟨w,u1,u2,u3⟩:=z
   obtain ⟨rfl,hu,hus,hu3,hu3'⟩:=h
   dsimp only at hu hus hu3 hu3' ⊢
   have hy:=List.getElem?_eq_getElem hi
   have hym:=hr.right _ (List.getElem_mem hi)
   refine AX hy (AM (Q:=fun t=>0<t∧t< ((nt+1+x2.length:Nat):Int)) ?_ fun t ht=> ?_)
   ·rcases hym with ⟨q,hq,e⟩ | ⟨q,hq,e⟩
    ·rw [e]
     exact (Ms hT hnt hq).mono fun k hk=>by subst hk; omega
    ·rw [e]
     refine (JH (nv:=nv) hT hnt hnv (by omega) hq (hVm q hq)).mono fun k hk=> ?_
     obtain ⟨j,rfl,hj⟩:=hk
     have:=(List.getElem?_eq_some_iff.1 hj).1
     omega
   ·refine AT (decide_eq_false (by omega)) (Bg (by simp only [List.length_cons,List.length_nil]; omega) ?_)
    refine AM (Q:=fun (z:Bu)=>z.1=((nt+1+tj:Nat):Int)∧z.2.1=u2++ [t] ∧0≤z.2.2∧z.2.2≤nl) (Ah (fun hc=> ?_) fun _=>AD ⟨rfl,rfl,hu3,hu3'⟩) fun z hz=> ?_
    ·have hc:=of_decide_eq_true hc
     have hq:t.toNat<x4.length:=by omega
     refine CY (by omega) (List.getElem?_eq_getElem hq) (AD ⟨rfl,rfl,h4' _ (List.getElem_mem hq)⟩)
    ·obtain ⟨z1,z2,z3⟩:=z
     obtain ⟨rfl,rfl,a,b⟩:=hz
     refine CA ⟨rfl,by simp [hu],fun x hx'=> ?_,a,b⟩
     rcases List.mem_append.1 hx' with h | h
     ·exact hus x h
     ·obtain rfl:=List.mem_singleton.1 h
      exact ht
  ·obtain ⟨w2,u1,u2,u3⟩:=z
   obtain ⟨rfl,hu,hus,hu3,hu3'⟩:=hz
   dsimp only at hu hus hu3 hu3' ⊢
   refine AM (Q:=fun e=> ∃(y:Bu×Au),e=AR.next y∧y.1.1=((nt+1+tj:Nat):Int)∧y.1.2.1=u2∧0≤y.1.2.2∧y.1.2.2≤nl) (Ah (fun hc=> ?_) fun hc=>AD ⟨_,rfl,rfl,rfl,hu3,hu3'⟩) fun e he=> ?_
   ·refine AM (Jq H _) fun t ht=> ?_
    rcases hr.prec with h | ⟨i,hi,h⟩
    ·rw [h,Cp] at hc; simp at hc
    ·refine AT (beq_eq_false_iff_ne.2 (ht.2.2 i hi h)) (AD ⟨_,rfl,rfl,rfl,ht.1,ht.2.1⟩)
   ·obtain ⟨⟨⟨v1,v2,v3⟩,v4⟩,rfl,ev1,ev2,hv3,hv3'⟩:=he
    dsimp only at hv3 hv3' ev1 ev2 ⊢
    subst ev1 ev2
    refine Bg (by simp only [List.length_cons,List.length_nil]; omega) (CA ⟨rfl,rfl,by simp [hlen],?_,fun j r hj hr'=> ?_,rfl,rfl⟩)
    ·rw [List.getElem?_append_left (by omega)]; exact h0
    ·rcases Nat.lt_or_ge j x3.length with gj | gj
     ·rw [List.getElem?_append_left gj] at hr'; exact hrs j r hj hr'
     ·have hjl:=(List.getElem?_eq_some_iff.1 hr').1
      simp at hjl
      have:j=x3.length:=by omega
      subst this
      rw [List.getElem?_append_right (Nat.le_refl _),Nat.sub_self] at hr'
      cases hr'
      refine ⟨⟨⟨by dsimp only; omega,by dsimp only; omega⟩,by dsimp only; omega,hus,hv3,hv3'⟩,g.2.2.2.2[k],List.getElem_mem hk,by rw [hlen]; exact hx,?_⟩
      dsimp only
      rw [show ((nt+1+tj:Nat):Int).toNat - (nt+1)=tj by omega,htj,hvl]
 obtain ⟨w,x1,x2,rules,x4,x5,x6⟩:=z
 obtain ⟨e1,e2,hlen,h0,hrs,e4,e5⟩:=hz
 dsimp only at hlen h0 hrs e1 e2 e4 e5 ⊢
 subst e1 e2 e4 e5
 refine AM (Eg (by omega)) fun t ht=> ?_
 rcases ht with ⟨rfl,ht⟩ | ⟨j,rfl,ht⟩
 ·exact absurd (hVm 0 (by omega)) ht
 refine AT (decide_eq_false (by omega)) (AD ⟨⟨hnt1,hnt⟩,hnl,hT,⟨hVpos,by dsimp only; omega⟩,⟨((nt+1+sj:Nat):Int),by omega,by dsimp only; omega,h0⟩,fun k r hk hr=>(hrs k r hk hr).1,⟨by dsimp only; omega,by dsimp only; omega⟩,fun v hv=> ?_,⟨h4,h4'⟩,h5⟩)
 dsimp only at hv ⊢
 have hvx:=List.getElem?_eq_getElem hv
 obtain ⟨r,hr1,hr2⟩:=hfr _ (List.getElem_mem hv)
 obtain ⟨i,hi⟩:=List.getElem?_of_mem hr1
 have hil:=(List.getElem?_eq_some_iff.1 hi).1
 have hri:=List.getElem?_eq_getElem (show i+1<rules.length by omega)
 obtain ⟨hp,r',_,h1,h2⟩:=hrs (i+1) _ (by omega) hri
 rw [Nat.add_sub_cancel,hi] at h1
 cases h1
 refine ⟨_,List.getElem_mem (show i+1<rules.length by omega),?_⟩
 have hl:=hp.left
 rw [hr2] at h2
 obtain ⟨hq,h2⟩:=List.getElem?_eq_some_iff.1 h2
 have:=ME hV.once hq hv h2
 omega
theorem HO {s:Gv} (G:SmG s) (F:SmF 12 5 s):Ok (Ae s) fun p=> ∃nt nl,Pl nt nl p:=by
 unfold Ae
 exact AM (KW G F) fun g hg=>AM (Ns hg) fun p hp=>AD ⟨_,_,hp⟩
abbrev Rl:Type:=List Bu
def beh (R:Rl) (x:Item):Int:=match R[x.1.toNat]? with
 | some r=>(r.2.1[x.2.toNat]?).getD (-1)
 | none=> -1
def OkI (R:Rl) (x:Item):Prop:=0≤x.1∧0≤x.2∧ ∃r,R[x.1.toNat]? =some r∧x.2.toNat≤r.2.1.length
structure VP (nT:Int) (R:Rl):Prop where
 t0:0≤nT
 left: ∀r ∈ R,nT≤r.1
 right: ∀r ∈ R,∀s ∈ r.2.1,0≤s
 few:R.length≤100
 short: ∀r ∈ R,r.2.1.length≤100
theorem HV {p:Au} {x:Item} (h:OkI p.2.2.1 x):BM (qA p Dz 0) x=some (beh p.2.2.1 x):=by
 obtain ⟨h0,h1,r,h2,h3⟩:=h
 refine Ok.eq ?_
 unfold BM
 refine CY h0 h2 ?_
 have e:beh p.2.2.1 x=(r.2.1[x.2.toNat]?).getD (-1):=by unfold beh; rw [h2]
 refine Ah (fun hc=> ?_) fun hc=> ?_
 ·have hc:=of_decide_eq_true hc
  refine AD ?_
  rw [e,List.getElem?_eq_none (by omega)]
  rfl
 ·have hc:=of_decide_eq_false hc
  have hl:x.2.toNat<r.2.1.length:=by omega
  refine CY h1 (List.getElem?_eq_getElem hl) (AD ?_)
  rw [e,List.getElem?_eq_getElem hl]
  rfl
theorem NW {nT:Int} {R:Rl} (V:VP nT R) {x:Item} (h:OkI R x):beh R x= -1∨0≤beh R x:=by
 obtain ⟨h0,h1,r,h2,h3⟩:=h
 unfold beh
 rw [h2]
 dsimp only
 cases e:r.2.1[x.2.toNat]? with
 | none=>exact .inl rfl
 | some s=>exact .inr (V.right r (List.mem_of_getElem? h2) s (List.mem_of_getElem? e))
theorem Mt (q:Au) (s:Int):DS q s=some (decide (0≤s) && decide (s< ((q.1.length:Nat):Int))):=by
 refine Ok.eq ?_
 unfold DS
 refine AM (Q:=fun b=>b=(decide (0≤s) && decide (s< ((q.1.length:Nat):Int)))) (Ah (fun h=>AD ?_) fun h=>AD ?_) fun b hb=>AD hb
 ·rw [decide_eq_true (show 0≤s from of_decide_eq_true h),Bool.true_and]
 ·rw [decide_eq_false (show ¬0≤s from of_decide_eq_false h),Bool.false_and]
theorem Jr {l:List Item} {x:Item} (h:l.length≤9223372036854775807):Aw l x=some (decide (x ∈ l)):=by
 refine Ok.eq ?_
 unfold Aw BG
 refine AM (Q:=fun k=>(k= -1∧x ∉ l)∨(0≤k∧x ∈ l)) ?_ fun k hk=>AD ?_
 ·refine Ep l (fun _ y=>decide (x=y)) (fun k _=>k) h (fun j y hy=> ?_) (fun hn=>AD (.inl ⟨rfl,fun hm=> ?_⟩)) fun j y hy hq _=>AD (.inr ⟨by omega,?_⟩)
  ·rw [Di,hy,Option.bind_some]
   have e:((x.1,x.2).1==y.1 && ((x.1,x.2).2==y.2 && true))=decide (x=y):=by
    obtain ⟨a,b⟩:=x; obtain ⟨c,d⟩:=y
    rw [Bool.and_true,Bool.eq_iff_iff]
    simp
   rw [e]
   cases decide (x=y) <;>rfl
  ·obtain ⟨j,hj⟩:=List.getElem?_of_mem hm
   have:=hn j x hj
   simp at this
  ·have:=of_decide_eq_true hq
   subst this
   exact List.mem_of_getElem? hy
 ·rcases hk with ⟨rfl,h⟩ | ⟨h0,h⟩
  ·rw [decide_eq_false h]; rfl
  ·rw [decide_eq_true h]; exact decide_eq_true h0
inductive Cl (R:Rl) (K:List Item):Item→Prop
 | base {x:Item} :x ∈ K→Cl R K x
 | step {y:Item} {k:Nat} {r:Bu} :Cl R K y→R[k]? =some r→r.1=beh R y→Cl R K ((k:Int),0)
def Lt (x y:Item):Prop:=x.1<y.1∨x.1=y.1∧x.2<y.2
theorem Lt.irrefl (x:Item): ¬Lt x x:=by unfold Lt; omega
theorem Lt.trans {x y z:Item} (h1:Lt x y) (h2:Lt y z):Lt x z:=by unfold Lt at *; omega
theorem LT {l:List Item} (h:l.Nodup):(Ef l).Pairwise Lt:=by
 have h1:=IE HI HJ l
 have h2:(Ef l).Nodup:=(CK _ l).nodup_iff.2 h
 refine ((List.pairwise_and_iff.2 ⟨h1,List.nodup_iff_pairwise_ne.1 h2⟩).imp fun {a b} h=> ?_)
 obtain ⟨h3,h4⟩:=h
 simp only [Cn,Bool.not_eq_true',decide_eq_false_iff_not] at h3
 have h5: ¬(a.1=b.1∧a.2=b.2):=fun e=>h4 (Prod.ext e.1 e.2)
 unfold Lt
 omega
theorem KX {l:List Item} {x:Item} :x ∈ Ef l ↔ x ∈ l:=(CK _ l).mem_iff
theorem Ih (l:List Item):(Ef l).length=l.length:=(CK _ l).length_eq
theorem IQ {R:Rl} {E:List Item} (hn:E.Nodup) (h: ∀x ∈ E,∃k:Nat,k<R.length∧x=((k:Int),0)):E.length≤R.length:=by
 have:=List.Nodup.length_le_of_subset (l₂:=(List.range R.length).map fun k:Nat=>((k:Int),(0:Int))) hn (fun x hx=>by
  obtain ⟨k,h1,h2⟩:=h x hx
  exact List.mem_map.2 ⟨k,List.mem_range.2 h1,h2.symm⟩)
 simpa using this
structure JI (R:Rl) (K C:List Item):Prop where
 up:C.Pairwise Lt
 mem: ∀x,x ∈ C ↔ Cl R K x
 len:C.length≤K.length+R.length
theorem Cl.ok {R:Rl} {K:List Item} (hK: ∀x ∈ K,OkI R x) {x:Item} (h:Cl R K x):OkI R x:=by
 induction h with
 | base h=>exact hK _ h
 | @step y k r _ h1 h2 _=>exact ⟨by dsimp only; omega,by dsimp only; omega,r,by simpa using h1,by simp⟩
set_option maxHeartbeats 1000000 in
theorem KY {p:Au} (V:VP ((p.1.length:Nat):Int) p.2.2.1) {K:List Item} (hK: ∀x ∈ K,OkI p.2.2.1 x) (hn:K.Nodup) (hl:K.length≤1000000):Ok (Ax (qA p Dz 0) K) (JI p.2.2.1 K):=by
 unfold Ax
 have hf:=V.few
 refine AI (x:=K) (by unfold D9; rw [if_pos (by omega)]) ?_
 generalize hR:p.2.2.1=R at *
 refine Eo (fun (z:Int×List Item×List (Int×Bool))=>0≤z.1∧z.1≤(z.2.1.length:Int)∧(∃E:List Item,z.2.1=K++E∧E.Nodup∧ ∀x ∈ E,∃k:Nat,k<R.length∧x=((k:Int),0))∧z.2.1.Nodup∧(∀x ∈ z.2.1,Cl R K x)∧
  (∀s,Cz s z.2.2=some true→ ∀(k:Nat) r,R[k]? =some r→r.1=s→((k:Int),(0:Int)) ∈ z.2.1)∧
  ∀(j:Nat) x,(j:Int) <z.1→z.2.1[j]? =some x→ ∀(k:Nat) r,R[k]? =some r→r.1=beh R x→((k:Int),(0:Int)) ∈ z.2.1)
  (fun z=>K.length+R.length - z.1.toNat) (fun b=>b.1.Nodup∧b.1.length≤K.length+R.length∧ ∀x,x ∈ b.1 ↔ Cl R K x)
  ⟨Int.le_refl _,by dsimp only; omega,⟨[],by simp,by simp,by simp⟩,hn,fun x hx=> .base hx,(fun s h=>by cases h),fun j x h=>absurd h (by dsimp only; omega)⟩ (fun z hz=> ?_) fun b hb=> ?_
 ·obtain ⟨i,out,come⟩:=z
  obtain ⟨h0,h1,hE,hno,hcl,hco,hdo⟩:=hz
  dsimp only at h0 h1 hE hno hcl hco hdo ⊢
  obtain ⟨E,eE,nE,mE⟩:=hE
  have lE:=IQ nE mE
  have lo:out.length≤K.length+R.length:=by rw [eE,List.length_append]; omega
  refine Ah (fun hc=> ?_) fun hc=>C5 ⟨hno,lo,fun x=>⟨hcl x,fun h=> ?_⟩⟩
  ·have hc:=of_decide_eq_true hc
   have hi:i.toNat<out.length:=by omega
   have hx:=List.getElem?_eq_getElem hi
   have hxm:=List.getElem_mem hi
   generalize out[i.toNat] =x at hx hxm
   have hox:=(hcl x hxm).ok hK
   refine AM (Q:=fun (y:List Item×List (Int×Bool))=>(∃E:List Item,y.1=K++E∧E.Nodup∧ ∀x ∈ E,∃k:Nat,k<R.length∧x=((k:Int),0))∧y.1.Nodup∧(∀x ∈ y.1,Cl R K x)∧(∃E2,y.1=out++E2)∧
    (∀s,Cz s y.2=some true→ ∀(k:Nat) r,R[k]? =some r→r.1=s→((k:Int),(0:Int)) ∈ y.1)∧ ∀(k:Nat) r,R[k]? =some r→r.1=beh R x→((k:Int),(0:Int)) ∈ y.1) ?_ fun y hy=> ?_
   ·refine CY h0 hx (AI (x:=beh R x) (by have:=HV (p:=p) (x:=x) (by rw [hR]; exact hox); rw [hR] at this; exact this) ?_)
    have hb:=NW V hox
    generalize hs:beh R x=s at hb
    have no:s<0∨s< ((p.1.length:Nat):Int)→ ∀(k:Nat) r,R[k]? =some r→r.1=s→((k:Int),(0:Int)) ∈ out:=fun h k r hr e=>by
     have:=V.left r (List.mem_of_getElem? hr)
     omega
    refine AM (Q:=fun b=>(b=true→ ∀(k:Nat) r,R[k]? =some r→r.1=s→((k:Int),(0:Int)) ∈ out)) (Ah (fun hc=>AD fun _=>no (.inl (of_decide_eq_true hc))) fun hc=> ?_) fun b hb'=> ?_
    ·have hc:=of_decide_eq_false hc
     refine AI (Mt _ _) (Ah (fun ht=>AD fun _=>no (.inr ?_)) fun ht=> ?_)
     ·simp only [Bool.and_eq_true,decide_eq_true_eq] at ht
      exact ht.2
     ·refine AI rfl (AD fun h=>hco s ?_)
      cases hm:Cz s come with
      | none=>rw [hm] at h; cases h
      | some b=>rw [hm] at h; exact congrArg some h
    ·refine Ah (fun hc=>AD ⟨⟨E,eE,nE,mE⟩,hno,hcl,⟨[],by simp⟩,hco,hb' hc⟩) fun hc=> ?_
     refine DU (fun k (z:List Item)=>(∃E2:List Item,z=out++E2∧ ∀x ∈ E2,∃q:Nat,q<R.length∧x=((q:Int),0)∧ ∃r,R[q]? =some r∧r.1=s)∧z.Nodup∧ ∀(q:Nat) r,q<k→R[q]? =some r→r.1=s→((q:Int),(0:Int)) ∈ z) (by omega) ⟨⟨[],by simp,by simp⟩,hno,fun q r h=>by omega⟩ (fun k z hk hz=> ?_) fun z hz=> ?_
     ·obtain ⟨⟨E2,e2,m2⟩,n2,d2⟩:=hz
      have hr:=List.getElem?_eq_getElem hk
      have lz:z.length≤K.length+R.length:=by
       obtain ⟨n3,n4,n5⟩:=List.nodup_append.1 (show (K++(E++E2)).Nodup by rw [← List.append_assoc,← eE,← e2]; exact n2)
       have:=IQ (R:=R) n4 (fun x hx=>by
        rcases List.mem_append.1 hx with h | h
        ·exact mE x h
        ·obtain ⟨q,a,b,_⟩:=m2 x h; exact ⟨q,a,b⟩)
       rw [e2,eE,List.append_assoc,List.length_append]; omega
      refine AX hr (AM (Q:=fun b=>(b=true→R[k].1=s∧((k:Int),(0:Int)) ∉ z)∧(b=false→R[k].1=s→((k:Int),(0:Int)) ∈ z)) (Ah (fun hc=> ?_) fun hc=>AD ⟨by simp,fun _ e=> ?_⟩) fun b hb2=> ?_)
      ·refine AI (Jr (by omega)) (AD ⟨fun h=>⟨eq_of_beq hc,?_⟩,fun h _=> ?_⟩)
       ·simpa using h
       ·simpa using h
      ·rw [e] at hc; simp at hc
      ·refine AM (Q:=fun (z':List Item)=>(∃E2:List Item,z'=out++E2∧ ∀x ∈ E2,∃q:Nat,q<R.length∧x=((q:Int),0)∧ ∃r,R[q]? =some r∧r.1=s)∧z'.Nodup∧ ∀(q:Nat) r,q<k+1→R[q]? =some r→r.1=s→((q:Int),(0:Int)) ∈ z') (Ah (fun hc=> ?_) fun hc=>AD ⟨⟨E2,e2,m2⟩,n2,fun q r hq hr' e=> ?_⟩) fun z' hz'=>AD hz'
       ·obtain ⟨g1,g2⟩:=hb2.1 hc
        refine Bg (by simp only [List.length_cons,List.length_nil]; omega) (AD ⟨⟨E2++ [((k:Int),0)],by rw [e2,List.append_assoc],fun x hx=> ?_⟩,?_,fun q r hq hr' e=> ?_⟩)
        ·rcases List.mem_append.1 hx with h | h
         ·exact m2 x h
         ·exact ⟨k,hk,List.mem_singleton.1 h,_,hr,g1⟩
        ·refine List.nodup_append.2 ⟨n2,by simp,fun x hx y hy hxy=>g2 ?_⟩
         rw [← List.mem_singleton.1 hy,← hxy]; exact hx
        ·rcases Nat.lt_succ_iff_lt_or_eq.1 hq with h | rfl
         ·exact List.mem_append_left _ (d2 q r h hr' e)
         ·exact List.mem_append_right _ (List.mem_singleton.2 rfl)
       ·rcases Nat.lt_succ_iff_lt_or_eq.1 hq with h | rfl
        ·exact d2 q r h hr' e
        ·rw [hr] at hr'; cases hr'; exact hb2.2 hc e
     ·obtain ⟨⟨E2,e2,m2⟩,n2,d2⟩:=hz
      have hall: ∀(k:Nat) r,R[k]? =some r→r.1=s→((k:Int),(0:Int)) ∈ z:=fun k r hr e=>d2 k r (List.getElem?_eq_some_iff.1 hr).1 hr e
      refine AD ⟨⟨E++E2,by rw [e2,eE,List.append_assoc],?_,fun x hx=> ?_⟩,n2,fun x hx=> ?_,⟨E2,e2⟩,fun s' hs' k r hr e=> ?_,hall⟩
      ·exact (List.nodup_append.1 (show (K++(E++E2)).Nodup by rw [← List.append_assoc,← eE,← e2]; exact n2)).2.1
      ·rcases List.mem_append.1 hx with h | h
       ·exact mE x h
       ·obtain ⟨q,a,b,_⟩:=m2 x h; exact ⟨q,a,b⟩
      ·dsimp only at hx
       rw [e2] at hx
       rcases List.mem_append.1 hx with h | h
       ·exact hcl x h
       ·obtain ⟨q,a,b,r,c,d⟩:=m2 x h
        rw [b]
        exact .step (hcl _ hxm) c (by rw [d,hs])
      ·dsimp only at hs' ⊢
       rw [Iu] at hs'
       split at hs'
       ·rename_i e'
        exact hall k r hr (by rw [e,e'])
       ·rw [e2]
        exact List.mem_append_left _ (hco s' hs' k r hr e)
   ·obtain ⟨out',come'⟩:=y
    obtain ⟨⟨E',eE',nE',mE'⟩,hno',hcl',⟨E2,e2⟩,hco',hx'⟩:=hy
    dsimp only at eE' hno' hcl' e2 hco' hx' ⊢
    have hw:IntKind.wrap .i64 (i+(1:Int))=i+1:=w64 (by omega) (by omega)
    have lo':out.length≤out'.length:=by rw [e2,List.length_append]; omega
    refine DV ⟨⟨by dsimp only; rw [hw]; omega,by dsimp only; rw [hw]; omega,⟨E',eE',nE',mE'⟩,hno',hcl',hco',fun j y hj hy k r hr e=> ?_⟩,by dsimp only; rw [hw]; omega⟩
    dsimp only at hj hy ⊢
    rw [hw] at hj
    rcases Int.lt_or_le j i with g | g
    ·rw [e2,List.getElem?_append_left (by omega)] at hy
     rw [e2]
     exact List.mem_append_left _ (hdo j y g hy k r hr e)
    ·have:j=i.toNat:=by omega
     subst this
     rw [e2,List.getElem?_append_left (by omega),hx] at hy
     cases hy
     exact hx' k r hr e
  ·have hc:=of_decide_eq_false hc
   induction h with
   | base h=>rw [eE]; exact List.mem_append_left _ h
   | @step y k r _ g1 g2 ih=>
    obtain ⟨j,hj⟩:=List.getElem?_of_mem ih
    have:=(List.getElem?_eq_some_iff.1 hj).1
    dsimp only at this
    exact hdo j y (by omega) hj k r g1 g2
 ·obtain ⟨b1,b2,b3⟩:=hb
  refine AI (x:=Ef b.1) (by unfold FY; rw [if_pos (by omega)]) (AD ⟨LT b1,fun x=>KX.trans (b3 x),by rw [Ih]; exact b2⟩)
theorem HW (u:Nat): ∀b ∈ Lib.decDigits u,48≤b.toNat∧b.toNat≤57:=by
 induction u using Nat.strongRecOn with
 | ind u ih=>
  intro b hb
  rw [Lib.decDigits] at hb
  split at hb
  ·rename_i h
   have hb:=List.mem_singleton.1 hb; subst hb
   have:(UInt8.ofNat (48+u)).toNat=48+u:=by simp; omega
   omega
  ·rename_i h
   rcases List.mem_append.1 hb with hb | hb
   ·exact ih (u / 10) (by omega) b hb
   ·have hb:=List.mem_singleton.1 hb; subst hb
    have:(UInt8.ofNat (48+u % 10)).toNat=48+u % 10:=by simp; omega
    omega
def NX (l:List UInt8):Nat:=l.foldl (fun a b=>a * 10+(b.toNat - 48)) 0
theorem Js (u:Nat):NX (Lib.decDigits u)=u:=by
 induction u using Nat.strongRecOn with
 | ind u ih=>
  rw [Lib.decDigits]
  split
  ·rename_i h
   have:(UInt8.ofNat (48+u)).toNat=48+u:=by simp; omega
   simp only [NX,List.foldl_cons,List.foldl_nil,this]
   omega
  ·rename_i h
   have e:(UInt8.ofNat (48+u % 10)).toNat=48+u % 10:=by simp; omega
   have:=ih (u / 10) (by omega)
   unfold NX at this ⊢
   rw [List.foldl_append,this]
   simp only [List.foldl_cons,List.foldl_nil,e]
   omega
theorem Kr {u v:Nat} (h:Lib.decDigits u=Lib.decDigits v):u=v:=by rw [← Js u,h,Js]
theorem LU (i:Int): ∀b ∈ Lib.itoa i,b=45∨(48≤b.toNat∧b.toNat≤57):=by
 intro b hb
 unfold Lib.itoa at hb
 split at hb
 ·rcases List.mem_cons.1 hb with hb | hb
  ·exact .inl hb
  ·exact .inr (HW _ b hb)
 ·exact .inr (HW _ b hb)
theorem MF {i j:Int} (h:Lib.itoa i=Lib.itoa j):i=j:=by
 have no45: ∀(u:Nat) (r:List UInt8),Lib.decDigits u ≠ 45::r:=fun u r e=>by
  have:=HW u 45 (by rw [e]; simp)
  simp at this
 unfold Lib.itoa at h
 split at h<;>split at h
 ·have:=Kr (List.cons.inj h).2; omega
 ·exact absurd h.symm (no45 _ _)
 ·exact absurd h (no45 _ _)
 ·have:=Kr h; omega
theorem DH (i:Int): ∀x ∈ B2 i,Fz x=true∧x ≠ 32∧x ≠ 46:=by
 intro x hx
 unfold B2 at hx
 obtain ⟨b,hb,rfl⟩:=List.mem_map.1 hx
 unfold Fz
 simp only [Bool.and_eq_true,decide_eq_true_eq]
 rcases LU i b hb with rfl | h
 ·decide
 ·omega
theorem IS {i j:Int} (h:B2 i=B2 j):i=j:=by
 unfold B2 at h
 refine MF ?_
 refine List.map_inj_right (f:=fun b:UInt8=>(b.toNat:Int)) ?_ |>.1 h
 intro a b hab
 have:a.toNat=b.toNat:=by omega
 exact UInt8.toNat_inj.1 this
theorem Fa {i:Int} (h0: -9223372036854775808≤i) (h1:i≤9223372036854775807):(B2 i).length≤21:=by
 unfold B2
 rw [List.length_map]
 exact Lib.itoa_length_le i h0 h1
def D1:List Item→List Int
 | [] => []
 | x::l=>B2 x.1++46::(B2 x.2++32::D1 l)
theorem Jt (l m:List Item):D1 (l++m)=D1 l++D1 m:=by
 induction l with
 | nil=>rfl
 | cons x l ih=>simp [D1,ih]
theorem Ju {c:Int} : ∀ {a b r s:List Int},(∀x ∈ a,x ≠ c)→(∀x ∈ b,x ≠ c)→a++c::r=b++c::s→a=b∧r=s:=by
 intro a
 induction a with
 | nil=>
  intro b r s _ hb h
  cases b with
  | nil=>simpa using h
  | cons y b=>simp at h; exact absurd h.1.symm (hb y (by simp))
 | cons x a ih=>
  intro b r s ha hb h
  cases b with
  | nil=>simp at h; exact absurd h.1 (ha x (by simp))
  | cons y b=>
   simp at h
   obtain ⟨h1,h2⟩:=ih (fun z hz=>ha z (by simp [hz])) (fun z hz=>hb z (by simp [hz])) h.2
   exact ⟨by rw [h.1,h1],h2⟩
theorem MG: ∀ {a b:List Item},D1 a=D1 b→a=b:=by
 intro a
 induction a with
 | nil=>
  intro b h
  cases b with
  | nil=>rfl
  | cons y b=>simp [D1] at h
 | cons x a ih=>
  intro b h
  cases b with
  | nil=>simp [D1] at h
  | cons y b=>
   obtain ⟨h1,h2⟩:=Ju (fun z hz=>(DH x.1 z hz).2.2) (fun z hz=>(DH y.1 z hz).2.2) h
   obtain ⟨h3,h4⟩:=Ju (fun z hz=>(DH x.2 z hz).2.1) (fun z hz=>(DH y.2 z hz).2.1) h2
   rw [Prod.ext (IS h1) (IS h3),ih h4]
theorem HX (l:List Item): ∀x ∈ D1 l,Fz x=true:=by
 induction l with
 | nil=>intro x hx; cases hx
 | cons y l ih=>
  intro x hx
  simp only [D1,List.mem_append,List.mem_cons] at hx
  rcases hx with h | rfl | h | rfl | h
  ·exact (DH _ x h).1
  ·decide
  ·exact (DH _ x h).1
  ·decide
  ·exact ih x h
def I64 (l:List Item):Prop:= ∀x ∈ l,0≤x.1∧x.1≤1000000∧0≤x.2∧x.2≤1000000
theorem MH {l:List Item} (h:I64 l):(D1 l).length≤l.length * 44:=by
 induction l with
 | nil=>simp [D1]
 | cons x l ih=>
  have a:=h x (by simp)
  have:=ih fun y hy=>h y (by simp [hy])
  have h1:=Fa (i:=x.1) (by omega) (by omega)
  have h2:=Fa (i:=x.2) (by omega) (by omega)
  simp only [D1,List.length_append,List.length_cons]
  omega
def KZ (l:List Item):ByteArray:=⟨((D1 l).map fun x=>UInt8.ofNat x.toNat).toArray⟩
theorem Ka {x:Int} (h:Fz x=true):((UInt8.ofNat x.toNat).toNat:Int)=x:=by
 unfold Fz at h
 simp only [Bool.and_eq_true,decide_eq_true_eq] at h
 simp
 omega
theorem MI {a b:List Item} (h:KZ a=KZ b):a=b:=by
 unfold KZ at h
 simp only [ByteArray.mk.injEq] at h
 have h1: ∀l:List Int,(∀x ∈ l,Fz x=true)→(l.map fun x=>UInt8.ofNat x.toNat).map (fun b=>(b.toNat:Int))=l:=fun l hl=>by
  rw [List.map_map]
  conv=>rhs; rw [← List.map_id l]
  refine List.map_congr_left fun x hx=> ?_
  exact Ka (hl x hx)
 refine MG ?_
 rw [← h1 (D1 a) (HX a),← h1 (D1 b) (HX b)]
 rw [List.toArray_inj h]
theorem NY {l:List Item} (h:I64 l) (hl:l.length≤20000):Cr l=some (KZ l):=by
 refine Ok.eq ?_
 unfold Cr
 refine DU (fun k (z:List Int)=>z=D1 (l.take k)) (by omega) rfl (fun k z hk hz=> ?_) fun z hz=> ?_
 ·subst hz
  have hx:=List.getElem?_eq_getElem hk
  have a:=h _ (List.getElem_mem hk)
  have e:D1 (l.take (k+1))=D1 (l.take k) ++D1 [l[k]] :=by rw [List.take_add_one,hx,Jt]; rfl
  have hlen:=MH (l:=l.take k) fun y hy=>h y (List.mem_of_mem_take hy)
  have:(l.take k).length≤k:=by rw [List.length_take]; omega
  have h1:=Fa (i:=l[k].1) (by omega) (by omega)
  have h2:=Fa (i:=l[k].2) (by omega) (by omega)
  have c1:Cm (D1 (l.take k)) l[k].1 10=some (D1 (l.take k) ++B2 l[k].1):=by unfold Cm; rw [if_pos ⟨rfl,by omega,by omega,by omega⟩]
  refine AX hx (AI c1 (Bg (by simp; omega) ?_))
  have c2:Cm (D1 (l.take k) ++B2 l[k].1++ [46]) l[k].2 10=some (D1 (l.take k) ++B2 l[k].1++ [46] ++B2 l[k].2):=by unfold Cm; rw [if_pos ⟨rfl,by omega,by omega,by simp; omega⟩]
  refine AI c2 (Bg (by simp; omega) (AD ?_))
  rw [e]
  simp [D1]
 ·subst hz
  rw [List.take_of_length_le (Nat.le_refl _)]
  refine AI (x:=KZ l) ?_ (AD rfl)
  unfold Kk KZ
  rw [if_pos (List.all_eq_true.2 (HX l))]
def nx (R:Rl) (l:List Item) (s:Int):List Item:=(l.filter fun x=>beh R x==s).map fun x=>(x.1,x.2+1)
theorem OkI.dot {nT:Int} {R:Rl} (V:VP nT R) {x:Item} (h:OkI R x):x.1≤1000∧x.2≤1000:=by
 obtain ⟨h0,h1,r,h2,h3⟩:=h
 have:=V.short r (List.mem_of_getElem? h2)
 have:=(List.getElem?_eq_some_iff.1 h2).1
 have:=V.few
 omega
theorem OkI.i64 {nT:Int} {R:Rl} (V:VP nT R) {l:List Item} (h: ∀x ∈ l,OkI R x):I64 l:=fun x hx=>by
 have:=(h x hx).dot V
 have:=(h x hx).1
 have:=(h x hx).2.1
 omega
theorem Mu {p:Au} {nT:Int} (V:VP nT p.2.2.1) {l:List Item} (h: ∀x ∈ l,OkI p.2.2.1 x) (hl:l.length≤1000000) (s:Int):BV (qA p Dz 0) l s=some (nx p.2.2.1 l s):=by
 refine Ok.eq ?_
 unfold BV
 refine DU (fun k (z:List Item)=>z=nx p.2.2.1 (l.take k) s) (by omega) rfl (fun k z hk hz=> ?_) fun z hz=>AD (by rw [hz,List.take_of_length_le (Nat.le_refl _)])
 subst hz
 have hx:=List.getElem?_eq_getElem hk
 have a:=h _ (List.getElem_mem hk)
 have ad:=a.dot V
 have a2:=a.2.1
 have e:nx p.2.2.1 (l.take (k+1)) s=nx p.2.2.1 (l.take k) s++nx p.2.2.1 [l[k]] s:=by
  rw [List.take_add_one,hx]
  unfold nx
  rw [List.filter_append,List.map_append]
  rfl
 have hlen:(nx p.2.2.1 (l.take k) s).length≤k:=by
  unfold nx
  rw [List.length_map]
  have:=List.length_filter_le (fun x=>beh p.2.2.1 x==s) (l.take k)
  rw [List.length_take] at this
  omega
 refine AX hx (AI (HV a) ?_)
 refine AM (Q:=fun z=>z=nx p.2.2.1 (l.take (k+1)) s) (Ah (fun hc=> ?_) fun hc=>AD ?_) fun z hz=>AD hz
 ·refine Bg (by simp; omega) (AD ?_)
  rw [e,w64 (by omega) (by omega)]
  unfold nx
  rw [List.filter_cons,if_pos hc]
  rfl
 ·rw [e]
  unfold nx
  rw [List.filter_cons,if_neg (by rw [hc]; decide)]
  simp
theorem HY {R:Rl} {l:List Item} {s:Int} {y:Item} :y ∈ nx R l s ↔ ∃x ∈ l,beh R x=s∧y=(x.1,x.2+1):=by
 unfold nx
 simp only [List.mem_map,List.mem_filter,beq_iff_eq]
 constructor
 ·rintro ⟨x,⟨h1,h2⟩,h3⟩; exact ⟨x,h1,h2,h3.symm⟩
 ·rintro ⟨x,h1,h2,h3⟩; exact ⟨x,⟨h1,h2⟩,h3.symm⟩
theorem M7 {R:Rl} {l:List Item} (h:l.Pairwise Lt) (s:Int):(nx R l s).Pairwise Lt:=by
 unfold nx
 rw [List.pairwise_map]
 exact (h.filter _).imp fun {a b} h=>by unfold Lt at *; dsimp only; omega
theorem MJ {nT:Int} {R:Rl} (V:VP nT R) {l:List Item} (h: ∀x ∈ l,OkI R x) {s:Int} (hs:0≤s): ∀y ∈ nx R l s,OkI R y∧1≤y.2:=fun y hy=>by
 obtain ⟨x,h1,h2,rfl⟩:=HY.1 hy
 obtain ⟨g0,g1,r,g2,g3⟩:=h x h1
 refine ⟨⟨g0,by dsimp only; omega,r,g2,?_⟩,by dsimp only; omega⟩
 unfold beh at h2
 rw [g2] at h2
 dsimp only at h2 ⊢
 rcases Nat.lt_or_ge x.2.toNat r.2.1.length with g | g
 ·omega
 ·rw [List.getElem?_eq_none g] at h2
  simp at h2
  omega
def syr (R:Rl) (l:List Item):List Int:=(l.map (beh R)).filter fun s=>decide (0≤s)
def sy (R:Rl) (l:List Item):List Int:=Lib.compact (GE (syr R l))
theorem Kb {p:Au} {l:List Item} (h: ∀x ∈ l,OkI p.2.2.1 x) (hl:l.length≤1000000):BF (qA p Dz 0) l=some (sy p.2.2.1 l):=by
 refine Ok.eq ?_
 unfold BF
 have hlen: ∀k,(syr p.2.2.1 (l.take k)).length≤l.length:=fun k=>by
  unfold syr
  have:=List.length_filter_le (fun s=>decide (0≤s)) ((l.take k).map (beh p.2.2.1))
  rw [List.length_map,List.length_take] at this
  omega
 refine DU (fun k (z:List Int)=>z=syr p.2.2.1 (l.take k)) (by omega) rfl (fun k z hk hz=> ?_) fun z hz=> ?_
 ·subst hz
  have hx:=List.getElem?_eq_getElem hk
  have a:=h _ (List.getElem_mem hk)
  have e:syr p.2.2.1 (l.take (k+1))=syr p.2.2.1 (l.take k) ++syr p.2.2.1 [l[k]] :=by
   rw [List.take_add_one,hx]
   unfold syr
   rw [List.map_append,List.filter_append]
   rfl
  have:=hlen k
  refine AX hx (AI (HV a) ?_)
  refine AM (Q:=fun z=>z=syr p.2.2.1 (l.take (k+1))) (Ah (fun hc=> ?_) fun hc=>AD ?_) fun z hz=>AD hz
  ·refine Bg (by simp; omega) (AD ?_)
   rw [e]
   unfold syr
   rw [List.map_cons,List.filter_cons,if_pos (by simpa using hc)]
   rfl
  ·rw [e]
   unfold syr
   rw [List.map_cons,List.filter_cons,if_neg (by simpa using hc)]
   simp
 ·subst hz
  have:=hlen l.length
  rw [List.take_of_length_le (Nat.le_refl _)] at this ⊢
  refine AI (x:=GE (syr p.2.2.1 l)) (by unfold Km; rw [if_pos (by omega)]) ?_
  refine AI (x:=sy p.2.2.1 l) (by unfold HH; rw [if_pos (by unfold GE; rw [(CK _ _).length_eq]; omega)]; rfl) (AD rfl)
theorem Jv (l:List Int):(GE l).Pairwise (· ≤ ·):=by
 have h1:=IE (le:=fun x y:Int=>decide (x≤y)) (by
  intro a b c h1 h2
  simp only [decide_eq_true_eq] at *
  omega) (by
  intro a b
  simp only [Bool.or_eq_true,decide_eq_true_eq]
  omega) l
 exact h1.imp fun {a b} h=>of_decide_eq_true h
theorem Ix {l:List Int} (h:l.Pairwise (· ≤ ·)): ∀m,m≤l.length→(Lib.compactUpTo l.toArray m).Pairwise (· < ·)∧(∀x,x ∈ Lib.compactUpTo l.toArray m ↔ x ∈ l.take m):=by
 intro m
 induction m with
 | zero=>intro _; exact ⟨.nil,fun x=>by simp [Lib.compactUpTo]⟩
 | succ m ih=>
  intro hm
  obtain ⟨h1,h2⟩:=ih (by omega)
  rw [Lib.compactUpTo_succ]
  have hx:=List.getElem?_eq_getElem (show m<l.length by omega)
  have e0:l.toArray[m]! =l[m] :=by rw [getElem!_pos _ m (by simp; omega)]; simp
  have et:l.take (m+1)=l.take m++ [l[m]] :=by rw [List.take_add_one,hx]; rfl
  have le: ∀x ∈ l.take m,x≤l[m] :=fun x hx=>by
   obtain ⟨j,hj,rfl⟩:=List.getElem_of_mem hx
   rw [List.length_take] at hj
   rw [List.getElem_take]
   exact List.pairwise_iff_getElem.1 h j m (by omega) (by omega) (by omega)
  cases hk:Lib.keeps l.toArray m with
  | true=>
   rw [if_pos rfl,e0,et]
   refine ⟨List.pairwise_append.2 ⟨h1,by simp,fun x hx y hy=> ?_⟩,fun x=>by rw [List.mem_append,List.mem_append,h2]⟩
   obtain rfl:=List.mem_singleton.1 hy
   have hx':=(h2 x).1 hx
   have:=le x hx'
   unfold Lib.keeps at hk
   have hk:=of_decide_eq_true hk
   rcases hk with rfl | hk
   ·simp at hx'
   ·have e1:l.toArray[m - 1]! =l[m - 1] :=by rw [getElem!_pos _ (m - 1) (by simp; omega)]; simp
    rw [e0,e1] at hk
    have hm0:m ≠ 0:=fun h0=>by subst h0; simp at hx'
    have hle:x≤l[m - 1] :=by
     obtain ⟨j,hj,rfl⟩:=List.getElem_of_mem hx'
     rw [List.length_take] at hj
     rw [List.getElem_take]
     rcases Nat.lt_or_ge j (m - 1) with g | g
     ·exact List.pairwise_iff_getElem.1 h j (m - 1) (by omega) (by omega) (by omega)
     ·have:j=m - 1:=by omega
      subst this
      exact Int.le_refl _
    have:=List.pairwise_iff_getElem.1 h (m - 1) m (by omega) (by omega) (by omega)
    omega
  | false=>
   rw [if_neg (by decide),List.append_nil,et]
   refine ⟨h1,fun x=> ?_⟩
   rw [h2,List.mem_append,List.mem_singleton]
   unfold Lib.keeps at hk
   have hk:=of_decide_eq_false hk
   have hm0:m ≠ 0:=fun h0=>hk (.inl h0)
   have e1:l.toArray[m - 1]! =l[m - 1] :=by rw [getElem!_pos _ (m - 1) (by simp; omega)]; simp
   have heq:l[m] =l[m - 1] :=by
    by_cases q:l[m] =l[m - 1]
    ·exact q
    ·exact absurd (.inr (by rw [e0,e1]; exact q)) hk
   constructor
   ·exact .inl
   ·rintro (h | rfl)
    ·exact h
    ·rw [heq]
     refine List.mem_of_getElem? (i:=m - 1) ?_
     rw [List.getElem?_take,if_pos (by omega),List.getElem?_eq_getElem (by omega)]
theorem Nt (R:Rl) (l:List Item):(sy R l).Pairwise (· < ·):=(Ix (Jv _) _ (Nat.le_refl _)).1
theorem IT {R:Rl} {l:List Item} {s:Int} :s ∈ sy R l ↔ 0≤s∧ ∃x ∈ l,beh R x=s:=by
 unfold sy Lib.compact
 rw [(Ix (Jv _) _ (Nat.le_refl _)).2,List.take_of_length_le (Nat.le_refl _)]
 unfold GE
 rw [(CK _ _).mem_iff]
 unfold syr
 simp only [List.mem_filter,List.mem_map,decide_eq_true_eq]
 constructor
 ·rintro ⟨⟨x,h1,h2⟩,h3⟩; exact ⟨h3,x,h1,h2⟩
 ·rintro ⟨h3,x,h1,h2⟩; exact ⟨⟨x,h1,h2⟩,h3⟩
theorem MK (R:Rl) (l:List Item):(sy R l).length≤l.length:=by
 have h1:=IF (GE (syr R l))
 have h2:(GE (syr R l)).length=(syr R l).length:=(CK _ _).length_eq
 have h3:(syr R l).length≤(l.map (beh R)).length:=List.length_filter_le _ _
 rw [List.length_map] at h3
 unfold sy
 omega
abbrev k0:List Item:= [((0:Int),(0:Int))]
noncomputable def clo (p:Au) (K:List Item):List Item:=(Ax (qA p Dz 0) K).getD []
abbrev VPp (p:Au):Prop:=VP ((p.1.length:Nat):Int) p.2.2.1
structure IU (R:Rl) (k:List Item):Prop where
 ok: ∀x ∈ k,OkI R x
 up:k.Pairwise Lt
theorem Lt.nodup {l:List Item} (h:l.Pairwise Lt):l.Nodup:=List.nodup_iff_pairwise_ne.2 (h.imp fun {a b} h e=>by subst e; exact Lt.irrefl _ h)
theorem GV {nT:Int} {R:Rl} (V:VP nT R) {l:List Item} (h: ∀x ∈ l,OkI R x) (hn:l.Nodup):l.length≤10100:=by
 have:=List.Nodup.length_le_of_subset (l₂:=(List.range 100).flatMap fun a=>(List.range 101).map fun b=>(((a:Nat):Int),((b:Nat):Int))) hn (fun x hx=>by
  obtain ⟨h0,h1,r,h2,h3⟩:=h x hx
  have:=V.short r (List.mem_of_getElem? h2)
  have:=(List.getElem?_eq_some_iff.1 h2).1
  have:=V.few
  refine List.mem_flatMap.2 ⟨x.1.toNat,List.mem_range.2 (by omega),List.mem_map.2 ⟨x.2.toNat,List.mem_range.2 (by omega),?_⟩⟩
  exact Prod.ext (by dsimp only; omega) (by dsimp only; omega))
 refine Nat.le_trans this ?_
 rw [List.length_flatMap]
 simp only [List.length_map,List.length_range]
 decide
theorem IV {p:Au} (V:VPp p) {K:List Item} (h:IU p.2.2.1 K):Ax (qA p Dz 0) K=some (clo p K)∧JI p.2.2.1 K (clo p K)∧IU p.2.2.1 (clo p K)∧(clo p K).length≤10100:=by
 have hl:=GV V h.ok (Lt.nodup h.up)
 obtain ⟨C,h1,h2⟩:=KY V h.ok (Lt.nodup h.up) (by omega)
 have e:clo p K=C:=by unfold clo; rw [h1]; rfl
 rw [e]
 have hg:IU p.2.2.1 C:=⟨fun x hx=>((h2.mem x).1 hx).ok h.ok,h2.up⟩
 exact ⟨h1,h2,hg,GV V hg.ok (Lt.nodup hg.up)⟩
noncomputable def EL (p:Au) (B:List dtK) (k:List Item) (fr wi:Int):Nat×List dtK:=
 match B.findIdx? (fun b=>decide (b.1=k)) with
 | some i=>(i,B)
 | none=>(B.length,B++ [(k,clo p k,fr,wi)])
abbrev BE:Type:=List dtK×List (List Edge)
noncomputable def Er (p:Au) (b:dtK) (i:Nat) (y:BE) (s:Int):BE:=
 ((EL p y.1 (nx p.2.2.1 b.2.1 s) (i:Int) s).2,(D0 y.2 y.1.length (EL p y.1 (nx p.2.2.1 b.2.1 s) (i:Int) s).2.length).set i ((((D0 y.2 y.1.length (EL p y.1 (nx p.2.2.1 b.2.1 s) (i:Int) s).2.length))[i]?).getD [] ++ [(s,(((EL p y.1 (nx p.2.2.1 b.2.1 s) (i:Int) s).1:Nat):Int))]))
noncomputable def IW (p:Au) (b:dtK) (i:Nat) (l:List Int) (y:BE):BE:=l.foldl (Er p b i) y
noncomputable def stM (p:Au):Nat→BE
 | 0=>([(k0,clo p k0, -1, -1)], [[]])
 | n+1=>match (stM p n).1[n]? with
  | some b=>IW p b n (sy p.2.2.1 b.2.1) (stM p n)
  | none=>stM p n
noncomputable def mid (p:Au) (n m:Nat):BE:=match (stM p n).1[n]? with
 | some b=>IW p b n ((sy p.2.2.1 b.2.1).take m) (stM p n)
 | none=>stM p n
theorem Hq (p:Au) (B:List dtK) (k:List Item) (fr wi:Int):
 (∃i b,EL p B k fr wi=(i,B)∧B[i]? =some b∧b.1=k)∨(EL p B k fr wi=(B.length,B++ [(k,clo p k,fr,wi)])∧ ∀b ∈ B,b.1 ≠ k):=by
 unfold EL
 cases h:B.findIdx? (fun b=>decide (b.1=k)) with
 | none=>
  right
  refine ⟨rfl,fun b hb e=> ?_⟩
  have:=List.findIdx?_eq_none_iff.1 h b hb
  simp [e] at this
 | some i=>
  left
  obtain ⟨hi,h1,_⟩:=List.findIdx?_eq_some_iff_getElem.1 h
  exact ⟨i,B[i],rfl,List.getElem?_eq_getElem hi,of_decide_eq_true h1⟩
def Es (R:Rl) (B:List dtK) (b:dtK) (syms:List Int) (e:List Edge):Prop:=
 e.map (·.1)=syms∧ ∀x ∈ e,∃(t:Nat) (bt:dtK),x.2=(t:Int)∧1≤t∧B[t]? =some bt∧bt.1=nx R b.2.1 x.1
structure Inv (p:Au) (n:Nat) (syms:List Int) (y:BE):Prop where
 wf: ∀b ∈ y.1,IU p.2.2.1 b.1∧b.2.1=clo p b.1
 len:y.2.length=y.1.length
 zero:y.1[0]? =some (k0,clo p k0, -1, -1)
 from_: ∀(j:Nat) b,1≤j→y.1[j]? =some b→ ∃(f:Nat) (bf:dtK) (e:List Edge),f<j∧b.2.2.1=(f:Int)∧y.1[f]? =some bf∧b.1=nx p.2.2.1 bf.2.1 b.2.2.2∧b.2.2.2 ∈ sy p.2.2.1 bf.2.1∧y.2[f]? =some e∧(b.2.2.2,(j:Int)) ∈ e
 apart: ∀(i j:Nat) bi bj,y.1[i]? =some bi→y.1[j]? =some bj→bi.1=bj.1→i=j
 done: ∀(j:Nat) b e,j<n→y.1[j]? =some b→y.2[j]? =some e→Es p.2.2.1 y.1 b (sy p.2.2.1 b.2.1) e
 cur: ∀b e,y.1[n]? =some b→y.2[n]? =some e→Es p.2.2.1 y.1 b syms e
 fresh: ∀(j:Nat) e,n<j→y.2[j]? =some e→e= []
theorem Es.up {R:Rl} {B B':List dtK} {b:dtK} {syms:List Int} {e:List Edge} (H:Es R B b syms e) (hB: ∀(j:Nat) x,B[j]? =some x→B'[j]? =some x):Es R B' b syms e:=
 ⟨H.1,fun x hx=>by obtain ⟨t,bt,h1,h2,h3,h4⟩:=H.2 x hx; exact ⟨t,bt,h1,h2,hB t bt h3,h4⟩⟩
theorem DW {α:Type} {l:List α} {x y:α} {j:Nat} (h:l[j]? =some y):(l++ [x])[j]? =some y:=by
 rw [List.getElem?_append_left (List.getElem?_eq_some_iff.1 h).1]; exact h
theorem Ct {α:Type} {l:List α} {y:α} {j:Nat} (h:l[j]? =some y):j<l.length:=(List.getElem?_eq_some_iff.1 h).1
theorem Inv.grow {p:Au} {n:Nat} {syms:List Int} {B:List dtK} {E:List (List Edge)} (H:Inv p n syms (B,E)) (hn:n<B.length) {x:dtK} :(E++ [[]]).length=(B++ [x]).length∧(B++ [x])[0]? =some (k0,clo p k0, -1, -1)∧
 (∀(j:Nat) b e,j<n→(B++ [x])[j]? =some b→(E++ [[]])[j]? =some e→Es p.2.2.1 (B++ [x]) b (sy p.2.2.1 b.2.1) e)∧
 (∀b e,(B++ [x])[n]? =some b→(E++ [[]])[n]? =some e→Es p.2.2.1 (B++ [x]) b syms e)∧(∀(j:Nat) e,n<j→(E++ [[]])[j]? =some e→e= []):=by
 have hl:=H.len
 dsimp only at hl
 refine ⟨by simp [hl],DW H.zero,fun j b e hj hb he=> ?_,fun b e hb he=> ?_,fun j e hj he=> ?_⟩
 ·rw [List.getElem?_append_left (by omega)] at hb he
  exact (H.done j b e hj hb he).up fun _ _ h=>DW h
 ·rw [List.getElem?_append_left (by omega)] at hb he
  exact (H.cur b e hb he).up fun _ _ h=>DW h
 ·rcases DT he with h | ⟨_,h⟩
  ·exact H.fresh j e hj h
  ·exact h
theorem Inv.edge {p:Au} (V:VPp p) {n:Nat} {syms:List Int} {B:List dtK} {E:List (List Edge)} (H:Inv p n syms (B,E)) {b:dtK} (hb:B[n]? =some b) {s:Int} (hs:s ∈ sy p.2.2.1 b.2.1):Inv p n (syms++ [s]) (Er p b n (B,E) s):=by
 have hnl:=Ct hb
 have hl:=H.len
 dsimp only at hl
 obtain ⟨e,he⟩: ∃e,E[n]? =some e:=⟨_,List.getElem?_eq_getElem (by omega)⟩
 obtain ⟨hg,hc⟩:=H.wf b (List.mem_of_getElem? hb)
 obtain ⟨_,_,hgc,_⟩:=IV V hg
 obtain ⟨s0,xs,hxs,hxe⟩:=IT.1 hs
 have hne: ∀y ∈ nx p.2.2.1 b.2.1 s,1≤y.2:=fun y hy=>(MJ V (l:=b.2.1) (by rw [hc]; exact hgc.ok) s0 y hy).2
 have hnn: ∃y,y ∈ nx p.2.2.1 b.2.1 s:=⟨_,HY.2 ⟨xs,hxs,hxe,rfl⟩⟩
 have hzero:nx p.2.2.1 b.2.1 s ≠ k0:=fun h=>by
  obtain ⟨y,hy⟩:=hnn
  have:=hne y hy
  rw [h] at hy
  have:=List.mem_singleton.1 hy
  subst this
  dsimp only at *
  omega
 have hcur:=H.cur b e hb he
 unfold Er
 rcases Hq p B (nx p.2.2.1 b.2.1 s) (n:Int) s with ⟨i,bi,h1,h2,h3⟩ | ⟨h1,h2⟩
 ·dsimp only
  rw [h1]
  dsimp only
  have hgE:D0 E B.length B.length=E:=by unfold D0; rw [if_pos rfl]
  rw [hgE,he,Option.getD_some]
  have hi1:1≤i:=by
   rcases Nat.eq_zero_or_pos i with h | h
   ·subst h
    have:=H.zero
    dsimp only at this
    rw [h2] at this
    cases this
    exact absurd h3.symm hzero
   ·exact h
  refine ⟨H.wf,by simp [hl],H.zero,fun j b' hj hb'=> ?_,H.apart,fun j b' e' hj hb' he'=> ?_,fun b' e' hb' he'=> ?_,fun j e' hj he'=> ?_⟩
  ·obtain ⟨f,bf,ef,g1,g2,g3,g4,g5,g6,g7⟩:=H.from_ j b' hj hb'
   dsimp only at g3 g6 ⊢
   by_cases hf:f=n
   ·subst hf
    rw [he] at g6
    cases g6
    exact ⟨f,bf,_,g1,g2,g3,g4,g5,List.getElem?_set_self (by omega),List.mem_append_left _ g7⟩
   ·exact ⟨f,bf,ef,g1,g2,g3,g4,g5,by rw [List.getElem?_set_ne (fun h=>hf h.symm)]; exact g6,g7⟩
  ·dsimp only at he'
   rw [List.getElem?_set_ne (by omega)] at he'
   exact H.done j b' e' hj hb' he'
  ·dsimp only at he' hb'
   rw [List.getElem?_set_self (by omega)] at he'
   rw [hb] at hb'
   cases he'; cases hb'
   refine ⟨by rw [List.map_append,hcur.1]; rfl,fun x hx=> ?_⟩
   rcases List.mem_append.1 hx with h | h
   ·exact hcur.2 x h
   ·obtain rfl:=List.mem_singleton.1 h
    exact ⟨i,bi,rfl,hi1,h2,h3⟩
  ·dsimp only at he'
   rw [List.getElem?_set_ne (by omega)] at he'
   exact H.fresh j e' hj he'
 ·dsimp only
  rw [h1]
  dsimp only
  have hgE:D0 E B.length (B++ [(nx p.2.2.1 b.2.1 s,clo p (nx p.2.2.1 b.2.1 s),(n:Int),s)]).length=E++ [[]] :=by unfold D0; rw [if_neg (by simp)]
  have he1:(E++ [[]])[n]? =some e:=DW he
  rw [hgE,he1,Option.getD_some]
  obtain ⟨q1,q2,q3,q4,q5⟩:=H.grow hnl (x:=(nx p.2.2.1 b.2.1 s,clo p (nx p.2.2.1 b.2.1 s),(n:Int),s))
  have hgk:IU p.2.2.1 (nx p.2.2.1 b.2.1 s):=⟨fun y hy=>(MJ V (l:=b.2.1) (by rw [hc]; exact hgc.ok) s0 y hy).1,M7 (by rw [hc]; exact hgc.up) s⟩
  generalize hX:(nx p.2.2.1 b.2.1 s,clo p (nx p.2.2.1 b.2.1 s),(n:Int),s)=X at *
  have X1:X.1=nx p.2.2.1 b.2.1 s:=by rw [← hX]
  have hlast:(B++ [X])[B.length]? =some X:=by rw [List.getElem?_append_right (Nat.le_refl _),Nat.sub_self]; rfl
  refine ⟨fun b' hb'=> ?_,by simp [hl],q2,fun j b' hj hb'=> ?_,fun i j bi bj hi hj hij=> ?_,fun j b' e' hj hb' he'=> ?_,fun b' e' hb' he'=> ?_,fun j e' hj he'=> ?_⟩
  ·rcases List.mem_append.1 hb' with h | h
   ·exact H.wf b' h
   ·obtain rfl:=List.mem_singleton.1 h
    rw [← hX]
    exact ⟨hgk,rfl⟩
  ·dsimp only at hb' ⊢
   rcases DT hb' with h | ⟨hj',rfl⟩
   ·obtain ⟨f,bf,ef,g1,g2,g3,g4,g5,g6,g7⟩:=H.from_ j b' hj h
    dsimp only at g3 g6 ⊢
    by_cases hf:f=n
    ·subst hf
     rw [he] at g6
     cases g6
     exact ⟨f,bf,_,g1,g2,DW g3,g4,g5,List.getElem?_set_self (by simp; omega),List.mem_append_left _ g7⟩
    ·exact ⟨f,bf,ef,g1,g2,DW g3,g4,g5,by rw [List.getElem?_set_ne (fun h=>hf h.symm)]; exact DW g6,g7⟩
   ·subst hj'
    refine ⟨n,b,_,hnl,by rw [← hX],DW hb,by rw [← hX],by rw [← hX]; exact hs,List.getElem?_set_self (by simp; omega),List.mem_append_right _ ?_⟩
    rw [← hX]
    exact List.mem_singleton.2 rfl
  ·dsimp only at hi hj
   rcases DT hi with a | ⟨a,a'⟩ <;>rcases DT hj with c | ⟨c,c'⟩
   ·exact H.apart i j bi bj a c hij
   ·rw [c',X1] at hij
    exact absurd hij (h2 bi (List.mem_of_getElem? a))
   ·rw [a',X1] at hij
    exact absurd hij.symm (h2 bj (List.mem_of_getElem? c))
   ·omega
  ·dsimp only at he' hb'
   rw [List.getElem?_set_ne (by omega)] at he'
   exact q3 j b' e' hj hb' he'
  ·dsimp only at he' hb'
   rw [List.getElem?_set_self (by simp; omega)] at he'
   rw [DW hb] at hb'
   cases he'; cases hb'
   have hc2:=q4 b e (DW hb) he1
   refine ⟨by rw [List.map_append,hc2.1]; rfl,fun x hx=> ?_⟩
   rcases List.mem_append.1 hx with h | h
   ·exact hc2.2 x h
   ·obtain rfl:=List.mem_singleton.1 h
    exact ⟨B.length,X,rfl,by omega,hlast,X1⟩
  ·dsimp only at he'
   rw [List.getElem?_set_ne (by omega)] at he'
   exact q5 j e' hj he'
theorem Iy {p:Au} {b:dtK} {n:Nat} {s:Int} (y:BE): ∃l,(Er p b n y s).1=y.1++l:=by
 unfold Er
 rcases Hq p y.1 (nx p.2.2.1 b.2.1 s) (n:Int) s with ⟨i,bi,h1,_⟩ | ⟨h1,_⟩
 ·rw [h1]; exact ⟨[],by simp⟩
 ·rw [h1]; exact ⟨_,rfl⟩
theorem GW {p:Au} {b:dtK} {n:Nat} : ∀(l:List Int) (y:BE),∃m,(IW p b n l y).1=y.1++m:=by
 intro l
 induction l with
 | nil=>intro y; exact ⟨[],by simp [IW]⟩
 | cons s l ih=>
  intro y
  obtain ⟨m1,h1⟩:=Iy (p:=p) (b:=b) (n:=n) (s:=s) y
  obtain ⟨m2,h2⟩:=ih (Er p b n y s)
  exact ⟨m1++m2,by rw [← List.append_assoc,← h1]; exact h2⟩
theorem Inv.fold {p:Au} (V:VPp p) {n:Nat} {b:dtK} : ∀(l:List Int) {syms:List Int} {y:BE},Inv p n syms y→y.1[n]? =some b→(∀s ∈ l,s ∈ sy p.2.2.1 b.2.1)→Inv p n (syms++l) (IW p b n l y):=by
 intro l
 induction l with
 | nil=>intro syms y H hb _; rw [List.append_nil]; exact H
 | cons s l ih=>
  intro syms y H hb hl
  obtain ⟨B,E⟩:=y
  have h1:=H.edge V hb (hl s (by simp))
  obtain ⟨m,hm⟩:=Iy (p:=p) (b:=b) (n:=n) (s:=s) (B,E)
  have h2:=ih h1 (by rw [hm,List.getElem?_append_left (Ct hb)]; exact hb) (fun x hx=>hl x (by simp [hx]))
  rw [List.append_assoc] at h2
  exact h2
theorem Inv.next {p:Au} {n:Nat} {y:BE} {b:dtK} (hb:y.1[n]? =some b) (H:Inv p n (sy p.2.2.1 b.2.1) y):Inv p (n+1) [] y:=by
 refine ⟨H.wf,H.len,H.zero,H.from_,H.apart,fun j b' e hj hb' he=> ?_,fun b' e hb' he=> ?_,fun j e hj he=>H.fresh j e (by omega) he⟩
 ·rcases Nat.lt_succ_iff_lt_or_eq.1 hj with h | rfl
  ·exact H.done j b' e h hb' he
  ·rw [hb] at hb'
   cases hb'
   exact H.cur b e hb he
 ·have:=H.fresh (n+1) e (by omega) he
  subst this
  exact ⟨rfl,by simp⟩
theorem Inv.skip {p:Au} {n:Nat} {syms:List Int} {y:BE} (hn:y.1.length≤n) (H:Inv p n syms y) (m:Nat) (hm:n≤m):Inv p m [] y:=by
 have hl:=H.len
 refine ⟨H.wf,H.len,H.zero,H.from_,H.apart,fun j b e hj hb he=>H.done j b e (by have:=Ct hb; omega) hb he,fun b e hb he=> ?_,fun j e hj he=> ?_⟩
 ·have:=Ct hb; omega
 ·have:=Ct he; omega
theorem JJ {p:Au} (V:VPp p) (hp:1≤p.2.2.1.length): ∀n,Inv p n [] (stM p n):=by
 intro n
 induction n with
 | zero=>
  have hg:IU p.2.2.1 k0:=⟨fun x hx=>by
   obtain rfl:=List.mem_singleton.1 hx
   exact ⟨by decide,by decide,p.2.2.1[0],List.getElem?_eq_getElem (by omega),by simp⟩,by simp⟩
  have one: ∀(j:Nat) b,(stM p 0).1[j]? =some b→j=0:=fun j b h=>by
   have:=Ct h
   simp [stM] at this
   exact this
  refine ⟨fun b hb=> ?_,rfl,rfl,fun j b hj hb=> ?_,fun i j bi bj hi hj _=>by rw [one i bi hi,one j bj hj],fun j b e hj=>by omega,fun b e hb he=> ?_,fun j e hj he=> ?_⟩
  ·have:b=(k0,clo p k0, -1, -1):=List.mem_singleton.1 hb
   subst this
   exact ⟨hg,rfl⟩
  ·have:=one j b hb; omega
  ·have:e= [] :=by simpa [stM] using he.symm
   subst this
   exact ⟨rfl,by simp⟩
  ·have:=Ct he
   simp [stM] at this
   omega
 | succ n ih=>
  unfold stM
  cases h:(stM p n).1[n]? with
  | none=>exact ih.skip (List.getElem?_eq_none_iff.1 h) (n+1) (by omega)
  | some b=>
   have h2:=ih.fold V (sy p.2.2.1 b.2.1) h (fun s hs=>hs)
   refine Inv.next (b:=b) ?_ h2
   obtain ⟨m,hm⟩:=GW (p:=p) (b:=b) (n:=n) (sy p.2.2.1 b.2.1) (stM p n)
   rw [hm,List.getElem?_append_left (Ct h)]
   exact h
theorem Mv {p:Au} (V:VPp p) (hp:1≤p.2.2.1.length) {n m:Nat} {b:dtK} (hb:(stM p n).1[n]? =some b):Inv p n ((sy p.2.2.1 b.2.1).take m) (mid p n m)∧(mid p n m).1[n]? =some b:=by
 have H:=(JJ V hp n).fold V ((sy p.2.2.1 b.2.1).take m) hb (fun s hs=>List.mem_of_mem_take hs)
 obtain ⟨l,hl⟩:=GW (p:=p) (b:=b) (n:=n) ((sy p.2.2.1 b.2.1).take m) (stM p n)
 unfold mid
 rw [hb]
 exact ⟨H,by rw [hl,List.getElem?_append_left (Ct hb)]; exact hb⟩
theorem ML {p:Au} {n m:Nat} {b:dtK} {s:Int} (hb:(stM p n).1[n]? =some b) (hs:(sy p.2.2.1 b.2.1)[m]? =some s):mid p n (m+1)=Er p b n (mid p n m) s:=by
 unfold mid
 rw [hb]
 dsimp only
 rw [List.take_add_one,hs]
 unfold IW
 rw [List.foldl_append]
 rfl
theorem Ks {p:Au} {n:Nat} {b:dtK} (hb:(stM p n).1[n]? =some b):mid p n (sy p.2.2.1 b.2.1).length=stM p (n+1):=by
 unfold mid
 rw [stM]
 rw [hb]
 dsimp only
 rw [List.take_of_length_le (Nat.le_refl _)]
theorem Mw (p:Au) (n:Nat): ∃l,(stM p (n+1)).1=(stM p n).1++l:=by
 rw [stM]
 cases h:(stM p n).1[n]? with
 | none=>exact ⟨[],by simp⟩
 | some b=>exact GW _ _
theorem MM (p:Au) {n m:Nat} (h:n≤m): ∃l,(stM p m).1=(stM p n).1++l:=by
 induction h with
 | refl=>exact ⟨[],by simp⟩
 | @step m _ ih=>
  obtain ⟨l,hl⟩:=ih
  obtain ⟨l',hl'⟩:=Mw p m
  exact ⟨l++l',by rw [hl',hl,List.append_assoc]⟩
theorem Kc {p:Au} {n:Nat} (h:(stM p n).1.length≤n) {m:Nat} (hm:n≤m):stM p m=stM p n:=by
 induction hm with
 | refl=>rfl
 | @step m hm ih=>
  rw [stM,ih,List.getElem?_eq_none (Nat.le_trans h hm)]
theorem Kt {α:Type} {o:Option α} {P:α→Prop} (h:Ok (o.bind some) P):Ok o P:=by
 cases o with
 | none=>exact h
 | some x=>exact h
def tot (B:List dtK):Nat:=(B.map (·.2.1.length)).sum
theorem Hw (B C:List dtK):tot (B++C)=tot B+tot C:=by unfold tot; rw [List.map_append,List.sum_append]
def Fit (L M:Int) (B:List dtK):Prop:=((B.length:Nat):Int) ≤L∧((tot B:Nat):Int) ≤M
theorem Fit.of_app {L M:Int} {B C:List dtK} (h:Fit L M (B++C)):Fit L M B:=by
 unfold Fit at *
 rw [Hw,List.length_append] at h
 omega
structure Ht (L M:Int) (fd:Fd) (rm cl:B6) (B:List dtK):Prop where
 map: ∀k,I64 k→Cz (KZ k) fd=(B.findIdx? (fun b=>decide (b.1=k))).map (fun n:Nat=>(n:Int))
 rlim:rm.1=L
 rused:rm.2.1=((B.length:Nat):Int)
 clim:cl.1=M
 cused:cl.2.1=((tot B:Nat):Int)
theorem Ku {m:B6} {n:Int} (h0:0≤n) (h1:n≤1000000) (h2:0≤m.2.1) (h3:m.2.1≤m.1) (h4:m.1≤1099511627776):
 Ok (Bo m n) fun t=>(n≤m.1 - m.2.1→t.1=0∧t.2.1=m.1∧t.2.2.1=m.2.1+n)∧(m.1 - m.2.1<n→t.1=5∧t.2=m):=by
 unfold Bo CQ
 refine AT (decide_eq_false (by omega)) (AI rfl ?_)
 rw [w64 (show -9223372036854775808≤m.1 - m.2.1 by omega) (by omega),w64 (show -9223372036854775808≤m.2.1+n by omega) (by omega)]
 refine Ah (fun hc=>AD ?_) fun hc=>AD ?_
 ·have:=of_decide_eq_true hc
  exact ⟨fun h=>by omega,fun _=>⟨rfl,rfl⟩⟩
 ·have:=of_decide_eq_false hc
  exact ⟨fun _=>⟨rfl,rfl,rfl⟩,fun h=>by omega⟩
theorem LV {B:List dtK} {x:dtK} {k:List Item} (h: ∀b ∈ B,b.1 ≠ x.1):(B++ [x]).findIdx? (fun b=>decide (b.1=k))=if k=x.1 then some B.length else B.findIdx? (fun b=>decide (b.1=k)):=by
 rw [List.findIdx?_append]
 by_cases e:k=x.1
 ·rw [if_pos e]
  have:B.findIdx? (fun b=>decide (b.1=k))=none:=List.findIdx?_eq_none_iff.2 fun b hb=>decide_eq_false (by rw [e]; exact h b hb)
  rw [this]
  simp [e]
 ·rw [if_neg e]
  have: [x].findIdx? (fun b=>decide (b.1=k))=none:=List.findIdx?_eq_none_iff.2 fun b hb=>decide_eq_false (by
   obtain rfl:=List.mem_singleton.1 hb
   exact fun h=>e h.symm)
  rw [this]
  simp
theorem MN {p:Au} (V:VPp p) {L M:Int} {fd:Fd} {rm cl:B6} {B:List dtK} {k:List Item} {fr wi:Int} (C:Ht L M fd rm cl B) (F:Fit L M B) (hL:L≤1099511627776) (hM:M≤1099511627776) (g:IU p.2.2.1 k) (hB:B.length<1073741824):
 Ok (LQ p fd B rm cl k fr wi) fun r=>r.1=(((EL p B k fr wi).1:Nat):Int)∧r.2.2.2.1=(EL p B k fr wi).2∧(Fit L M (EL p B k fr wi).2→r.2.1=0∧Ht L M r.2.2.1 r.2.2.2.2.1 r.2.2.2.2.2 (EL p B k fr wi).2)∧(¬Fit L M (EL p B k fr wi).2→r.2.1=5):=by
 have hi:=OkI.i64 V g.ok
 have hkl:=GV V g.ok (Lt.nodup g.up)
 obtain ⟨c1,c2,c3,c4⟩:=IV V g
 have hm:=C.map k hi
 unfold LQ
 refine AI (NY hi (by omega)) ?_
 unfold EL
 cases hf:B.findIdx? (fun b=>decide (b.1=k)) with
 | some i=>
  rw [hf] at hm
  rw [hm]
  exact As rfl (AD ⟨rfl,rfl,fun _=>⟨rfl,C⟩,fun h=>absurd F h⟩)
 | none=>
  rw [hf] at hm
  have hno: ∀b ∈ B,b.1 ≠ k:=fun b hb=>of_decide_eq_false (List.findIdx?_eq_none_iff.1 hf b hb)
  rw [hm]
  have hLB:=F.1
  have hMB:=F.2
  refine AT rfl (AI c1 ?_)
  refine AM (Ku (m:=rm) (n:=1) (by decide) (by decide) (by rw [C.rused]; omega) (by rw [C.rused,C.rlim]; exact hLB) (by rw [C.rlim]; exact hL)) fun t ht=> ?_
  rw [C.rused,C.rlim] at ht
  have htot:tot (B++ [(k,clo p k,fr,wi)])=tot B+(clo p k).length:=by rw [Hw]; unfold tot; simp
  have hlen:(B++ [(k,clo p k,fr,wi)]).length=B.length+1:=by simp
  refine AM (Q:=fun (z:Int×B6)=>(Fit L M (B++ [(k,clo p k,fr,wi)])→t.1=0∧z.1=0∧z.2.1=M∧z.2.2.1=((tot B+(clo p k).length:Nat):Int))∧(¬Fit L M (B++ [(k,clo p k,fr,wi)])→z.1=5)) (Ah (fun hc=> ?_) fun hc=>AD ?_) fun z hz=> ?_
  ·refine AM (Ku (m:=cl) (n:=(((clo p k).length:Nat):Int)) (by omega) (by omega) (by rw [C.cused]; omega) (by rw [C.cused,C.clim]; exact hMB) (by rw [C.clim]; exact hM)) fun u hu=>AD ?_
   rw [C.cused,C.clim] at hu
   unfold Fit
   rw [htot,hlen]
   refine ⟨fun h=>⟨eq_of_beq hc,(hu.1 (by omega)).1,(hu.1 (by omega)).2.1,by rw [(hu.1 (by omega)).2.2]; omega⟩,fun h=> ?_⟩
   rcases Int.lt_or_le (M - (tot B:Int)) ((clo p k).length:Int) with q | q
   ·exact (hu.2 q).1
   ·exfalso
    refine h ⟨?_,by omega⟩
    rcases Int.lt_or_le (L - (B.length:Int)) 1 with w | w
    ·have:=(ht.2 w).1
     rw [this] at hc
     simp at hc
    ·omega
  ·unfold Fit
   rw [htot,hlen]
   have hc: ¬t.1=0:=by simpa using hc
   have hw:L - (B.length:Int) <1:=by
    rcases Int.lt_or_le (L - (B.length:Int)) 1 with w | w
    ·exact w
    ·exact absurd (ht.1 w).1 hc
   exact ⟨fun h=>by omega,fun _=>(ht.2 hw).1⟩
  ·refine Bg (by simp; omega) (AD ⟨?_,rfl,fun hF=> ?_,fun hF=>hz.2 hF⟩)
   ·dsimp only
    rw [hlen,w64 (by omega) (by omega)]
    omega
   ·obtain ⟨z1,z2,z3,z4⟩:=hz.1 hF
    have hF1:1≤L - (B.length:Int):=by unfold Fit at hF; rw [hlen] at hF; omega
    obtain ⟨t1,t2,t3⟩:=ht.1 hF1
    refine ⟨z2,fun k' hk'=> ?_,t2,by rw [t3,hlen]; omega,z3,by rw [z4,htot]⟩
    rw [Iu,LV (x:=(k,clo p k,fr,wi)) hno]
    by_cases e:k'=k
    ·rw [if_pos (by rw [e]),if_pos e]; rfl
    ·rw [if_neg (fun h=>e (MI h)),if_neg e]
     exact C.map k' hk'
theorem Mx {p:Au} (V:VPp p) {L M:Int} {fd:Fd} {rm cl:B6} {B:List dtK} {E:List (List Edge)} {n:Nat} {syms:List Int} {b:dtK} {s:Int} (H:Inv p n syms (B,E)) (hb:B[n]? =some b) (hs:s ∈ sy p.2.2.1 b.2.1) (hsl:syms.length≤1000000)
 (C:Ht L M fd rm cl B) (F:Fit L M B) (hL:L≤1099511627776) (hM:M≤1099511627776) (hB:B.length<1073741824):
 Ok (Ko p b (n:Int) s (fd,B,E,rm,cl)) fun e=>(Fit L M (Er p b n (B,E) s).1→ ∃fd' rm' cl',e= .next (fd',(Er p b n (B,E) s).1,(Er p b n (B,E) s).2,rm',cl')∧Ht L M fd' rm' cl' (Er p b n (B,E) s).1)∧(¬Fit L M (Er p b n (B,E) s).1→e= .done 5):=by
 obtain ⟨hg,hc⟩:=H.wf b (List.mem_of_getElem? hb)
 obtain ⟨_,_,hgc,hlc⟩:=IV V hg
 rw [← hc] at hgc hlc
 have s0:=(IT.1 hs).1
 have hgk:IU p.2.2.1 (nx p.2.2.1 b.2.1 s):=⟨fun y hy=>(MJ V hgc.ok s0 y hy).1,M7 hgc.up s⟩
 have hl:=H.len
 dsimp only at hl
 have hnl:=Ct hb
 obtain ⟨e,he⟩: ∃e,E[n]? =some e:=⟨_,List.getElem?_eq_getElem (by omega)⟩
 have hel:e.length=syms.length:=by rw [← (H.cur b e hb he).1,List.length_map]
 unfold Ko
 refine AI (Mu V hgc.ok (by omega) s) ?_
 refine AM (MN V C F hL hM hgk hB (fr:=(n:Int)) (wi:=s)) fun r hr=> ?_
 obtain ⟨r1,r2,r3,r4⟩:=hr
 obtain ⟨ri,re,rfd,rB,rrm,rcl⟩:=r
 dsimp only at r1 r2 r3 r4 ⊢
 subst r1 r2
 unfold Er
 dsimp only
 by_cases hF:Fit L M (EL p B (nx p.2.2.1 b.2.1 s) (n:Int) s).2
 ·obtain ⟨h1,h2⟩:=r3 hF
  subst h1
  have hgr:(D0 E B.length (EL p B (nx p.2.2.1 b.2.1 s) (n:Int) s).2.length)[n]? =some e:=by
   unfold D0
   split
   ·exact he
   ·exact DW he
  refine AT rfl (AX hgr (Bg (by simp; omega) (HM (by omega) (by have:=Ct hgr; omega) (AD ⟨fun _=>⟨rfd,rrm,rcl,?_,h2⟩,fun h=>absurd hF h⟩))))
  rw [hgr,Int.toNat_natCast]
  rfl
 ·have h1:=r4 hF
  subst h1
  exact As rfl (AD ⟨fun h=>absurd h hF,fun _=>rfl⟩)
def MO (p:Au) (L:Int):Prop:= ∀n m,(((mid p n m).1.length:Nat):Int) ≤L→(mid p n m).1.length<1073741824
theorem MP (p:Au) (n m:Nat) {b:dtK} (hb:(stM p n).1[n]? =some b): ∃l,(stM p (n+1)).1=(mid p n m).1++l:=by
 rw [← Ks hb]
 unfold mid
 rw [hb]
 dsimp only
 rw [List.take_of_length_le (Nat.le_refl _)]
 conv=>rhs; intro l; lhs; rw [← List.take_append_drop m (sy p.2.2.1 b.2.1)]
 unfold IW
 rw [List.foldl_append]
 exact GW _ _
theorem MQ {p:Au} (V:VPp p) (hp:1≤p.2.2.1.length) {L M:Int} {fd:Fd} {rm cl:B6} {n:Nat} {b:dtK} (hb:(stM p n).1[n]? =some b) (C:Ht L M fd rm cl (stM p n).1) (F:Fit L M (stM p n).1) (hL:L≤1099511627776) (hM:M≤1099511627776) (hR:MO p L):
 Ok (JF p b (n:Int) (fd,(stM p n).1,(stM p n).2,rm,cl)) fun e=>(Fit L M (stM p (n+1)).1→ ∃fd' rm' cl',e= .next (fd',(stM p (n+1)).1,(stM p (n+1)).2,rm',cl')∧Ht L M fd' rm' cl' (stM p (n+1)).1)∧(¬Fit L M (stM p (n+1)).1→e= .done 5):=by
 have H:=JJ V hp n
 obtain ⟨hg,hc⟩:=H.wf b (List.mem_of_getElem? hb)
 obtain ⟨_,_,hgc,hlc⟩:=IV V hg
 rw [← hc] at hgc hlc
 have hsl:=MK p.2.2.1 b.2.1
 unfold JF
 refine AI (Kb hgc.ok (by omega)) (Kt ?_)
 have hm0:mid p n 0=stM p n:=by unfold mid; rw [hb]; rfl
 refine IN (fun m (y:BSt)=>y.2.1=(mid p n m).1∧y.2.2.1=(mid p n m).2∧Fit L M (mid p n m).1∧Ht L M y.1 y.2.2.2.1 y.2.2.2.2 (mid p n m).1) (fun q=>q=5∧ ¬Fit L M (stM p (n+1)).1) (by omega) ⟨by rw [hm0],by rw [hm0],by rw [hm0]; exact F,by rw [hm0]; exact C⟩ (fun m y hm hy=> ?_) (fun y hy=>AD ?_) fun q hq=>AD ⟨fun h=>absurd h hq.2,fun _=>by rw [hq.1]⟩
 ·obtain ⟨fd,B,E,rm,cl⟩:=y
  obtain ⟨e1,e2,hF,hC⟩:=hy
  dsimp only at e1 e2 hC ⊢
  obtain ⟨hI,hbm⟩:=Mv V hp hb (m:=m)
  have hs:=List.getElem?_eq_getElem hm
  have hsm:=List.getElem_mem hm
  have hsucc:=ML hb hs
  have hroom:=hR n m hF.1
  refine AX hs ?_
  subst e1 e2
  refine (Mx (B:=(mid p n m).1) (E:=(mid p n m).2) V hI hbm hsm (by rw [List.length_take]; omega) hC hF hL hM hroom).mono fun e he=> ?_
  have e3:Er p b n ((mid p n m).1,(mid p n m).2) (sy p.2.2.1 b.2.1)[m] =mid p n (m+1):=hsucc.symm
  rw [e3] at he
  by_cases hF2:Fit L M (mid p n (m+1)).1
  ·obtain ⟨fd',rm',cl',h1,h2⟩:=he.1 hF2
   exact .inl ⟨_,h1,rfl,rfl,hF2,h2⟩
  ·refine .inr ⟨5,he.2 hF2,rfl,fun h=>hF2 ?_⟩
   obtain ⟨l,hl⟩:=MP p n (m+1) hb
   rw [hl] at h
   exact h.of_app
 ·obtain ⟨fd,B,E,rm,cl⟩:=y
  obtain ⟨e1,e2,hF,hC⟩:=hy
  dsimp only at e1 e2 hC
  rw [Ks hb] at e1 e2 hF hC
  subst e1 e2
  exact ⟨fun _=>⟨fd,rm,cl,rfl,hC⟩,fun h=>absurd hF h⟩
theorem LW {p:Au} (V:VPp p) (hp:1≤p.2.2.1.length) {L M:Int} {fd:Fd} {rm cl:B6} (C:Ht L M fd rm cl (stM p 0).1) (F:Fit L M (stM p 0).1) (hL:L≤1099511627776) (hM:M≤1099511627776) (hR:MO p L):
 Ok (Hv p (fd,(stM p 0).1,(stM p 0).2,rm,cl)) fun e=>(∃n fd' rm' cl',e= .next (fd',(stM p n).1,(stM p n).2,rm',cl')∧(stM p n).1.length≤n∧Fit L M (stM p n).1∧Ht L M fd' rm' cl' (stM p n).1)∨(e= .done 5∧ ∃n,¬Fit L M (stM p n).1):=by
 unfold Hv
 refine Kt (Eo (fun (z:Int×BSt)=> ∃n:Nat,z.1=(n:Int)∧z.2.2.1=(stM p n).1∧z.2.2.2.1=(stM p n).2∧Fit L M (stM p n).1∧Ht L M z.2.1 z.2.2.2.2.1 z.2.2.2.2.2 (stM p n).1) (fun z=>(L+1 - z.1).toNat) (fun e=>(∃n fd' rm' cl',e= .next (fd',(stM p n).1,(stM p n).2,rm',cl')∧(stM p n).1.length≤n∧Fit L M (stM p n).1∧Ht L M fd' rm' cl' (stM p n).1)∨(e= .done 5∧ ∃n,¬Fit L M (stM p n).1)) ⟨0,rfl,rfl,rfl,F,C⟩ (fun z hz=> ?_) fun e he=>AD he)
 obtain ⟨i,fd,B,E,rm,cl⟩:=z
 obtain ⟨n,e0,e1,e2,hF,hC⟩:=hz
 dsimp only at e0 e1 e2 hC ⊢
 subst e0 e1 e2
 refine Ah (fun hc=> ?_) fun hc=>C5 (.inl ⟨n,fd,rm,cl,rfl,?_,hF,hC⟩)
 ·have hc:=of_decide_eq_true hc
  have hn:n< (stM p n).1.length:=by omega
  have hb:=List.getElem?_eq_getElem hn
  refine AX hb (AM (MQ V hp hb hC hF hL hM hR) fun e he=> ?_)
  have hFL:=hF.1
  by_cases hF2:Fit L M (stM p (n+1)).1
  ·obtain ⟨fd',rm',cl',h1,h2⟩:=he.1 hF2
   subst h1
   have hw:IntKind.wrap .i64 ((n:Int) +1)=((n+1:Nat):Int):=by rw [w64 (by omega) (by omega)]; omega
   refine DV ⟨⟨n+1,hw,rfl,rfl,hF2,h2⟩,?_⟩
   dsimp only
   rw [hw]
   omega
  ·have:=he.2 hF2
   subst this
   exact C5 (.inr ⟨rfl,n+1,hF2⟩)
 ·have:=of_decide_eq_false hc
  omega
def C6 (n:Int):Int:=if n<0 then 0 else if n>1099511627776 then 1099511627776 else n
theorem MR (n:Int):DF n=some (C6 n,0,0):=by
 refine Ok.eq ?_
 unfold DF ER
 refine AI rfl (AD ?_)
 refine Prod.ext ?_ rfl
 dsimp only
 unfold C6
 split<;>split<;>(try split) <;>(try split) <;>omega
theorem Kv (n:Int):0≤C6 n∧C6 n≤1099511627776:=by unfold C6; split<;>(try split) <;>omega
noncomputable def HZ (p:Au) (n:Nat):EP:=(p.1,p.2.1,p.2.2.1,p.2.2.2.1,p.2.2.2.2.1,p.2.2.2.2.2,C4 (stM p n).1 (stM p n).2,((tot (stM p n).1:Nat):Int))
theorem Jw {p:Au} (V:VPp p) (hp:1≤p.2.2.1.length) {st it:Int} (hR:MO p (C6 st)):
 Ok (CN p st it) fun r=>(∃n,(stM p n).1.length≤n∧Fit (C6 st) (C6 it) (stM p n).1∧r=(some (HZ p n),0))∨(r=(none,5)∧ ∃n,¬Fit (C6 st) (C6 it) (stM p n).1):=by
 unfold CN
 have hs:=Kv st
 have hi:=Kv it
 have hg:=(JJ V hp 0).wf (k0,clo p k0, -1, -1) (List.mem_singleton.2 rfl)
 have C0:Ht (C6 st) (C6 it) [] (C6 st,0,0) (C6 it,0,0) [] :=⟨fun k _=>rfl,rfl,rfl,rfl,rfl⟩
 refine AI (MR st) (AI (MR it) (AM (MN V C0 ⟨hs.1,hi.1⟩ hs.2 hi.2 hg.1 (by simp)) fun r hr=> ?_))
 obtain ⟨r1,r2,r3,r4⟩:=hr
 have e:EL p [] k0 (-1) (-1)=(0,(stM p 0).1):=rfl
 rw [e] at r1 r2 r3 r4
 obtain ⟨ri,re,rfd,rB,rrm,rcl⟩:=r
 dsimp only at r1 r2 r3 r4 ⊢
 subst r2
 by_cases hF:Fit (C6 st) (C6 it) (stM p 0).1
 ·obtain ⟨h1,h2⟩:=r3 hF
  subst h1
  refine AT rfl (AM (LW V hp h2 hF hs.2 hi.2 hR) fun e he=> ?_)
  rcases he with ⟨n,fd',rm',cl',rfl,h3,h4,h5⟩ | ⟨rfl,n,hn⟩
  ·refine AI (x:=((tot (stM p n).1:Nat):Int)) (by unfold CR; exact congrArg some h5.cused) (AD (.inl ⟨n,h3,h4,rfl⟩))
  ·exact AD (.inr ⟨rfl,n,hn⟩)
 ·have:=r4 hF
  subst this
  exact As rfl (AD (.inr ⟨rfl,0,hF⟩))
theorem LX {p:Au} (V:VPp p) (hp:1≤p.2.2.1.length) {n:Nat} (hn:(stM p n).1.length≤n) {st it:Int} (hR:MO p (C6 st)):
 (Fit (C6 st) (C6 it) (stM p n).1→CN p st it=some (some (HZ p n),0))∧(¬Fit (C6 st) (C6 it) (stM p n).1→CN p st it=some (none,5)):=by
 obtain ⟨r,h1,h2⟩:=Jw V hp (it:=it) hR
 rw [h1]
 rcases h2 with ⟨m,g1,g2,g3⟩ | ⟨g3,m,g2⟩
 ·have e:stM p m=stM p n:=by
   rcases Nat.le_total n m with q | q
   ·exact Kc hn q
   ·exact (Kc g1 q).symm
  have e2:HZ p m=HZ p n:=by unfold HZ; rw [e]
  rw [e] at g2
  exact ⟨fun _=>by rw [g3,e2],fun h=>absurd g2 h⟩
 ·refine ⟨fun h=>absurd ?_ g2,fun _=>by rw [g3]⟩
  rcases Nat.le_total n m with q | q
  ·rw [Kc hn q]; exact h
  ·obtain ⟨l,hl⟩:=MM p q
   rw [hl] at h
   exact h.of_app
theorem NZ:G6 Tryd.prog 30 30 3 1:=⟨Tryd.underlying30, .inl Tryd.underlying30,⟨Tryd.t3,by kernel_rfl,rfl,⟨_,rfl,rfl⟩,by decide,by decide⟩,by decide⟩
noncomputable def Jx (a:EP) (n:Int):Option (List Int):=
 (BA a n).bind fun x=>
 (loop (σ:=Int×Int×List Int×Int) (β:=List Int) (x.2.2.2.1,x.2.2.2.2,([] :List Int),n) fun z=>
  (cond (decide (z.2.2.2>(0:Int))) (some (decide (z.2.2.2< (((List.length a.2.2.2.2.2.2.1):Nat):Int)))) (some false)).bind fun c=>
  cond c
  ((app z.2.2.1 ([z.2.1] :List Int)).bind fun out=>
   (BA a z.1).bind fun y=>
   some (AR.next (y.2.2.2.1,y.2.2.2.2,out,z.1)))
  (some (AR.done z.2.2.1))).bind fun out=>
 A9 out
set_option maxHeartbeats 4000000 in
theorem MS {φ:AE} {h:AF} {F:List Chk} {a_0:Option Addr} {d:EP} {n_1:Int} (k1:Pt H8 φ a_0 d) (s0:St φ F h) {r:List Int} (hd:Jx d n_1=some r):
 CallsH Tryd.prog 21 [(.pointer a_0),(.int .i64 n_1)] h (BO fun v h'=> ∃ψ:AE,∃y:Option Addr×Nat×Nat,∃l:List Int,Sub φ ψ∧v=((.one (.atom .slice)):Sh).val y∧l=r∧Ro.SliceIs (Ro.int .i64) ψ y l∧St ψ F h'):=by
 refine Aa mixed Tryd.func21 ?_
 rw [F3]
 unfold EX
 unfold Jx at hd
 obtain ⟨x,hx,hd⟩:=bS hd
 refine AK (Bp k1 s0 hx) ?_
 rintro _ h1 ⟨ψ1,t1,l1,l2,l3,le1,rfl,rfl,q1,q2,q3,s1⟩
 refine ⟨t1,rfl,?_⟩
 dsimp only at hd
 refine Ac (vs:= [.slice none 0 0, .slice none 0 0, .slice none 0 0, .int .i64 (0:Int), .int .i64 (0:Int)]) s1 fun r2 h2 s2=> ?_
 refine AJ s2 rfl rfl fun h3 s3=> ?_
 refine AJ s3 rfl rfl fun h4 s4=> ?_
 refine AJ s4 rfl rfl fun h5 s5=> ?_
 refine AJ s5 rfl rfl fun h6 s6=> ?_
 refine AJ s6 rfl rfl fun h7 s7=> ?_
 have s8:=(s7.nil 3 (Ro.int .i64)).at1
 obtain ⟨out,hl,hd⟩:=bS hd
 refine Ad (fun (y:Option Addr×(Option Addr×Nat×Nat)×Int×Unit) w g=> ∃(ψ:AE),Sub φ ψ∧St ψ (cR 3 (Ro.int .i64) y.2.1 g::F) w) (g:=out) ?_ ?_
 ·refine FO hl (fun (y:Option Addr×(Option Addr×Nat×Nat)×Int×Unit) w (g:Int×Int×List Int×Int)=> ∃(ψ:AE) (b:Nat) (u v s:Slc),Sub φ ψ∧y.1=some ⟨b,0,none⟩∧y.2.2.1=g.2.2.2∧St ψ (cW 78 b [sv u,sv v,sv s, .int .i64 g.1, .int .i64 g.2.1] ::cR 3 (Ro.int .i64) y.2.1 g.2.2.1::F) w) (some ⟨r2,0,none⟩,(none,0,0),n_1,()) rfl ⟨ψ1,r2,t1.1,t1.2.1,t1.2.2.1,le1,rfl,rfl,s8⟩ ?_
  rintro ⟨z1,z2,z3,_⟩ w ⟨fr,wi,o,m⟩ e ⟨ψ,b,u,v,s,le,rfl,rfl,s9⟩ hd' hb
  dsimp only at hd' s9 ⊢
  obtain ⟨c,hc,hd'⟩:=bS hd'
  refine Ak (fun (y:Bool×Unit) w' g=>y.1=g∧w'=w) (g:=c) ?_ ?_
  ·refine AH hc rfl (fun _ hc=> ?_) (fun _ hc=> ?_)
   ·obtain ⟨a',vs',e',⟨_,_,rfl,⟨u0,rfl,p0⟩,_,_,rfl,⟨u1,rfl,p1⟩,_,_,rfl,⟨u2,rfl,p2⟩,_,_,rfl,⟨u3,rfl,p3⟩,_,_,rfl,⟨u4,rfl,p4⟩,_,_,rfl,⟨u5,rfl,p5⟩,_,_,rfl,⟨u6,rfl,p6⟩,rfl⟩,hcell⟩:=id k1
    have n6:=p6.length
    refine AG _ e' ?_
    refine AL (x:=u6) (AB (Sub.trans le s9.sub) (hcell.at 6 rfl)) rfl ?_
    obtain rfl:=iS hc
    exact AN (_,()) rfl ⟨by rw [n6],rfl⟩
   ·obtain rfl:=iS hc
    exact AN (_,()) rfl ⟨rfl,rfl⟩
  rintro ⟨z5,_⟩ w' ⟨rfl,rfl⟩
  refine AH hd' rfl (fun _ hd'=> ?_) (fun _ hd'=> ?_)
  ·obtain ⟨o',ho,hd'⟩:=bS hd'
   obtain ⟨y',hy,hd'⟩:=bS hd'
   obtain rfl:=iS hd'
   refine AG _ rfl ?_
   refine AA (x:=wi) s9 rfl ?_
   refine Ac (vs:= [.int .i64 wi]) s9 fun r10 h10 s10=> ?_
   have cw:=St.cells s10
   refine Aq (r:=Ro.int .i64) (ms:= [wi]) NZ s10.tail.at1 rfl cw (.cons (a:= [_]) rfl .nil) rfl ho fun t11 h11 s11=> ?_
   refine AG _ rfl ?_
   refine AA (x:=fr) s11.at1 rfl ?_
   refine AG _ rfl ?_
   refine AA (x:=u) s11.at1 rfl ?_
   refine AA (x:=v) s11.at1 rfl ?_
   refine AA (x:=s) s11.at1 rfl ?_
   refine AA (x:=fr) s11.at1 rfl ?_
   refine AA (x:=wi) s11.at1 rfl ?_
   refine Ac (vs:= [.slice none 0 0, .slice none 0 0, .slice none 0 0, .int .i64 (0:Int), .int .i64 (0:Int)]) s11.at1.tail fun r20 h20 s20=> ?_
   refine AJ s20 rfl rfl fun h21 s21=> ?_
   refine AJ s21 rfl rfl fun h22 s22=> ?_
   refine AJ s22 rfl rfl fun h23 s23=> ?_
   refine AJ s23 rfl rfl fun h24 s24=> ?_
   refine AJ s24 rfl rfl fun h25 s25=> ?_
   refine AK (Bp (k1.mono le) s25 hy) ?_
   rintro _ h26 ⟨ψ2,t21,m1,m2,m3,le2,rfl,rfl,o1,o2,o3,s26⟩
   refine ⟨t21,rfl,?_⟩
   refine AJ s26 rfl rfl fun h27 s27=> ?_
   refine AJ s27 rfl rfl fun h28 s28=> ?_
   refine AJ s28 rfl rfl fun h29 s29=> ?_
   refine AJ s29 rfl rfl fun h30 s30=> ?_
   refine AJ s30 rfl rfl fun h31 s31=> ?_
   exact Ar (some ⟨r20,0,none⟩,t11,fr,()) _ rfl rfl ⟨ψ2,r20,t21.1,t21.2.1,t21.2.2.1,le.trans le2,rfl,rfl,s31⟩
  ·obtain rfl:=iS hd'
   obtain rfl:=hb _ rfl
   exact AO (AS (some ⟨b,0,none⟩,z2,z3,()) rfl ⟨ψ,le,s9.tail⟩)
 rintro ⟨z1,z2,z3,_⟩ w ⟨ψ,le,s9⟩
 dsimp only at s9 ⊢
 refine AK (Ee s9 hd) ?_
 rintro _ h1 ⟨ψ2,_,l,le2,rfl,rfl,s10⟩
 refine ⟨(),rfl,?_⟩
 obtain ⟨ψ3,le3,kk,s11⟩:=St.freezeRow s10
 exact AC ⟨ψ3,z2,l,(le.trans le2).trans le3,rfl,rfl,kk,s11⟩
theorem Pl.vp {nt nl:Nat} {p:Au} (H:Pl nt nl p):VPp p:=by
 have hT:=H.terms.len
 obtain ⟨st,s1,s2,s3⟩:=H.first
 have each: ∀r ∈ p.2.2.1,((nt+1:Nat):Int) ≤r.1∧r.2.1.length≤5∧ ∀s ∈ r.2.1,0≤s:=fun r hr=>by
  obtain ⟨k,hk⟩:=List.getElem?_of_mem hr
  rcases Nat.eq_zero_or_pos k with rfl | h
  ·rw [s3] at hk
   cases hk
   refine ⟨by dsimp only; omega,by simp,fun s hs=> ?_⟩
   have:s=st:=by simpa using hs
   omega
  ·have:=H.rules k r h hk
   exact ⟨this.left.1,this.few,fun s hs=>by have:=this.right s hs; omega⟩
 have:=H.room
 exact ⟨by omega,fun r hr=>by rw [hT]; exact (each r hr).1,fun r hr=>(each r hr).2.2,by omega,fun r hr=>by have:=(each r hr).2.1; omega⟩
theorem Pl.pos {nt nl:Nat} {p:Au} (H:Pl nt nl p):1≤p.2.2.1.length:=H.room.1
structure Fin (p:Au) (B:List dtK) (E:List (List Edge)):Prop where
 wf: ∀b ∈ B,IU p.2.2.1 b.1∧b.2.1=clo p b.1
 len:E.length=B.length
 zero:B[0]? =some (k0,clo p k0, -1, -1)
 from_: ∀(j:Nat) b,1≤j→B[j]? =some b→ ∃(f:Nat) (bf:dtK) (e:List Edge),f<j∧b.2.2.1=(f:Int)∧B[f]? =some bf∧b.1=nx p.2.2.1 bf.2.1 b.2.2.2∧b.2.2.2 ∈ sy p.2.2.1 bf.2.1∧E[f]? =some e∧(b.2.2.2,(j:Int)) ∈ e
 apart: ∀(i j:Nat) bi bj,B[i]? =some bi→B[j]? =some bj→bi.1=bj.1→i=j
 done: ∀(j:Nat) b e,B[j]? =some b→E[j]? =some e→Es p.2.2.1 B b (sy p.2.2.1 b.2.1) e
theorem IX {p:Au} (V:VPp p) (hp:1≤p.2.2.1.length) {n:Nat} (h:(stM p n).1.length≤n):Fin p (stM p n).1 (stM p n).2:=by
 have H:=JJ V hp n
 exact ⟨H.wf,H.len,H.zero,H.from_,H.apart,fun j b e hb he=>H.done j b e (by have:=Ct hb; omega) hb he⟩
abbrev FG (p:Au) (B:List dtK) (E:List (List Edge)) (t:Int):EP:=(p.1,p.2.1,p.2.2.1,p.2.2.2.1,p.2.2.2.2.1,p.2.2.2.2.2,C4 B E,t)
section
variable {p:Au} {B:List dtK} {E:List (List Edge)} {t:Int}
theorem Ew (H:Fin p B E):Af (FG p B E t)=some ((B.length:Nat):Int):=by
 unfold Af
 rw [Co H.len]
theorem Na {j:Nat} {b:dtK} {e:List Edge} (hb:B[j]? =some b) (he:E[j]? =some e):(C4 B E)[j]? =some (HL b e):=by
 unfold C4
 rw [List.getElem?_zipWith,hb,he]
theorem Iz (H:Fin p B E) {j:Nat} {b:dtK} {e:List Edge} (hb:B[j]? =some b) (he:E[j]? =some e):BA (FG p B E t) (j:Int)=some (HL b e):=by
 refine Ok.eq ?_
 have:=Ct hb
 unfold BA
 refine AM (Q:=fun c=>c=false) (AT (decide_eq_false (by omega)) (AD (decide_eq_false (by rw [Co H.len]; omega)))) fun c hc=> ?_
 subst hc
 exact AT rfl (AX (Na hb he) (AD rfl))
theorem Fin.edge (H:Fin p B E) {j:Nat} {b:dtK} (hb:B[j]? =some b): ∃e,E[j]? =some e:=⟨_,List.getElem?_eq_getElem (by have:=Ct hb; have:=H.len; omega)⟩
theorem Fin.good (V:VPp p) (H:Fin p B E) {j:Nat} {b:dtK} (hb:B[j]? =some b):IU p.2.2.1 b.1∧IU p.2.2.1 b.2.1∧JI p.2.2.1 b.1 b.2.1∧b.1.length≤10100∧b.2.1.length≤10100:=by
 obtain ⟨h1,h2⟩:=H.wf b (List.mem_of_getElem? hb)
 obtain ⟨_,c1,c2,c3⟩:=IV V h1
 rw [← h2] at c1 c2 c3
 exact ⟨h1,c2,c1,GV V h1.ok (Lt.nodup h1.up),c3⟩
theorem Ha (V:VPp p) (H:Fin p B E) {j:Nat} {b:dtK} (hb:B[j]? =some b):A3 (FG p B E t) (j:Int)=some b.1:=by
 obtain ⟨e,he⟩:=H.edge hb
 have:=(H.good V hb).2.2.2.1
 refine Ok.eq ?_
 unfold A3
 exact AI (Iz H hb he) (AI (x:=b.1) (by unfold D9; rw [if_pos (by dsimp only; omega)]) (AD rfl))
theorem IY (V:VPp p) (H:Fin p B E) {j:Nat} {b:dtK} (hb:B[j]? =some b):BR (FG p B E t) (j:Int)=some b.2.1:=by
 obtain ⟨e,he⟩:=H.edge hb
 have:=(H.good V hb).2.2.2.2
 refine Ok.eq ?_
 unfold BR
 exact AI (Iz H hb he) (AI (x:=b.2.1) (by unfold D9; rw [if_pos (by dsimp only; omega)]) (AD rfl))
theorem Fin.edges_len (V:VPp p) (H:Fin p B E) {j:Nat} {b:dtK} {e:List Edge} (hb:B[j]? =some b) (he:E[j]? =some e):e.length≤10100:=by
 have h1:=(H.done j b e hb he).1
 have h2:=MK p.2.2.1 b.2.1
 have h3:=(H.good V hb).2.2.2.2
 rw [← h1,List.length_map] at h2
 omega
theorem MT (V:VPp p) (H:Fin p B E) {j:Nat} {b:dtK} {e:List Edge} (hb:B[j]? =some b) (he:E[j]? =some e):B1 (FG p B E t) (j:Int)=some e:=by
 have:=H.edges_len V hb he
 refine Ok.eq ?_
 unfold B1
 exact AI (Iz H hb he) (AI (x:=e) (by unfold D9; rw [if_pos (by dsimp only; omega)]) (AD rfl))
def Hb (R:Rl) (B:List dtK) (b:dtK) (e:List Edge) (s t:Int):Prop:=
 (s ∈ sy R b.2.1∧ ∃(q:Nat) (bt:dtK),t=(q:Int)∧1≤q∧B[q]? =some bt∧bt.1=nx R b.2.1 s∧(s,t) ∈ e)∨(s ∉ sy R b.2.1∧t= -1)
theorem MU (V:VPp p) (H:Fin p B E) {j:Nat} {b:dtK} {e:List Edge} (hb:B[j]? =some b) (he:E[j]? =some e) (s:Int):Ok (A2 (FG p B E t) (j:Int) s) (Hb p.2.2.1 B b e s):=by
 have hl:=H.edges_len V hb he
 have hd:=H.done j b e hb he
 unfold A2
 refine AI (Iz H hb he) ?_
 refine Ep e (fun _ x=>x.1==s) (fun _ x=>x.2) (by omega) (fun k x hx=> ?_) (fun hn=>AD (.inr ⟨fun hs=> ?_,rfl⟩)) fun k x hx hq _=>AD (.inl ?_)
 ·rw [Di,hx,Option.bind_some]
  cases x.1==s<;>rfl
 ·rw [← hd.1] at hs
  obtain ⟨x,hx,hxs⟩:=List.mem_map.1 hs
  obtain ⟨k,hk⟩:=List.getElem?_of_mem hx
  have:=hn k x hk
  rw [hxs] at this
  simp at this
 ·have hxs:x.1=s:=eq_of_beq hq
  have hm:=List.mem_of_getElem? hx
  obtain ⟨q,bt,h1,h2,h3,h4⟩:=hd.2 x hm
  rw [hxs] at h4
  refine ⟨by rw [← hd.1,← hxs]; exact List.mem_map.2 ⟨x,hm,rfl⟩,q,bt,h1,h2,h3,h4,?_⟩
  rw [← hxs]
  exact hm
theorem Hb.unique (H:Fin p B E) {b:dtK} {e:List Edge} {s t1 t2:Int} (h1:Hb p.2.2.1 B b e s t1) (h2:Hb p.2.2.1 B b e s t2):t1=t2:=by
 rcases h1 with ⟨a1,q1,b1,c1,d1,e1,f1,_⟩ | ⟨a1,c1⟩ <;>rcases h2 with ⟨a2,q2,b2,c2,d2,e2,f2,_⟩ | ⟨a2,c2⟩
 ·rw [c1,c2,H.apart q1 q2 b1 b2 e1 e2 (by rw [f1,f2])]
 ·exact absurd a1 a2
 ·exact absurd a2 a1
 ·rw [c1,c2]
inductive Walk (R:Rl) (B:List dtK) (E:List (List Edge)):Int→List Int→Int→Prop
 | nil (j:Int):Walk R B E j [] j
 | stop {j:Nat} {b:dtK} {e:List Edge} {s:Int} {l:List Int} :B[j]? =some b→E[j]? =some e→Hb R B b e s (-1)→Walk R B E j (s::l) (-1)
 | step {j q:Nat} {b:dtK} {e:List Edge} {s:Int} {l:List Int} {t:Int} :B[j]? =some b→E[j]? =some e→Hb R B b e s (q:Int)→q<B.length→Walk R B E (q:Int) l t→Walk R B E j (s::l) t
theorem Walk.unique (H:Fin p B E): ∀ {l:List Int} {j t1 t2:Int},Walk p.2.2.1 B E j l t1→Walk p.2.2.1 B E j l t2→t1=t2:=by
 intro l
 induction l with
 | nil=>intro j t1 t2 h1 h2; cases h1; cases h2; rfl
 | cons s l ih=>
  intro j t1 t2 h1 h2
  cases h1 with
  | @stop j b e _ _ a1 a2 a3=>
   generalize hj:(j:Int)=j' at h2
   cases h2 with
   | stop=>rfl
   | @step j2 q b2 e2 _ _ _ c1 c2 c3 c4 c5=>
    have:j2=j:=by omega
    subst this
    rw [a1] at c1; rw [a2] at c2; cases c1; cases c2
    have:=Hb.unique H a3 c3
    omega
  | @step j q b e _ _ _ a1 a2 a3 a4 a5=>
   generalize hj:(j:Int)=j' at h2
   cases h2 with
   | @stop j2 b2 e2 _ _ c1 c2 c3=>
    have:j2=j:=by omega
    subst this
    rw [a1] at c1; rw [a2] at c2; cases c1; cases c2
    have:=Hb.unique H a3 c3
    omega
   | @step j2 q2 b2 e2 _ _ _ c1 c2 c3 c4 c5=>
    have:j2=j:=by omega
    subst this
    rw [a1] at c1; rw [a2] at c2; cases c1; cases c2
    have:=Hb.unique H a3 c3
    have:q2=q:=by omega
    subst this
    exact ih a5 c5
theorem Walk.snoc {l:List Int} : ∀ {j:Int} {q r:Nat} {b:dtK} {e:List Edge} {s:Int},Walk p.2.2.1 B E j l (q:Int)→B[q]? =some b→E[q]? =some e→Hb p.2.2.1 B b e s (r:Int)→r<B.length→Walk p.2.2.1 B E j (l++ [s]) (r:Int):=by
 induction l with
 | nil=>
  intro j q r b e s h hb he hg hr
  generalize hq:(q:Int)=q' at h
  cases h
  subst hq
  exact .step hb he hg hr (.nil _)
 | cons x l ih=>
  intro j q r b e s h hb he hg hr
  generalize hq:(q:Int)=q' at h
  cases h with
  | stop=>omega
  | step a1 a2 a3 a4 a5=>
   subst hq
   exact .step a1 a2 a3 a4 (ih a5 hb he hg hr)
theorem Walk.stops {l:List Int} : ∀ {j:Int} {q:Nat} {b:dtK} {e:List Edge} {s:Int},Walk p.2.2.1 B E j l (q:Int)→B[q]? =some b→E[q]? =some e→Hb p.2.2.1 B b e s (-1)→ ∀m,Walk p.2.2.1 B E j (l++s::m) (-1):=by
 induction l with
 | nil=>
  intro j q b e s h hb he hg m
  generalize hq:(q:Int)=q' at h
  cases h
  subst hq
  exact .stop hb he hg
 | cons x l ih=>
  intro j q b e s h hb he hg m
  generalize hq:(q:Int)=q' at h
  cases h with
  | stop=>omega
  | step a1 a2 a3 a4 a5=>
   subst hq
   exact .step a1 a2 a3 a4 (ih a5 hb he hg m)
theorem GX (V:VPp p) (H:Fin p B E) {j:Nat} (hj:j<B.length) {l:List Int} (hl:l.length≤1000000):Ok (Ag (FG p B E t) (j:Int) l) fun r=>Walk p.2.2.1 B E (j:Int) l r∧(r= -1∨ ∃q:Nat,r=(q:Int)∧q<B.length):=by
 unfold Ag
 refine AM (Q:=fun c=>c=false) (AT (decide_eq_false (by omega)) (AD (decide_eq_false (by rw [Co H.len]; omega)))) fun c hc=> ?_
 subst hc
 refine AT rfl ?_
 have key:Ok ((CI (σ:=Int) (β:=Int) (0:Int) (((List.length l):Nat):Int) (j:Int) fun i_z5 z5=>
  (idx l i_z5).bind fun e59=>
  (A2 (FG p B E t) z5 e59).bind fun t8=>
  cond (decide (t8< (0:Int)))
  (some (AR.done t8))
  (some (AR.next t8))).bind some) (fun r=>Walk p.2.2.1 B E (j:Int) l (AR.get r)∧(AR.get r= -1∨ ∃q:Nat,AR.get r=(q:Int)∧q<B.length)):=by
  refine IN (fun k (z:Int)=> ∃q:Nat,z=(q:Int)∧q<B.length∧Walk p.2.2.1 B E (j:Int) (l.take k) (q:Int)) (fun r=>r= -1∧Walk p.2.2.1 B E (j:Int) l (-1)) (by omega) ⟨j,rfl,hj, .nil _⟩ (fun k z hk hz=> ?_) (fun z hz=>AD ?_) fun r hr=>AD ⟨by show Walk p.2.2.1 B E (j:Int) l r; rw [hr.1]; exact hr.2, .inl hr.1⟩
  ·obtain ⟨q,rfl,hq,hw⟩:=hz
   have hx:=List.getElem?_eq_getElem hk
   have hb:=List.getElem?_eq_getElem hq
   obtain ⟨e,he⟩:=H.edge hb
   refine AX hx (AM (MU V H hb he l[k]) fun t ht=> ?_)
   have htt:=ht
   rcases ht with ⟨_,r,bt,h1,h2,h3,_⟩ | ⟨_,h1⟩
   ·subst h1
    have hr:=Ct h3
    refine AT (decide_eq_false (by omega)) (DV ⟨r,rfl,hr,?_⟩)
    rw [List.take_add_one,hx]
    exact hw.snoc hb he htt hr
   ·subst h1
    refine As rfl (C5 ⟨rfl,?_⟩)
    have:=hw.stops hb he htt (l.drop (k+1))
    rw [show l[k] ::l.drop (k+1)=l.drop k from (List.drop_eq_getElem_cons hk).symm,List.take_append_drop] at this
    exact this
  ·obtain ⟨q,rfl,hq,hw⟩:=hz
   rw [List.take_of_length_le (Nat.le_refl _)] at hw
   exact ⟨hw, .inr ⟨q,rfl,hq⟩⟩
 obtain ⟨r,h1,h2⟩:=key
 rw [show ∀o:Option (AR Int Int),o.bind some=o from fun o=>by cases o<;>rfl] at h1
 refine AM (Q:=fun r=>Walk p.2.2.1 B E (j:Int) l r∧(r= -1∨ ∃q:Nat,r=(q:Int)∧q<B.length)) ⟨AR.get r,?_,h2⟩ fun x hx=>AD hx
 rw [h1]
 rfl
theorem I0 (H:Fin p B E) {j:Int} (hj:j<0) (l:List Int):Ag (FG p B E t) j l=some (-1):=by
 refine Ok.eq ?_
 unfold Ag
 refine AM (Q:=fun c=>c=true) (As (decide_eq_true hj) (AD rfl)) fun c hc=> ?_
 subst hc
 exact As rfl (AD rfl)
theorem Nb (l:List Int) (hl:l.length≤1000000000):A9 l=some l.reverse:=by
 refine Ok.eq ?_
 unfold A9
 have hlast: ∀m:List Int,m.length=l.length→(∀k,k<l.length→m[k]? =l.reverse[k]?)→m=l.reverse:=fun m h1 h2=>by
  refine List.ext_getElem? fun k=> ?_
  rcases Nat.lt_or_ge k l.length with g | g
  ·exact h2 k g
  ·rw [List.getElem?_eq_none (by omega),List.getElem?_eq_none (by simp; omega)]
 refine Eo (fun (z:Int×Int×List Int)=>0≤z.2.1∧z.1+z.2.1=(l.length:Int) - 1∧ -1≤z.1∧z.2.2.length=l.length∧ ∀k,k<l.length→z.2.2[k]? =if (k:Int) <z.2.1∨z.1< (k:Int) then l.reverse[k]? else l[k]?) (fun z=>(z.1+1 - z.2.1).toNat) (fun m=>m=l.reverse) ⟨Int.le_refl _,?_,?_,rfl,fun k hk=> ?_⟩ (fun z hz=> ?_) fun m hm=>AD hm
 ·dsimp only; rw [w64 (by omega) (by omega)]; omega
 ·dsimp only; rw [w64 (by omega) (by omega)]; omega
 ·dsimp only
  rw [w64 (by omega) (by omega),if_neg (by omega)]
 ·obtain ⟨i,j,m⟩:=z
  obtain ⟨h0,h1,h2,h3,h4⟩:=hz
  dsimp only at h0 h1 h2 h3 h4 ⊢
  refine Ah (fun hc=> ?_) fun hc=>C5 (hlast m h3 fun k hk=> ?_)
  ·have hc:=of_decide_eq_true hc
   have hi:i.toNat<m.length:=by omega
   have hj:j.toNat<m.length:=by omega
   refine CY (by omega) (List.getElem?_eq_getElem hi) (CY h0 (List.getElem?_eq_getElem hj) (HM (by omega) (by omega) (HM (by omega) (by rw [List.length_set]; omega) ?_)))
   rw [w64 (by omega) (by omega),w64 (by omega) (by omega)]
   refine DV ⟨⟨by dsimp only; omega,by dsimp only; omega,by dsimp only; omega,by simp [h3],fun k hk=> ?_⟩,by dsimp only; omega⟩
   dsimp only
   have e1:=h4 i.toNat (by omega)
   have e2:=h4 j.toNat (by omega)
   rw [if_neg (by omega)] at e1 e2
   rw [List.getElem?_reverse hk] at *
   by_cases hki:k=i.toNat
   ·subst hki
    rw [List.getElem?_set_self (by simp; omega),if_pos (by omega),← List.getElem?_eq_getElem hj,e2]
    congr 1
    omega
   ·rw [List.getElem?_set_ne (fun h=>hki h.symm)]
    by_cases hkj:k=j.toNat
    ·subst hkj
     rw [List.getElem?_set_self (by omega),if_pos (by omega),← List.getElem?_eq_getElem hi,e1]
     congr 1
     omega
    ·rw [List.getElem?_set_ne (fun h=>hkj h.symm),h4 k hk,List.getElem?_reverse hk]
     by_cases g:(k:Int) <j∨i< (k:Int)
     ·rw [if_pos g,if_pos (by omega)]
     ·rw [if_neg g,if_neg (by omega)]
  ·have hc:=of_decide_eq_false hc
   rw [h4 k hk]
   by_cases g:(k:Int) <j∨i< (k:Int)
   ·rw [if_pos g]
   ·rw [if_neg g,List.getElem?_reverse hk]
    congr 1
    omega
theorem My (V:VPp p) (H:Fin p B E) (hB:B.length≤1000000) {j:Nat} (hj:j<B.length):Ok (Jx (FG p B E t) (j:Int)) fun l=>Walk p.2.2.1 B E 0 l (j:Int)∧l.length≤1000000:=by
 obtain ⟨e,he⟩:=H.edge (List.getElem?_eq_getElem hj)
 unfold Jx
 refine AI (Iz H (List.getElem?_eq_getElem hj) he) ?_
 refine Eo (fun (z:Int×Int×List Int×Int)=> ∃(m:Nat) (b:dtK),z.2.2.2=(m:Int)∧B[m]? =some b∧z.1=b.2.2.1∧z.2.1=b.2.2.2∧Walk p.2.2.1 B E (m:Int) z.2.2.1.reverse (j:Int)∧z.2.2.1.length+m≤j) (fun z=>z.2.2.2.toNat) (fun l=>Walk p.2.2.1 B E 0 l.reverse (j:Int)∧l.length≤j) ⟨j,_,rfl,List.getElem?_eq_getElem hj,rfl,rfl, .nil _,by simp⟩ (fun z hz=> ?_) fun l hl=> ?_
 ·obtain ⟨fr,wi,o,m'⟩:=z
  obtain ⟨m,b,h1,h2,h3,h4,h5,h6⟩:=hz
  dsimp only at h1 h3 h4 h5 h6 ⊢
  subst h1 h3 h4
  have hm:=Ct h2
  have hlen:(((List.length (C4 B E)):Nat):Int)=(B.length:Int):=by rw [Co H.len]
  rw [hlen]
  rcases Nat.eq_zero_or_pos m with rfl | hm0
  ·refine AM (Q:=fun c=>c=false) (AT rfl (AD rfl)) fun c hc=> ?_
   subst hc
   exact AT rfl (C5 ⟨h5,by omega⟩)
  ·refine AM (Q:=fun c=>c=true) (As (decide_eq_true (by omega)) (AD (decide_eq_true (by omega)))) fun c hc=> ?_
   subst hc
   obtain ⟨f,bf,ef,g1,g2,g3,g4,g5,g6,g7⟩:=H.from_ m b hm0 h2
   rw [g2]
   refine As rfl (Bg (by simp; omega) (AI (Iz H g3 g6) (DV ⟨⟨f,bf,rfl,g3,rfl,rfl,?_,?_⟩,?_⟩)))
   ·dsimp only
    rw [List.reverse_append]
    refine .step g3 g6 (.inl ⟨g5,m,b,rfl,hm0,h2,g4,g7⟩) hm h5
   ·dsimp only; rw [List.length_append]; simp; omega
   ·dsimp only; omega
 ·exact (show A9 l=some l.reverse from Nb l (by omega)) ▸ AD ⟨hl.1,by rw [List.length_reverse]; omega⟩
end
theorem Kw {φ:AE} {S S':List Slc} {E:List (List Edge)} {B B':List dtK} {c i:Nat} (hS:S.length=B.length) (hE:E.length=B.length) (H:Ca φ S E c) (hf:FF S E i) (h:(B'=B∧S'=S)∨ ∃x,B'=B++ [x] ∧S'=S++ [Dz]):
 S'.length=B'.length∧(D0 E B.length B'.length).length=B'.length∧Ca φ S' (D0 E B.length B'.length) c∧FF S' (D0 E B.length B'.length) i∧(∀(j:Nat) s,S[j]? =some s→S'[j]? =some s)∧(∀(j:Nat) e,E[j]? =some e→(D0 E B.length B'.length)[j]? =some e)∧ ∀(j:Nat) b,B[j]? =some b→B'[j]? =some b:=by
 rcases h with ⟨rfl,rfl⟩ | ⟨x,rfl,rfl⟩
 ·unfold D0
  rw [if_pos rfl]
  exact ⟨hS,hE,H,hf,fun _ _ h=>h,fun _ _ h=>h,fun _ _ h=>h⟩
 ·unfold D0
  rw [if_neg (by simp)]
  have ap: ∀ {α:Type} {l:List α} {x y:α} {j:Nat},l[j]? =some y→(l++ [x])[j]? =some y:=fun {α l x y j} h=>by
   rw [List.getElem?_append_left (List.getElem?_eq_some_iff.1 h).1]; exact h
  exact ⟨by simp [hS],by simp [hE],H.snoc (by omega),hf.snoc,fun _ _ h=>ap h,fun _ _ h=>ap h,fun _ _ h=>ap h⟩
theorem MV {S:List Slc} {E:List (List Edge)} {i:Nat} (H:FF S E i) (h1:i<S.length) (h2:i<E.length):S[i]? =some Dz∧E[i]? =some [] :=by
 have a:=List.getElem?_eq_getElem h1
 have b:=List.getElem?_eq_getElem h2
 exact ⟨by rw [a,(H i (Nat.le_refl _)).1 _ a],by rw [b,(H i (Nat.le_refl _)).2 _ b]⟩
theorem FF.mono {S:List Slc} {E:List (List Edge)} {i i':Nat} (H:FF S E i) (h:i≤i'):FF S E i':=fun j hj=>H j (Nat.le_trans h hj)
theorem Nc {φ:AE} {S:List Slc} {E:List (List Edge)} {i:Nat} {s:Slc} {e:List Edge} (H:Ca φ S E i) (hf:FF S E (i+1)):Ca φ (S.set i s) (E.set i e) i∧FF (S.set i s) (E.set i e) (i+1):=by
 refine ⟨fun j s' e' hj h1 h2=> ?_,fun j hj=>⟨fun s' h=> ?_,fun e' h=> ?_⟩⟩
 ·rw [List.getElem?_set_ne (by omega)] at h1 h2
  exact H j s' e' hj h1 h2
 ·rw [List.getElem?_set_ne (by omega)] at h
  exact (hf j hj).1 s' h
 ·rw [List.getElem?_set_ne (by omega)] at h
  exact (hf j hj).2 e' h
theorem Nd {φ:AE} {S:List Slc} {E:List (List Edge)} {i:Nat} {s:Slc} {e:List Edge} (H:Ca φ S E i) (hs:S[i]? =some s) (he:E[i]? =some e) (k:Ro.SliceIs Gt φ s e):Ca φ S E (i+1):=by
 intro j s' e' hj h1 h2
 by_cases hji:j=i
 ·subst hji
  rw [hs] at h1; rw [he] at h2
  cases h1; cases h2
  exact k
 ·exact H j s' e' hji h1 h2
theorem St.to9' {φ:AE} {h:AF} {F:List Chk} {e a0 a1 a2 a3 a4 a5 a6 a7 a8:Chk} (H:St φ (e::a4::a0::a1::a2::a3::a5::a6::a7::a8::F) h):St φ (a0::a1::a2::a3::a4::a5::a6::a7::a8::e::F) h:=
 H.at9.at9.at9.at9.at5.at9.at9.at9.at9
def M8 (φ:AE) (c3 c4 c5 c6 m a r1 r2:Nat) (p:Au) (G:List Chk) (i:Nat) (y:BSt) (w:AF):Prop:= ∃(ψ:AE) (ls:Slc) (S:List Slc),Sub φ ψ∧S.length=y.2.1.length∧y.2.2.1.length=y.2.1.length∧Ca ψ S y.2.2.1 i∧FF S y.2.2.1 i∧St ψ (bC c3 c4 c5 c6 m a r1 r2 y.1 p ls 0 (C4 y.2.1 S) y.2.2.2.1 y.2.2.2.2 G) w
def Nu (φ:AE) (c3 c4 c5 c6 m a r1 r2:Nat) (p:Au) (G:List Chk) (i:Nat) (b:dtK) (y:BSt) (w:AF):Prop:= ∃(ψ:AE) (ls:Slc) (S:List Slc) (s:Slc) (e:List Edge),Sub φ ψ∧S.length=y.2.1.length∧y.2.2.1.length=y.2.1.length∧Ca ψ S y.2.2.1 i∧FF S y.2.2.1 (i+1)∧S[i]? =some s∧y.2.2.1[i]? =some e∧y.2.1[i]? =some b∧St ψ (bC c3 c4 c5 c6 m a r1 r2 y.1 p ls 0 (C4 y.2.1 S) y.2.2.2.1 y.2.2.2.2 (cR 57 Gt s e::G)) w
set_option maxHeartbeats 4000000 in
theorem CO {φ:AE} {h:AF} {F:List Chk} {p_0:Slc×Slc×Slc×Slc×Slc×Slc×Unit} {d0:List ByteArray} {d1:List ByteArray} {d2:List Bu} {d3:List Int} {d4:List Int} {d5:List ByteArray} {st it:Int}
 (gk:FC φ) (k0:Ro.SliceIs Ro.str φ p_0.1 d0) (k1:Ro.SliceIs Ro.str φ p_0.2.1 d1) (k2:Ro.SliceIs Aj φ p_0.2.2.1 d2) (k3:Ro.SliceIs (Ro.int .i64) φ p_0.2.2.2.1 d3) (k4:Ro.SliceIs (Ro.int .i64) φ p_0.2.2.2.2.1 d4) (k5:Ro.SliceIs Ro.str φ p_0.2.2.2.2.2.1 d5) (s0:St φ F h) {r:Option EP×Int} (hd:CN (d0,d1,d2,d3,d4,d5) st it=some r):
 CallsH Tryd.prog 11 [(.agg #[.slice p_0.1.1 p_0.1.2.1 p_0.1.2.2, .slice p_0.2.1.1 p_0.2.1.2.1 p_0.2.1.2.2, .slice p_0.2.2.1.1 p_0.2.2.1.2.1 p_0.2.2.1.2.2, .slice p_0.2.2.2.1.1 p_0.2.2.2.1.2.1 p_0.2.2.2.1.2.2, .slice p_0.2.2.2.2.1.1 p_0.2.2.2.2.1.2.1 p_0.2.2.2.2.1.2.2, .slice p_0.2.2.2.2.2.1.1 p_0.2.2.2.2.2.1.2.1 p_0.2.2.2.2.2.1.2.2]), .int .i64 st, .int .i64 it] h (BO fun v h'=> ∃ψ:AE,∃y:Option Addr×Int×Unit,∃l1:Option EP,Sub φ ψ∧v=((.tuple [.atom .pointer, .atom (.int .i64)]):Sh).val y∧(l1,y.2.1)=r∧Np H8 ψ y.1 l1∧St ψ F h'):=by
 refine Aa mixed Tryd.func11 ?_
 rw [HU]
 unfold F0
 unfold CN at hd
 obtain ⟨rm,hrm,hd1⟩:=bS hd
 clear hd
 obtain ⟨cl,hcl,hd2⟩:=bS hd1
 clear hd1
 obtain ⟨ra,hra,hd⟩:=bS hd2
 clear hd2
 refine Ac (vs:= [sv p_0.1,sv p_0.2.1,sv p_0.2.2.1,sv p_0.2.2.2.1,sv p_0.2.2.2.2.1,sv p_0.2.2.2.2.2.1]) s0 fun b1 h1 s1=> ?_
 refine AA (x:=p_0.1) s1 rfl ?_
 refine AA (x:=p_0.2.1) s1 rfl ?_
 refine AA (x:=p_0.2.2.1) s1 rfl ?_
 refine AA (x:=p_0.2.2.2.1) s1 rfl ?_
 refine AA (x:=p_0.2.2.2.2.1) s1 rfl ?_
 refine AA (x:=p_0.2.2.2.2.2.1) s1 rfl ?_
 refine Ac (vs:= [sv p_0.1,sv p_0.2.1,sv p_0.2.2.1,sv p_0.2.2.2.1,sv p_0.2.2.2.2.1,sv p_0.2.2.2.2.2.1, .slice none 0 0, .int .i64 (0:Int)]) s1 fun a h2 s2=> ?_
 refine Ac (vs:= [.pointer none]) s2 fun c4 h3 s3=> ?_
 refine AJ s3 rfl rfl fun h4 s4=> ?_
 refine AK (Gh s4 hrm) ?_
 rintro _ h5 ⟨ψ1,y10,_,le1,rfl,rfl,s5⟩
 refine ⟨y10,rfl,?_⟩
 refine AK (Gh s5 hcl) ?_
 rintro _ h6 ⟨ψ2,y11,_,le2,rfl,rfl,s6⟩
 refine ⟨y11,rfl,?_⟩
 obtain ⟨r2,vs2,rfl,q2,s6⟩:=St.openR s6
 have s6:=(St.shutR s6 q2).at1
 obtain ⟨r1,vs1,rfl,q1,s6⟩:=St.openR s6
 have s6:=(St.shutR s6 q1).at1
 refine Ac (vs:= [.pointer none]) s6 fun c5 h7 s7=> ?_
 refine Ac (vs:= [.pointer none]) s7 fun c6 h8 s8=> ?_
 refine AJ s8.at1 rfl rfl fun h9 s9=> ?_
 refine AJ s9.at1 rfl rfl fun h10 s10=> ?_
 refine Je kyS (Ro.int .i64) s10 fun m h11 s11=> ?_
 refine Ac (vs:= [.map none]) s11 fun c3 h12 s12=> ?_
 refine AJ s12 rfl rfl fun h13 s13=> ?_
 refine Ac (vs:= [.int .i64 (0:Int), .int .i64 (0:Int)]) s13 fun k16 h14 s14=> ?_
 have s15:=St.lit (r:=Bx) (l:= [((0:Int),(0:Int))]) (n:=1) s14 (.cons (a:= [_,_]) ⟨[_],_,rfl,rfl,rfl⟩ .nil) rfl (by decide)
 obtain ⟨ψ3,le3,kk,s16⟩:=St.freezeRow (t:=(some ⟨k16,0,none⟩,1,1)) s15
 have le13:=(le1.trans le2).trans le3
 have s17:=St.shutR (r:=CL) (x:=qA (d0,d1,d2,d3,d4,d5) Dz 0) s16.at7 ⟨[_],_,rfl,⟨_,rfl,k0.mono le13⟩, [_],_,rfl,⟨_,rfl,k1.mono le13⟩, [_],_,rfl,⟨_,rfl,k2.mono le13⟩, [_],_,rfl,⟨_,rfl,k3.mono le13⟩, [_],_,rfl,⟨_,rfl,k4.mono le13⟩, [_],_,rfl,⟨_,rfl,k5.mono le13⟩, [_],_,rfl,rfl,rfl⟩
 have s18:=(s17.nil 78 roB).at6.at5.at7.at7.at4.at5.at8.at8.at8
 refine AK (Kn (B:= []) (S:= []) (ls:=Dz) (gk.mono le13) kk rfl s18 hra) ?_
 rintro _ h15 ⟨ψ4,y17,ls0,S0,le4,rfl,e1,e2,hG0,s19⟩
 refine ⟨y17,rfl,?_⟩
 have le14:=le13.trans le4
 refine AH hd (by rw [e2]) (fun _ hd=> ?_) (fun _ hd=> ?_)
 ·obtain rfl:=iS hd
  exact AC ⟨ψ4,(none,y17.2.1,()),none,le14,rfl,by rw [e2],rfl,(St.tail9 s19).tail⟩
 obtain ⟨g,hg,hd⟩:=bS hd
 refine Ad (fun (z:Int×Int×Option Addr×Unit) w (g:AR BSt Int)=> ∃y i,g=AR.next y∧y.2.1.length≤i∧M8 φ c3 c4 c5 c6 m a r1 r2 (d0,d1,d2,d3,d4,d5) (cW 32 b1 [sv p_0.1,sv p_0.2.1,sv p_0.2.2.1,sv p_0.2.2.2.1,sv p_0.2.2.2.2.1,sv p_0.2.2.2.2.2.1] ::F) i y w) (g:=g) ?_ ?_
 ·unfold Hv at hg
  refine FO hg (fun (z:Int×Int×Option Addr×Unit) w (x:Int×BSt)=>z.1=x.1∧0≤x.1∧M8 φ c3 c4 c5 c6 m a r1 r2 (d0,d1,d2,d3,d4,d5) (cW 32 b1 [sv p_0.1,sv p_0.2.1,sv p_0.2.2.1,sv p_0.2.2.2.1,sv p_0.2.2.2.2.1,sv p_0.2.2.2.2.2.1] ::F) x.1.toNat x.2 w) ((0:Int),(0:Int),none,()) rfl ⟨rfl,Int.le_refl _,?_⟩ ?_
  ·obtain ⟨g1,g2,g3,g4,_⟩:=Kw (E:= []) (c:=0) (i:=0) (φ:=ψ4) (S:= []) (B:= []) rfl rfl (fun j s e _ h _=>by simp at h) (fun j _=>⟨fun s h=>by simp at h,fun e h=>by simp at h⟩) hG0
   exact ⟨ψ4,ls0,S0,le14,g1,g2,g3,g4,s19⟩
  rintro ⟨i,z2,z3,_⟩ w ⟨_,fd,B,E,rm',cl'⟩ eo ⟨rfl,hi0,ψ,ls,S,le,hS,hE,hok,hfr,s⟩ hd' hbo
  dsimp only at hi0 hS hE hok hfr s hd' ⊢
  have nL:=St.rowLen s.at4
  have nM:=St.rowMax s.at4
  rw [Co hS] at nL nM
  refine AA (x:=some ⟨a,0,none⟩) s.at2 rfl ?_
  refine AG _ rfl ?_
  refine HS ls (KP s) ?_
  refine AH hd' (by rw [nL]) (fun hlt hd'=> ?_) (fun hge hd'=> ?_)
  ·have hlt:=of_decide_eq_true hlt
   obtain ⟨b,hb,hd1⟩:=bS hd'
   clear hd'
   obtain ⟨es,hes,hd'⟩:=bS hd1
   clear hd1
   refine AA (x:=some ⟨a,0,none⟩) s.at2 rfl ?_
   refine AG _ rfl ?_
   refine HS ls (KP s) ?_
   obtain ⟨f1,f2⟩:=MV hfr (by omega) (by omega)
   obtain ⟨a26,cs26,ea26,hi26,q26,cl26⟩:=St.get s.at4 (IL hb f1)
   refine AG _ ea26 (AZ hi26 ?_)
   obtain ⟨_,_,rfl,⟨t0,rfl,q0⟩,_,_,rfl,⟨t1,rfl,q1⟩,_,_,rfl,rfl,_,_,rfl,rfl,rfl⟩:=q26
   refine AL (x:=t1) (by rw [AV]; exact cl26 1 _ rfl) rfl ?_
   refine AA (x:=some ⟨a,0,none⟩) s.at2 rfl ?_
   unfold JF at hes
   obtain ⟨syms,hsy,hes1⟩:=bS hes
   clear hes
   have hes:=hes1
   clear hes1
   refine AK (FD q1 s.at3 (by rw [Jo]; exact hsy)) ?_
   rintro _ w2 ⟨ψ5,y29,_,le5,rfl,rfl,k29,s20⟩
   refine ⟨y29,rfl,?_⟩
   have n29:=k29.length
   have s20:=(St.back3 s20)
   have s21:=St.to9 (s20.nil 57 Gt)
   refine Ad (fun (z:Int×Int×Option Addr×Unit) w (g:AR BSt Int)=> ∃y,g=AR.next y∧Nu ψ5 c3 c4 c5 c6 m a r1 r2 (d0,d1,d2,d3,d4,d5) (cW 32 b1 [sv p_0.1,sv p_0.2.1,sv p_0.2.2.1,sv p_0.2.2.2.1,sv p_0.2.2.2.2.1,sv p_0.2.2.2.2.2.1] ::F) i.toNat b y w) (g:=es) ?_ ?_
   ·refine BQ hes (fun j (z:Int×Int×Option Addr×Unit) w (y:BSt)=>z.1=j∧Nu ψ5 c3 c4 c5 c6 m a r1 r2 (d0,d1,d2,d3,d4,d5) (cW 32 b1 [sv p_0.1,sv p_0.2.1,sv p_0.2.2.1,sv p_0.2.2.2.1,sv p_0.2.2.2.2.1,sv p_0.2.2.2.2.2.1] ::F) i.toNat b y w) ((0:Int),z2,z3,()) rfl ⟨rfl,ψ5,ls,S,Dz, [],Sub.refl _,hS,hE,hok.mono le5,hfr.mono (by omega),f1,f2,(Ez hb).2.2,s21⟩ ?_ ?_
    ·rintro _ ⟨j,u2,u3,_⟩ w3 ⟨fd3,B3,E3,rm3,cl3⟩ e3 ⟨rfl,ψ6,ls3,S3,s_,e_,le6,hS3,hE3,hok3,hfr3,hs3,he3,hb3,s22⟩ hd3 hj1 hj2 hw hbi
     dsimp only at hS3 hE3 hok3 hfr3 he3 hb3 s22 hd3 hj1 hj2 hw ⊢
     refine Az (by rw [n29]; exact decide_eq_true hj2) ?_
     obtain ⟨sym,hsym,hd31⟩:=bS hd3
     clear hd3
     unfold Ko at hd31
     obtain ⟨kn,hkn,hd32⟩:=bS hd31
     clear hd31
     obtain ⟨r3,hr3,hd3⟩:=bS hd32
     clear hd32
     dsimp only at hd3 hr3
     obtain ⟨a32,cs32,ea32,hi32,q32,cl32⟩:=(k29.mono le6).get hsym
     refine AG _ ea32 (AZ hi32 ?_)
     obtain rfl:=q32
     refine AL (x:=sym) (AB (Sub.trans (Sub.refl _) s22.sub) (cl32 0 _ rfl)) rfl ?_
     refine AA (x:=some ⟨a,0,none⟩) s22.at2 rfl ?_
     refine AK (GF (q1.mono (le5.trans le6)) s22.at3 (by rw [L3]; exact hkn)) ?_
     rintro _ w4 ⟨ψ7,y35,_,le7,rfl,rfl,k35,s23⟩
     refine ⟨y35,rfl,?_⟩
     refine AK (Kn (gk.mono (((le.trans le5).trans le6).trans le7)) k35 hS3 (St.back3 s23) hr3) ?_
     rintro _ w5 ⟨ψ8,y36,ls4,S4,le8,rfl,e31,e32,hG,s24⟩
     refine ⟨y36,rfl,?_⟩
     refine AH hd3 (by rw [e32]) (fun _ hd3=> ?_) (fun _ hd3=> ?_)
     ·obtain rfl:=iS hd3
      obtain rfl:=hbi _ rfl
      obtain rfl:=iS hd'
      obtain rfl:=hbo _ rfl
      obtain rfl:=iS hd
      exact AU (AY (AU (AY (AC ⟨ψ8,(none,y36.2.1,()),none,((((le.trans le5).trans le6).trans le7).trans le8),rfl,by rw [e32],rfl,(St.tail9 s24).tail.tail⟩))))
     obtain ⟨el,hel,hd34⟩:=bS hd3
     clear hd3
     obtain ⟨el',hel',hd35⟩:=bS hd34
     clear hd34
     obtain ⟨E',hE',hd3⟩:=bS hd35
     clear hd35
     obtain rfl:=iS hd3
     obtain ⟨g1,g2,g3,g4,g5,g6,g7⟩:=Kw hS3 hE3 ((hok3.mono le7).mono le8) hfr3 hG
     have hs4:=g5 _ _ hs3
     have he4:=g6 _ _ he3
     have hb4:=g7 _ _ hb3
     obtain ⟨_,hlE,helx⟩:=Ez hel
     rw [he4] at helx
     obtain rfl:=Option.some.inj helx
     rw [← e31] at hel'
     have hbi4:idx r3.2.2.2.1 i=some b:=by unfold idx; rw [if_pos hi0]; exact hb4
     refine AA (x:=some ⟨a,0,none⟩) s24.at2 rfl ?_
     refine AG _ rfl ?_
     refine HS ls4 (KP s24) ?_
     refine AA (x:=some ⟨a,0,none⟩) s24.at2 rfl ?_
     refine AG _ rfl ?_
     refine HS ls4 (KP s24) ?_
     obtain ⟨a43,cs43,ea43,hi43,q43,cl43⟩:=St.get s24.at4 (IL hbi4 hs4)
     refine AG _ ea43 (AZ hi43 ?_)
     obtain ⟨_,_,rfl,⟨v0,rfl,p0⟩,_,_,rfl,⟨v1,rfl,p1⟩,_,_,rfl,rfl,_,_,rfl,rfl,rfl⟩:=q43
     refine AL (x:=s_) (by rw [AV]; exact cl43 2 _ rfl) rfl ?_
     refine Gs (vs:= [.int .i64 sym, .int .i64 y36.1]) s24 fun r45 w6 keep s25=> ?_
     refine Ab (keep _ _ (by rw [AV]; exact cl43 2 _ rfl)) ?_
     refine Ab (KP s25.tail) ?_
     refine Ab (St.cell s25.tail.at2 rfl) ?_
     refine Ab (KP s25.tail) ?_
     refine Ab (St.cell s25.tail.at2 rfl) ?_
     refine Aq (r:=Gt) (ms:= [(sym,y36.1)]) No s25.tail.at9 rfl (St.cells s25) (.cons (a:= [_,_]) ⟨[_],_,rfl,rfl,rfl⟩ .nil) rfl hel' fun s46 w7 s26=> ?_
     refine Ab (KP s26.tail) ?_
     refine Ab (St.cell s26.tail.at2 rfl) ?_
     refine AG _ ea43 (AZ hi43 ?_)
     have hset:Gq (C4 r3.2.2.2.1 S4) i (HL b s46)=some (C4 r3.2.2.2.1 (S4.set i.toNat s46)):=by
      unfold Gq
      rw [if_pos ⟨hi0,by rw [Co g1]; omega⟩,L4 _ hb4]
     refine JD (j:=2) s26.at5 (IL hbi4 hs4) hset (fun cs hq=> ?_) rfl rfl ea43 (AV _ _ _) fun w8 s27=> ?_
     ·obtain ⟨_,_,rfl,⟨x0,rfl,o0⟩,_,_,rfl,⟨x1,rfl,o1⟩,_,_,rfl,rfl,_,_,rfl,rfl,rfl⟩:=hq
      exact ⟨[_],_,rfl,⟨x0,rfl,o0⟩, [_],_,rfl,⟨x1,rfl,o1⟩, [_],_,rfl,rfl, [_],_,rfl,rfl,rfl⟩
     obtain ⟨_,_,rfl⟩:=GT hE'
     obtain ⟨w1,w2⟩:=Nc (s:=s46) (e:=el') g3 g4
     have s28:=St.to9' s27.at1
     exact Ar ((IntKind.wrap .i64 (j+(1:Int))),u2,u3,()) _ rfl rfl ⟨hw,ψ8,ls4,S4.set i.toNat s46,s46,el',(le6.trans le7).trans le8,by rw [List.length_set]; exact g1,by rw [List.length_set]; exact g2,w1,w2,by rw [List.getElem?_set_self (by omega)],by rw [List.getElem?_set_self (by omega)],hb4,s28⟩
    ·rintro _ ⟨j,u2,u3,_⟩ w3 y3 ⟨rfl,hI⟩ hge hr3
     refine Al (by rw [n29]; exact decide_eq_false (Int.not_lt.2 hge)) ?_
     exact AO (AS (j,u2,u3,()) rfl ⟨y3,hr3,hI⟩)
   rintro ⟨z1,u2,u3,_⟩ w3 ⟨⟨fd3,B3,E3,rm3,cl3⟩,rfl,ψ6,ls3,S3,s_,e_,le6,hS3,hE3,hok3,hfr3,hs3,he3,hb3,s22⟩
   dsimp only at hS3 hE3 hok3 hfr3 he3 hb3 s22
   obtain rfl:=iS hd'
   obtain ⟨ψ7,le7,kE,s23⟩:=St.freezeRow s22.at9
   have hw:IntKind.wrap .i64 (i+1)=i+1:=w64 (by omega) (by unfold maxLen at nM; omega)
   have hi1:(i+1).toNat=i.toNat+1:=by omega
   refine Ar ((IntKind.wrap .i64 (i+(1:Int))),u2,u3,()) _ rfl rfl ⟨rfl,by rw [hw]; omega,ψ7,ls3,S3,((le.trans le5).trans le6).trans le7,hS3,hE3,?_,?_,s23⟩
   ·rw [hw,hi1]; exact Nd (hok3.mono le7) hs3 he3 kE
   ·rw [hw,hi1]; exact hfr3
  ·have hge:=of_decide_eq_false hge
   obtain rfl:=iS hd'
   obtain rfl:=hbo _ rfl
   exact AO (AS (i,z2,z3,()) rfl ⟨_,i.toNat,rfl,by dsimp only; omega,ψ,ls,S,le,hS,hE,hok,hfr,s⟩)
 rintro ⟨z1,z2,z3,_⟩ w ⟨⟨fd,B,E,rm',cl'⟩,i,rfl,hi,ψ,ls,S,le,hS,hE,hok,hfr,s⟩
 dsimp only at hd hi hS hE hok hfr s
 obtain ⟨tot,ht,hd⟩:=bS hd
 obtain rfl:=iS hd
 refine AA (x:=some ⟨a,0,none⟩) s.at2 rfl ?_
 refine AA (x:=some ⟨r2,0,none⟩) s.at7 rfl ?_
 refine AK (GA s.at8 ht) ?_
 rintro _ w1 ⟨ψ5,y50,le5,rfl,rfl,s20⟩
 refine ⟨y50,rfl,?_⟩
 refine Ab (St.cell s20.at3 rfl) ?_
 refine AG _ rfl ?_
 obtain ⟨b,vs,e,⟨_,_,rfl,⟨u0,rfl,kk0⟩,_,_,rfl,⟨u1,rfl,kk1⟩,_,_,rfl,⟨u2,rfl,kk2⟩,_,_,rfl,⟨u3,rfl,kk3⟩,_,_,rfl,⟨u4,rfl,kk4⟩,_,_,rfl,⟨u5,rfl,kk5⟩,_,_,rfl,rfl,rfl⟩,s21⟩:=St.openR s20.at4
 obtain rfl:a=b:=by simpa using e
 refine AJ s21 rfl rfl fun w2 s22=> ?_
 refine AA (x:=some ⟨a,0,none⟩) s22.at4 rfl ?_
 obtain ⟨ψ6,le6,kR,s23⟩:=St.freezeRow s22.at5
 have kS:=LR hS hE (fun j s e h1 h2=>(hok j s e (by have:=(List.getElem?_eq_some_iff.1 h1).1; omega) h1 h2).mono (le5.trans le6)) kR
 have s24:=St.shutR (r:=H8) (x:=(d0,d1,d2,d3,d4,d5,C4 B E,y50)) s23 ⟨[_],_,rfl,⟨u0,rfl,kk0.mono le6⟩, [_],_,rfl,⟨u1,rfl,kk1.mono le6⟩, [_],_,rfl,⟨u2,rfl,kk2.mono le6⟩, [_],_,rfl,⟨u3,rfl,kk3.mono le6⟩, [_],_,rfl,⟨u4,rfl,kk4.mono le6⟩, [_],_,rfl,⟨u5,rfl,kk5.mono le6⟩, [_],_,rfl,⟨ls,rfl,kS⟩,rfl⟩
 obtain ⟨ψ7,le7,kP,s25⟩:=St.freezeR (NL _) s24
 exact AC ⟨ψ7,(some ⟨a,0,none⟩,(0:Int),()),some _,(((le.trans le5).trans le6).trans le7),rfl,rfl,kP,s25.tail.tail.tail.tail.tail.tail.tail.tail⟩
theorem MW:M6 Tryd.prog 30 3 (.int .i64 (0:Int)):=⟨Tryd.underlying30,⟨Tryd.t3,by kernel_rfl,rfl,⟨_,rfl,rfl⟩,by decide⟩⟩
noncomputable def A4:Option Bool:=
 (Ae ((1:Int),(0:Int),([(0:Int),(0:Int)] :List Int),([([(0:Int),(2:Int)] :List Int),([(1:Int)] :List Int)] :List (List Int)),([] :List Int),([] :List Int),([] :List Int))).bind fun t5=>
 (CN (t5.1,t5.2.1,t5.2.2.1,t5.2.2.2.1,t5.2.2.2.2.1,t5.2.2.2.2.2) (5:Int) (100:Int)).bind fun t13=>
 (CN (t5.1,t5.2.1,t5.2.2.1,t5.2.2.2.1,t5.2.2.2.2.1,t5.2.2.2.2.2) (4:Int) (100:Int)).bind fun t20=>
 cond (Option.isNone t13.1)
 (some false)
 ((cond (t13.2==(0:Int))
  (t13.1.bind fun e91=>
   (Af e91).bind fun t22=>
   cond (t22==(5:Int))
   ((A3 e91 (4:Int)).bind fun t23=>
    (BW t23 ([((1:Int),(2:Int))] :List BI)).bind fun t25=>
    cond t25
    ((A2 e91 (1:Int) (3:Int)).bind fun t26=>
     cond (t26==(4:Int))
     ((A2 e91 (2:Int) (3:Int)).bind fun t27=>
      cond (t27==(-1:Int))
      (cond (Option.isNone t20.1)
       (some (t20.2==(5:Int)))
       (some false))
      (some false))
     (some false))
    (some false))
   (some false))
  (some false)).bind fun z21=>
  some z21)
theorem BZ {φ:AE} {h:AF} {F:List Chk} (gk:FC φ) (s0:St φ (F) h) {r:Bool} (hd:A4=some r):
 CallsH Tryd.prog 8 [] h (BO fun v h'=> ∃ψ:AE,∃y:Bool,Sub φ ψ∧v=((.one (.atom .bool)):Sh).val y∧y=r∧St ψ (F) h'):=by
 refine Aa mixed Tryd.func8 ?_
 rw [FQ]
 unfold Dq
 unfold A4 at hd
 refine Ac (vs:= [.int .u8 (0:Int), .int .u8 (0:Int)]) s0 fun r1 bw ah=> ?_
 refine Ac (vs:= [.int .u8 (0:Int), .int .u8 (2:Int)]) ah fun r2 bx ai=> ?_
 refine Ac (vs:= [.int .u8 (1:Int)]) ai fun r3 bz aj=> ?_
 refine Ac (vs:= [.slice (some ⟨r2,0,none⟩) 2 2, .slice (some ⟨r3,0,none⟩) 1 1]) aj fun r4 c0 ak=> ?_
 have al:=St.lit (r:=(Ro.int .u8)) (l:=([(0:Int),(0:Int)] :List Int)) (n:=2) ak.at3 (.cons (a:= [_]) rfl (.cons (a:= [_]) rfl .nil)) rfl (by decide)
 obtain ⟨c1,s,am,an⟩:=St.freezeRow (t:=((some ⟨r1,0,none⟩,2,2):Slc)) al
 have ao:=St.lit (r:=(Ro.int .u8)) (l:=([(0:Int),(2:Int)] :List Int)) (n:=2) an.at2 (.cons (a:= [_]) rfl (.cons (a:= [_]) rfl .nil)) rfl (by decide)
 obtain ⟨c2,o,ap,aq⟩:=St.freezeRow (t:=((some ⟨r2,0,none⟩,2,2):Slc)) ao
 have ar:=St.lit (r:=(Ro.int .u8)) (l:=([(1:Int)] :List Int)) (n:=1) aq.at1 (.cons (a:= [_]) rfl .nil) rfl (by decide)
 obtain ⟨c3,m,au,av⟩:=St.freezeRow (t:=((some ⟨r3,0,none⟩,1,1):Slc)) ar
 have aw:=St.lit (r:=(Ro.list (Ro.int .u8))) (l:=([([(0:Int),(2:Int)] :List Int),([(1:Int)] :List Int)] :List (List Int))) (n:=2) av (.cons (a:= [_]) ⟨((some ⟨r2,0,none⟩,2,2):Slc),rfl,(ap.mono m)⟩ (.cons (a:= [_]) ⟨((some ⟨r3,0,none⟩,1,1):Slc),rfl,au⟩ .nil)) rfl (by decide)
 obtain ⟨z,p,ax,ay⟩:=St.freezeRow (t:=((some ⟨r4,0,none⟩,2,2):Slc)) aw
 obtain ⟨c4,az,hd⟩:=bS hd
 refine AK (A0 (s_0:=((1:Int),(0:Int),((some ⟨r1,0,none⟩,2,2):Slc),((some ⟨r4,0,none⟩,2,2):Slc),((none,0,0):Slc),((none,0,0):Slc),((none,0,0):Slc),())) (am.mono ((o.trans m).trans p)) ax (Ro.SliceIs.nil (Ro.int .u8) z) (Ro.SliceIs.nil (Ro.int .u8) z) (Ro.SliceIs.nil (Ro.int .u8) z) ay az) ?_
 rintro _ c5 ⟨c6,t5,c7,c8,c9,ca,cb,cc,u,rfl,rfl,a0,a1,a2,a3,a4,a5,b0⟩
 refine ⟨t5,rfl,?_⟩
 try dsimp only at hd
 have cd:=a0.length
 have ce:=a1.length
 have cf:=a2.length
 have cg:=a3.length
 have ch:=a4.length
 have ci:=a5.length
 refine Ac (vs:= [.slice none 0 0, .slice none 0 0, .slice none 0 0, .slice none 0 0, .slice none 0 0, .slice none 0 0]) b0 fun r6 cj b1=> ?_
 refine AJ b1 rfl rfl fun ck b2=> ?_
 refine AJ b2 rfl rfl fun cl b3=> ?_
 refine AJ b3 rfl rfl fun cm b4=> ?_
 refine AJ b4 rfl rfl fun cn b5=> ?_
 refine AJ b5 rfl rfl fun co b6=> ?_
 refine AJ b6 rfl rfl fun cp f=> ?_
 refine AA (x:=t5.1) f rfl ?_
 refine AA (x:=t5.2.1) f rfl ?_
 refine AA (x:=t5.2.2.1) f rfl ?_
 refine AA (x:=t5.2.2.2.1) f rfl ?_
 refine AA (x:=t5.2.2.2.2.1) f rfl ?_
 refine AA (x:=t5.2.2.2.2.2.1) f rfl ?_
 obtain ⟨cq,b7,hd⟩:=bS hd
 refine AK (CO (p_0:=(t5.1,t5.2.1,t5.2.2.1,t5.2.2.2.1,t5.2.2.2.2.1,t5.2.2.2.2.2.1,())) (gk.mono ((((s.trans o).trans m).trans p).trans u)) a0 a1 a2 a3 a4 a5 f b7) ?_
 rintro _ cr ⟨cs,t13,ct,c,rfl,rfl,ac,i⟩
 refine ⟨t13,rfl,?_⟩
 try dsimp only at hd
 have b8:=ac.nil
 refine AA (x:=t5.1) i rfl ?_
 refine AA (x:=t5.2.1) i rfl ?_
 refine AA (x:=t5.2.2.1) i rfl ?_
 refine AA (x:=t5.2.2.2.1) i rfl ?_
 refine AA (x:=t5.2.2.2.2.1) i rfl ?_
 refine AA (x:=t5.2.2.2.2.2.1) i rfl ?_
 obtain ⟨cu,b9,hd⟩:=bS hd
 refine AK (CO (p_0:=(t5.1,t5.2.1,t5.2.2.1,t5.2.2.2.1,t5.2.2.2.2.1,t5.2.2.2.2.2.1,())) (gk.mono (((((s.trans o).trans m).trans p).trans u).trans c)) (a0.mono c) (a1.mono c) (a2.mono c) (a3.mono c) (a4.mono c) (a5.mono c) i b9) ?_
 rintro _ cv ⟨a6,t20,cw,a7,rfl,rfl,ba,a8⟩
 refine ⟨t20,rfl,?_⟩
 try dsimp only at hd
 have bb:=ba.nil
 refine AH hd (by rw [b8] <;>rfl) (fun _ hd=> ?_) (fun _ hd=> ?_)
 ·obtain rfl:=iS hd
  have bc:=a8.tail
  exact AC ⟨a6,false,((((((s.trans o).trans m).trans p).trans u).trans c).trans a7),rfl,rfl,bc⟩
 obtain ⟨bd,b,hd⟩:=bS hd
 refine Ak (fun (y:Bool×Unit) w_ g=> ∃ψ:AE,Sub a6 ψ∧y.1=g∧St ψ (cW 32 r6 [sv t5.1,sv t5.2.1,sv t5.2.2.1,sv t5.2.2.2.1,sv t5.2.2.2.2.1,sv t5.2.2.2.2.2.1] ::F) w_) (g:=bd) ?_ ?_
 ·refine AH b rfl (fun _ b=> ?_) (fun _ b=> ?_)
  ·obtain ⟨cx,be,b⟩:=bS b
   have w:=((ac.mono a7)).get be
   obtain ⟨cy,bf,b⟩:=bS b
   refine AK (Av w a8 bf) ?_
   rintro _ cz ⟨bg,t22,d,rfl,rfl,ad⟩
   refine ⟨t22,rfl,?_⟩
   refine AH b rfl (fun _ b=> ?_) (fun _ b=> ?_)
   ·obtain ⟨d0,bh,b⟩:=bS b
    refine AK (B4 (w.mono d) ad bh) ?_
    rintro _ d1 ⟨d2,t23,d3,j,rfl,rfl,ae,bi⟩
    refine ⟨t23,rfl,?_⟩
    have d4:=ae.length
    refine Ac (vs:= [.int .i64 (1:Int), .int .i64 (2:Int)]) bi fun r24 d5 bj=> ?_
    have bk:=St.lit (r:=Bx) (l:=([((1:Int),(2:Int))] :List BI)) (n:=1) bj (.cons (a:= [_,_]) ⟨[_],_,rfl,rfl,rfl⟩ .nil) rfl (by decide)
    obtain ⟨d6,e,bl,bm⟩:=St.freezeRow (t:=((some ⟨r24,0,none⟩,1,1):Slc)) bk
    obtain ⟨d7,bn,b⟩:=bS b
    refine AK (DQ (ae.mono e) bl bm bn) ?_
    rintro _ d8 ⟨bo,t25,k,rfl,rfl,af⟩
    refine ⟨t25,rfl,?_⟩
    refine AH b rfl (fun _ b=> ?_) (fun _ b=> ?_)
    ·obtain ⟨d9,bp,b⟩:=bS b
     refine AK (B8 (w.mono (((d.trans j).trans e).trans k)) af bp) ?_
     rintro _ da ⟨bq,t26,q,rfl,rfl,ag⟩
     refine ⟨t26,rfl,?_⟩
     refine AH b rfl (fun _ b=> ?_) (fun _ b=> ?_)
     ·obtain ⟨db,br,b⟩:=bS b
      refine AK (B8 (w.mono ((((d.trans j).trans e).trans k).trans q)) ag br) ?_
      rintro _ dc ⟨a9,t27,aa,rfl,rfl,ab⟩
      refine ⟨t27,rfl,?_⟩
      refine AH b rfl (fun _ b=> ?_) (fun _ b=> ?_)
      ·refine AH b (by rw [bb] <;>rfl) (fun _ b=> ?_) (fun _ b=> ?_)
       ·obtain rfl:=iS b
        exact AN ((t20.2.1==(5:Int)),()) rfl ⟨a9,(((((d.trans j).trans e).trans k).trans q).trans aa),rfl,ab⟩
       obtain rfl:=iS b
       exact AN (false,()) rfl ⟨a9,(((((d.trans j).trans e).trans k).trans q).trans aa),rfl,ab⟩
      obtain rfl:=iS b
      exact AN (false,()) rfl ⟨a9,(((((d.trans j).trans e).trans k).trans q).trans aa),rfl,ab⟩
     obtain rfl:=iS b
     exact AN (false,()) rfl ⟨bq,((((d.trans j).trans e).trans k).trans q),rfl,ag⟩
    obtain rfl:=iS b
    exact AN (false,()) rfl ⟨bo,(((d.trans j).trans e).trans k),rfl,af⟩
   obtain rfl:=iS b
   exact AN (false,()) rfl ⟨bg,d,rfl,ad⟩
  obtain rfl:=iS b
  exact AN (false,()) rfl ⟨a6,(Sub.refl _),rfl,a8⟩
 rintro z21 dd ⟨bs,bt,rfl,bu⟩
 try dsimp only at hd
 obtain rfl:=iS hd
 have bv:=bu.tail
 exact AC ⟨bs,z21.1,(((((((s.trans o).trans m).trans p).trans u).trans c).trans a7).trans bt),rfl,rfl,bv⟩
noncomputable def Ba (small_0:Gv) (more_1:Int):Option Bool:=
 (A4).bind fun t2=>
 (An (small_0.1,small_0.2.1,small_0.2.2.1,small_0.2.2.2.1,small_0.2.2.2.2.1,small_0.2.2.2.2.2.1,small_0.2.2.2.2.2.2) (12:Int) (5:Int)).bind fun t10=>
 cond (!t10)
 (some t2)
 ((Ae (small_0.1,small_0.2.1,small_0.2.2.1,small_0.2.2.2.1,small_0.2.2.2.2.1,small_0.2.2.2.2.2.1,small_0.2.2.2.2.2.2)).bind fun t18=>
  (CN (t18.1,t18.2.1,t18.2.2.1,t18.2.2.2.1,t18.2.2.2.2.1,t18.2.2.2.2.2) (2000:Int) (40000:Int)).bind fun t26=>
  cond (Option.isNone t26.1)
  ((cond t2
   (some (t26.2==(5:Int)))
   (some false)).bind fun z27=>
   some z27)
  (t26.1.bind fun e89=>
   (Af e89).bind fun t28=>
   (Bf e89).bind fun t29=>
   (CN (t18.1,t18.2.1,t18.2.2.1,t18.2.2.2.1,t18.2.2.2.2.1,t18.2.2.2.2.2) t28 t29).bind fun t36=>
   (CN (t18.1,t18.2.1,t18.2.2.1,t18.2.2.2.1,t18.2.2.2.2.1,t18.2.2.2.2.2) (IntKind.wrap .i64 (t28 - (1:Int))) t29).bind fun t43=>
   (CN (t18.1,t18.2.1,t18.2.2.1,t18.2.2.2.1,t18.2.2.2.2.1,t18.2.2.2.2.2) t28 (IntKind.wrap .i64 (t29 - (1:Int)))).bind fun t50=>
   (CN (t18.1,t18.2.1,t18.2.2.1,t18.2.2.2.1,t18.2.2.2.2.1,t18.2.2.2.2.2) (IntKind.wrap .i64 (t28+(IntKind.wrap .i64 more_1))) (IntKind.wrap .i64 (t29+(IntKind.wrap .i64 more_1)))).bind fun t57=>
   (cond (Option.isNone t36.1)
   (some true)
   (some (Option.isNone t57.1))).bind fun z58=>
   cond z58
   (some false)
   ((cond t2
    (cond (t26.2==(0:Int))
     (cond (t36.2==(0:Int))
      (cond (t43.2==(5:Int))
       (cond (t50.2==(5:Int))
        (cond (t57.2==(0:Int))
         (t36.1.bind fun e156=>
          (Af e156).bind fun t60=>
          cond (t60==t28)
          (t57.1.bind fun e166=>
           (Af e166).bind fun t61=>
           cond (t61==t28)
           ((Bf e156).bind fun t62=>
            cond (t62==t29)
            ((Bf e166).bind fun t63=>
             some (t63==t29))
            (some false))
           (some false))
          (some false))
         (some false))
        (some false))
       (some false))
      (some false))
     (some false))
    (some false)).bind fun z59=>
    some z59)))
theorem EA {φ:AE} {h:AF} {F:List Chk} {small_0:Int×Int×(Option Addr×Nat×Nat)×(Option Addr×Nat×Nat)×(Option Addr×Nat×Nat)×(Option Addr×Nat×Nat)×(Option Addr×Nat×Nat)×Unit} {aa:List Int} {ab:List (List Int)} {ac:List Int} {ad:List Int} {ae:List Int} {more_1:Int} (gk:FC φ) (af:Ro.SliceIs (Ro.int .u8) φ small_0.2.2.1 aa) (ag:Ro.SliceIs (Ro.list (Ro.int .u8)) φ small_0.2.2.2.1 ab) (ah:Ro.SliceIs (Ro.int .u8) φ small_0.2.2.2.2.1 ac) (ai:Ro.SliceIs (Ro.int .u8) φ small_0.2.2.2.2.2.1 ad) (aj:Ro.SliceIs (Ro.int .u8) φ small_0.2.2.2.2.2.2.1 ae) (s0:St φ (F) h) {r:Bool} (hd:Ba (small_0.1,small_0.2.1,aa,ab,ac,ad,ae) more_1=some r):
 CallsH Tryd.prog 3 [(.agg #[(.int .u8 small_0.1),(.int .u8 small_0.2.1),(.slice small_0.2.2.1.1 small_0.2.2.1.2.1 small_0.2.2.1.2.2),(.slice small_0.2.2.2.1.1 small_0.2.2.2.1.2.1 small_0.2.2.2.1.2.2),(.slice small_0.2.2.2.2.1.1 small_0.2.2.2.2.1.2.1 small_0.2.2.2.2.1.2.2),(.slice small_0.2.2.2.2.2.1.1 small_0.2.2.2.2.2.1.2.1 small_0.2.2.2.2.2.1.2.2),(.slice small_0.2.2.2.2.2.2.1.1 small_0.2.2.2.2.2.2.1.2.1 small_0.2.2.2.2.2.2.1.2.2)]),(.int .u8 more_1)] h (BO fun v h'=> ∃ψ:AE,∃y:Bool,Sub φ ψ∧v=((.one (.atom .bool)):Sh).val y∧y=r∧St ψ (F) h'):=by
 refine Aa mixed Tryd.func3 ?_
 rw [D5]
 unfold Ce
 unfold Ba at hd
 have dc:small_0.2.2.1.2.1=List.length aa:=af.length
 have dd:small_0.2.2.2.1.2.1=List.length ab:=ag.length
 have de:small_0.2.2.2.2.1.2.1=List.length ac:=ah.length
 have df:small_0.2.2.2.2.2.1.2.1=List.length ad:=ai.length
 have dg:small_0.2.2.2.2.2.2.1.2.1=List.length ae:=aj.length
 refine Ac (vs:= [.int .u8 small_0.1, .int .u8 small_0.2.1,sv small_0.2.2.1,sv small_0.2.2.2.1,sv small_0.2.2.2.2.1,sv small_0.2.2.2.2.2.1,sv small_0.2.2.2.2.2.2.1]) s0 fun r1 dh b1=> ?_
 obtain ⟨di,b2,hd⟩:=bS hd
 refine AK (BZ gk b1 b2) ?_
 rintro _ dj ⟨dk,t2,f,rfl,rfl,m⟩
 refine ⟨t2,rfl,?_⟩
 refine AA (x:=small_0.1) m rfl ?_
 refine AA (x:=small_0.2.1) m rfl ?_
 refine AA (x:=small_0.2.2.1) m rfl ?_
 refine AA (x:=small_0.2.2.2.1) m rfl ?_
 refine AA (x:=small_0.2.2.2.2.1) m rfl ?_
 refine AA (x:=small_0.2.2.2.2.2.1) m rfl ?_
 refine AA (x:=small_0.2.2.2.2.2.2.1) m rfl ?_
 obtain ⟨dl,b3,hd⟩:=bS hd
 refine AK (BJ (s_0:=(small_0.1,small_0.2.1,small_0.2.2.1,small_0.2.2.2.1,small_0.2.2.2.2.1,small_0.2.2.2.2.2.1,small_0.2.2.2.2.2.2.1,())) (af.mono f) (ag.mono f) (ah.mono f) (ai.mono f) (aj.mono f) m b3) ?_
 rintro _ dm ⟨b4,t10,j,rfl,rfl,l⟩
 refine ⟨t10,rfl,?_⟩
 refine AH hd rfl (fun _ hd=> ?_) (fun _ hd=> ?_)
 ·obtain rfl:=iS hd
  have b5:=l.tail
  exact AC ⟨b4,t2,(f.trans j),rfl,rfl,b5⟩
 refine AA (x:=small_0.1) l rfl ?_
 refine AA (x:=small_0.2.1) l rfl ?_
 refine AA (x:=small_0.2.2.1) l rfl ?_
 refine AA (x:=small_0.2.2.2.1) l rfl ?_
 refine AA (x:=small_0.2.2.2.2.1) l rfl ?_
 refine AA (x:=small_0.2.2.2.2.2.1) l rfl ?_
 refine AA (x:=small_0.2.2.2.2.2.2.1) l rfl ?_
 obtain ⟨dn,b6,hd⟩:=bS hd
 refine AK (A0 (s_0:=(small_0.1,small_0.2.1,small_0.2.2.1,small_0.2.2.2.1,small_0.2.2.2.2.1,small_0.2.2.2.2.2.1,small_0.2.2.2.2.2.2.1,())) (af.mono (f.trans j)) (ag.mono (f.trans j)) (ah.mono (f.trans j)) (ai.mono (f.trans j)) (aj.mono (f.trans j)) l b6) ?_
 rintro _ dp ⟨dq,t18,dr,ds,dt,du,dv,dw,n,rfl,rfl,z,a0,a1,a2,a3,a4,b7⟩
 refine ⟨t18,rfl,?_⟩
 try dsimp only at hd
 have dx:=z.length
 have dy:=a0.length
 have dz:=a1.length
 have e0:=a2.length
 have e1:=a3.length
 have e2:=a4.length
 refine Ac (vs:= [.slice none 0 0, .slice none 0 0, .slice none 0 0, .slice none 0 0, .slice none 0 0, .slice none 0 0]) b7 fun r19 e3 b8=> ?_
 refine AJ b8 rfl rfl fun e4 b9=> ?_
 refine AJ b9 rfl rfl fun e5 ba=> ?_
 refine AJ ba rfl rfl fun e6 bb=> ?_
 refine AJ bb rfl rfl fun e7 bc=> ?_
 refine AJ bc rfl rfl fun e8 bd=> ?_
 refine AJ bd rfl rfl fun e9 q=> ?_
 refine AA (x:=t18.1) q rfl ?_
 refine AA (x:=t18.2.1) q rfl ?_
 refine AA (x:=t18.2.2.1) q rfl ?_
 refine AA (x:=t18.2.2.2.1) q rfl ?_
 refine AA (x:=t18.2.2.2.2.1) q rfl ?_
 refine AA (x:=t18.2.2.2.2.2.1) q rfl ?_
 obtain ⟨ea,be,hd⟩:=bS hd
 refine AK (CO (p_0:=(t18.1,t18.2.1,t18.2.2.1,t18.2.2.2.1,t18.2.2.2.2.1,t18.2.2.2.2.2.1,())) (gk.mono ((f.trans j).trans n)) z a0 a1 a2 a3 a4 q be) ?_
 rintro _ eb ⟨ak,t26,ec,b,rfl,rfl,ap,al⟩
 refine ⟨t26,rfl,?_⟩
 try dsimp only at hd
 have bf:=ap.nil
 refine AH hd (by rw [bf] <;>rfl) (fun _ hd=> ?_) (fun _ hd=> ?_)
 ·obtain ⟨bg,a6,hd⟩:=bS hd
  refine Ak (fun (y:Bool×Unit) w_ g=> ∃ψ:AE,Sub ak ψ∧y.1=g∧St ψ (cW 32 r19 [sv t18.1,sv t18.2.1,sv t18.2.2.1,sv t18.2.2.2.1,sv t18.2.2.2.2.1,sv t18.2.2.2.2.2.1] ::cW 25 r1 [.int .u8 small_0.1, .int .u8 small_0.2.1,sv small_0.2.2.1,sv small_0.2.2.2.1,sv small_0.2.2.2.2.1,sv small_0.2.2.2.2.2.1,sv small_0.2.2.2.2.2.2.1] ::F) w_) (g:=bg) ?_ ?_
  ·refine AH a6 rfl (fun _ a6=> ?_) (fun _ a6=> ?_)
   ·have bh:=al.at1
    have bi:=bh.at1
    obtain rfl:=iS a6
    exact AN ((t26.2.1==(5:Int)),()) rfl ⟨ak,(Sub.refl _),rfl,bi⟩
   have bj:=al.at1
   have bk:=bj.at1
   obtain rfl:=iS a6
   exact AN (false,()) rfl ⟨ak,(Sub.refl _),rfl,bk⟩
  rintro z27 ed ⟨bl,bm,rfl,bn⟩
  try dsimp only at hd
  obtain rfl:=iS hd
  have bo:=bn.tail
  have bp:=bo.tail
  exact AC ⟨bl,z27.1,((((f.trans j).trans n).trans b).trans bm),rfl,rfl,bp⟩
 obtain ⟨ee,bq,hd⟩:=bS hd
 have aq:=(ap).get bq
 obtain ⟨ef,br,hd⟩:=bS hd
 refine AK (Av aq al br) ?_
 rintro _ eg ⟨eh,t28,c,rfl,rfl,bs⟩
 refine ⟨t28,rfl,?_⟩
 obtain ⟨ei,bt,hd⟩:=bS hd
 refine AK (B9 (aq.mono c) bs bt) ?_
 rintro _ ej ⟨ek,t29,d,rfl,rfl,s⟩
 refine ⟨t29,rfl,?_⟩
 refine AA (x:=t18.1) s rfl ?_
 refine AA (x:=t18.2.1) s rfl ?_
 refine AA (x:=t18.2.2.1) s rfl ?_
 refine AA (x:=t18.2.2.2.1) s rfl ?_
 refine AA (x:=t18.2.2.2.2.1) s rfl ?_
 refine AA (x:=t18.2.2.2.2.2.1) s rfl ?_
 obtain ⟨el,bu,hd⟩:=bS hd
 refine AK (CO (p_0:=(t18.1,t18.2.1,t18.2.2.1,t18.2.2.2.1,t18.2.2.2.2.1,t18.2.2.2.2.2.1,())) (gk.mono (((((f.trans j).trans n).trans b).trans c).trans d)) (z.mono ((b.trans c).trans d)) (a0.mono ((b.trans c).trans d)) (a1.mono ((b.trans c).trans d)) (a2.mono ((b.trans c).trans d)) (a3.mono ((b.trans c).trans d)) (a4.mono ((b.trans c).trans d)) s bu) ?_
 rintro _ em ⟨en,t36,eo,e,rfl,rfl,ar,t⟩
 refine ⟨t36,rfl,?_⟩
 try dsimp only at hd
 have bv:=ar.nil
 refine AA (x:=t18.1) t rfl ?_
 refine AA (x:=t18.2.1) t rfl ?_
 refine AA (x:=t18.2.2.1) t rfl ?_
 refine AA (x:=t18.2.2.2.1) t rfl ?_
 refine AA (x:=t18.2.2.2.2.1) t rfl ?_
 refine AA (x:=t18.2.2.2.2.2.1) t rfl ?_
 obtain ⟨ep,bw,hd⟩:=bS hd
 refine AK (CO (p_0:=(t18.1,t18.2.1,t18.2.2.1,t18.2.2.2.1,t18.2.2.2.2.1,t18.2.2.2.2.2.1,())) (gk.mono ((((((f.trans j).trans n).trans b).trans c).trans d).trans e)) (z.mono (((b.trans c).trans d).trans e)) (a0.mono (((b.trans c).trans d).trans e)) (a1.mono (((b.trans c).trans d).trans e)) (a2.mono (((b.trans c).trans d).trans e)) (a3.mono (((b.trans c).trans d).trans e)) (a4.mono (((b.trans c).trans d).trans e)) t bw) ?_
 rintro _ er ⟨es,t43,eu,i,rfl,rfl,bx,u⟩
 refine ⟨t43,rfl,?_⟩
 try dsimp only at hd
 have ev:=bx.nil
 refine AA (x:=t18.1) u rfl ?_
 refine AA (x:=t18.2.1) u rfl ?_
 refine AA (x:=t18.2.2.1) u rfl ?_
 refine AA (x:=t18.2.2.2.1) u rfl ?_
 refine AA (x:=t18.2.2.2.2.1) u rfl ?_
 refine AA (x:=t18.2.2.2.2.2.1) u rfl ?_
 obtain ⟨ew,bz,hd⟩:=bS hd
 refine AK (CO (p_0:=(t18.1,t18.2.1,t18.2.2.1,t18.2.2.2.1,t18.2.2.2.2.1,t18.2.2.2.2.2.1,())) (gk.mono (((((((f.trans j).trans n).trans b).trans c).trans d).trans e).trans i)) (z.mono ((((b.trans c).trans d).trans e).trans i)) (a0.mono ((((b.trans c).trans d).trans e).trans i)) (a1.mono ((((b.trans c).trans d).trans e).trans i)) (a2.mono ((((b.trans c).trans d).trans e).trans i)) (a3.mono ((((b.trans c).trans d).trans e).trans i)) (a4.mono ((((b.trans c).trans d).trans e).trans i)) u bz) ?_
 rintro _ ex ⟨ey,t50,ez,k,rfl,rfl,c0,w⟩
 refine ⟨t50,rfl,?_⟩
 try dsimp only at hd
 have f0:=c0.nil
 refine AA (x:=t18.1) w rfl ?_
 refine AA (x:=t18.2.1) w rfl ?_
 refine AA (x:=t18.2.2.1) w rfl ?_
 refine AA (x:=t18.2.2.2.1) w rfl ?_
 refine AA (x:=t18.2.2.2.2.1) w rfl ?_
 refine AA (x:=t18.2.2.2.2.2.1) w rfl ?_
 obtain ⟨f1,c1,hd⟩:=bS hd
 refine AK (CO (p_0:=(t18.1,t18.2.1,t18.2.2.1,t18.2.2.2.1,t18.2.2.2.2.1,t18.2.2.2.2.2.1,())) (gk.mono ((((((((f.trans j).trans n).trans b).trans c).trans d).trans e).trans i).trans k)) (z.mono (((((b.trans c).trans d).trans e).trans i).trans k)) (a0.mono (((((b.trans c).trans d).trans e).trans i).trans k)) (a1.mono (((((b.trans c).trans d).trans e).trans i).trans k)) (a2.mono (((((b.trans c).trans d).trans e).trans i).trans k)) (a3.mono (((((b.trans c).trans d).trans e).trans i).trans k)) (a4.mono (((((b.trans c).trans d).trans e).trans i).trans k)) w c1) ?_
 rintro _ f2 ⟨am,t57,f3,an,rfl,rfl,au,av⟩
 refine ⟨t57,rfl,?_⟩
 try dsimp only at hd
 have c2:=au.nil
 obtain ⟨c3,a7,hd⟩:=bS hd
 refine Ak (fun (y:Bool×Unit) w_ g=> ∃ψ:AE,Sub am ψ∧y.1=g∧St ψ (cW 32 r19 [sv t18.1,sv t18.2.1,sv t18.2.2.1,sv t18.2.2.2.1,sv t18.2.2.2.2.1,sv t18.2.2.2.2.2.1] ::cW 25 r1 [.int .u8 small_0.1, .int .u8 small_0.2.1,sv small_0.2.2.1,sv small_0.2.2.2.1,sv small_0.2.2.2.2.1,sv small_0.2.2.2.2.2.1,sv small_0.2.2.2.2.2.2.1] ::F) w_) (g:=c3) ?_ ?_
 ·refine AH a7 (by rw [bv] <;>rfl) (fun _ a7=> ?_) (fun _ a7=> ?_)
  ·have c4:=av.at1
   have c5:=c4.at1
   obtain rfl:=iS a7
   exact AN (true,()) rfl ⟨am,(Sub.refl _),rfl,c5⟩
  have c6:=av.at1
  have c7:=c6.at1
  obtain rfl:=iS a7
  exact AN ((Option.isNone t57.1),()) rfl ⟨am,(Sub.refl _),(by rw [c2]),c7⟩
 rintro z58 f4 ⟨o,a9,rfl,p⟩
 try dsimp only at hd
 refine AH hd rfl (fun _ hd=> ?_) (fun _ hd=> ?_)
 ·obtain rfl:=iS hd
  have c8:=p.tail
  have c9:=c8.tail
  exact AC ⟨o,false,((((((((((f.trans j).trans n).trans b).trans c).trans d).trans e).trans i).trans k).trans an).trans a9),rfl,rfl,c9⟩
 obtain ⟨ca,a,hd⟩:=bS hd
 refine Ak (fun (y:Bool×Unit) w_ g=> ∃ψ:AE,Sub o ψ∧y.1=g∧St ψ (cW 32 r19 [sv t18.1,sv t18.2.1,sv t18.2.2.1,sv t18.2.2.2.1,sv t18.2.2.2.2.1,sv t18.2.2.2.2.2.1] ::cW 25 r1 [.int .u8 small_0.1, .int .u8 small_0.2.1,sv small_0.2.2.1,sv small_0.2.2.2.1,sv small_0.2.2.2.2.1,sv small_0.2.2.2.2.2.1,sv small_0.2.2.2.2.2.2.1] ::F) w_) (g:=ca) ?_ ?_
 ·refine AH a rfl (fun _ a=> ?_) (fun _ a=> ?_)
  ·refine AH a rfl (fun _ a=> ?_) (fun _ a=> ?_)
   ·refine AH a rfl (fun _ a=> ?_) (fun _ a=> ?_)
    ·refine AH a rfl (fun _ a=> ?_) (fun _ a=> ?_)
     ·refine AH a rfl (fun _ a=> ?_) (fun _ a=> ?_)
      ·refine AH a rfl (fun _ a=> ?_) (fun _ a=> ?_)
       ·obtain ⟨f5,cb,a⟩:=bS a
        have aw:=((ar.mono (((i.trans k).trans an).trans a9))).get cb
        obtain ⟨f6,cc,a⟩:=bS a
        refine AK (Av aw p cc) ?_
        rintro _ f7 ⟨cd,t60,a5,rfl,rfl,ax⟩
        refine ⟨t60,rfl,?_⟩
        refine AH a rfl (fun _ a=> ?_) (fun _ a=> ?_)
        ·obtain ⟨f8,ce,a⟩:=bS a
         have ay:=((au.mono (a9.trans a5))).get ce
         obtain ⟨f9,cf,a⟩:=bS a
         refine AK (Av ay ax cf) ?_
         rintro _ fa ⟨cg,t61,a8,rfl,rfl,az⟩
         refine ⟨t61,rfl,?_⟩
         refine AH a rfl (fun _ a=> ?_) (fun _ a=> ?_)
         ·obtain ⟨fb,ch,a⟩:=bS a
          refine AK (B9 (aw.mono (a5.trans a8)) az ch) ?_
          rintro _ fc ⟨ci,t62,ao,rfl,rfl,b0⟩
          refine ⟨t62,rfl,?_⟩
          refine AH a rfl (fun _ a=> ?_) (fun _ a=> ?_)
          ·obtain ⟨fd,cj,a⟩:=bS a
           refine AK (B9 (ay.mono (a8.trans ao)) b0 cj) ?_
           rintro _ fe ⟨ck,t63,cl,rfl,rfl,cm⟩
           refine ⟨t63,rfl,?_⟩
           have cn:=cm.at1
           have co:=cn.at1
           obtain rfl:=iS a
           exact AN ((t63==t29),()) rfl ⟨ck,(((a5.trans a8).trans ao).trans cl),rfl,co⟩
          have cp:=b0.at1
          have cq:=cp.at1
          obtain rfl:=iS a
          exact AN (false,()) rfl ⟨ci,((a5.trans a8).trans ao),rfl,cq⟩
         have cr:=az.at1
         have cs:=cr.at1
         obtain rfl:=iS a
         exact AN (false,()) rfl ⟨cg,(a5.trans a8),rfl,cs⟩
        have ct:=ax.at1
        have cu:=ct.at1
        obtain rfl:=iS a
        exact AN (false,()) rfl ⟨cd,a5,rfl,cu⟩
       have cv:=p.at1
       have cw:=cv.at1
       obtain rfl:=iS a
       exact AN (false,()) rfl ⟨o,(Sub.refl _),rfl,cw⟩
      have cx:=p.at1
      have cy:=cx.at1
      obtain rfl:=iS a
      exact AN (false,()) rfl ⟨o,(Sub.refl _),rfl,cy⟩
     have cz:=p.at1
     have d0:=cz.at1
     obtain rfl:=iS a
     exact AN (false,()) rfl ⟨o,(Sub.refl _),rfl,d0⟩
    have d1:=p.at1
    have d2:=d1.at1
    obtain rfl:=iS a
    exact AN (false,()) rfl ⟨o,(Sub.refl _),rfl,d2⟩
   have d3:=p.at1
   have d4:=d3.at1
   obtain rfl:=iS a
   exact AN (false,()) rfl ⟨o,(Sub.refl _),rfl,d4⟩
  have d5:=p.at1
  have d6:=d5.at1
  obtain rfl:=iS a
  exact AN (false,()) rfl ⟨o,(Sub.refl _),rfl,d6⟩
 rintro z59 ff ⟨d7,d8,rfl,d9⟩
 try dsimp only at hd
 obtain rfl:=iS hd
 have da:=d9.tail
 have db:=da.tail
 exact AC ⟨d7,z59.1,(((((((((((f.trans j).trans n).trans b).trans c).trans d).trans e).trans i).trans k).trans an).trans a9).trans d8),rfl,rfl,db⟩
noncomputable def BY (small_0:Gv):Option Bool:=
 (A4).bind fun t2=>
 (An (small_0.1,small_0.2.1,small_0.2.2.1,small_0.2.2.2.1,small_0.2.2.2.2.1,small_0.2.2.2.2.2.1,small_0.2.2.2.2.2.2) (12:Int) (5:Int)).bind fun t10=>
 cond (!t10)
 (some t2)
 ((Ae (small_0.1,small_0.2.1,small_0.2.2.1,small_0.2.2.2.1,small_0.2.2.2.2.1,small_0.2.2.2.2.2.1,small_0.2.2.2.2.2.2)).bind fun t18=>
  (CN (t18.1,t18.2.1,t18.2.2.1,t18.2.2.2.1,t18.2.2.2.2.1,t18.2.2.2.2.2) (2000:Int) (40000:Int)).bind fun t26=>
  cond (Option.isNone t26.1)
  ((cond t2
   (some (t26.2==(5:Int)))
   (some false)).bind fun z27=>
   some z27)
  ((loop (σ:=(Int×Int)) (β:=AR Int Bool) ((0:Int),(0:Int)) fun z29=>
   t26.1.bind fun e99=>
   (Af e99).bind fun t30=>
   cond (decide (z29.1<t30))
   ((BR e99 z29.1).bind fun t31=>
    (A3 e99 z29.1).bind fun t32=>
    (CI (σ:=List Int) (β:=Bool) (0:Int) (((List.length t31):Nat):Int) ([] :List Int) fun i_z34 z34=>
     (idx t31 i_z34).bind fun e152=>
     (BS (t18.1,t18.2.1,t18.2.2.1,t18.2.2.2.1,t18.2.2.2.2.1,t18.2.2.2.2.2) (e152.1,e152.2)).bind fun t44=>
     (app z34 ([t44] :List Int)).bind fun t46=>
     (cond (decide (i_z34>(0:Int)))
     ((idx t31 (IntKind.wrap .i64 (i_z34 - (1:Int)))).bind fun e182=>
      (idx t31 i_z34).bind fun e193=>
      cond (decide (e182.1>e193.1))
      (some true)
      ((idx t31 (IntKind.wrap .i64 (i_z34 - (1:Int)))).bind fun e207=>
       (idx t31 i_z34).bind fun e218=>
       cond (e207.1==e218.1)
       ((idx t31 (IntKind.wrap .i64 (i_z34 - (1:Int)))).bind fun e229=>
        (idx t31 i_z34).bind fun e240=>
        some (decide (e229.2≥e240.2)))
       (some false)))
     (some false)).bind fun z47=>
     cond z47
     (some (AR.done false))
     (some (AR.next t46))).bind fun e_z33=>match e_z33 with
    | .next z33=>
     (CI (σ:=Unit) (β:=Bool) (0:Int) (((List.length t18.2.2.1):Nat):Int) () fun i_z61 z61=>
      ((idx t18.2.2.1 i_z61).bind fun e315=>
      (Bv z33 e315.1).bind fun t67=>
      cond t67
      ((BK t31 (i_z61,(0:Int))).bind fun t68=>
       some (!t68))
      (some false)).bind fun z63=>
      cond z63
      (some (AR.done false))
      (some (AR.next ()))).bind fun e_z60=>match e_z60 with
     | .next z60=>
      (CI (σ:=Unit) (β:=Bool) (0:Int) (((List.length t31):Nat):Int) () fun i_z70 z70=>
       ((idx t31 i_z70).bind fun e386=>
       (BK t32 (e386.1,e386.2)).bind fun t75=>
       cond (!t75)
       ((idx t31 i_z70).bind fun e403=>
        cond (e403.2 !=(0:Int))
        (some true)
        ((idx t31 i_z70).bind fun e416=>
         (idx t18.2.2.1 e416.1).bind fun e427=>
         (Bv z33 e427.1).bind fun t83=>
         some (!t83)))
       (some false)).bind fun z71=>
       cond z71
       (some (AR.done false))
       (some (AR.next ()))).bind fun e_z69=>match e_z69 with
      | .next z69=>
       (CI (σ:=Unit) (β:=Bool) (0:Int) (((List.length t32):Nat):Int) () fun i_z85 z85=>
        (idx t32 i_z85).bind fun e491=>
        (BK t31 (e491.1,e491.2)).bind fun t89=>
        cond (!t89)
        (some (AR.done false))
        (some (AR.next ()))).bind fun e_z84=>match e_z84 with
       | .next z84=>
        some (AR.next ((IntKind.wrap .i64 (z29.1+(1:Int))),(IntKind.wrap .i64 (z29.2+(((List.length t31):Nat):Int)))))
       | .done q520=>some (AR.done (AR.done q520))
      | .done q521=>some (AR.done (AR.done q521))
     | .done q522=>some (AR.done (AR.done q522))
    | .done q523=>some (AR.done (AR.done q523)))
   (some (AR.done (AR.next z29.2)))).bind fun e_z28=>match e_z28 with
   | .next z28=>
    (cond t2
    (t26.1.bind fun e537=>
     (Bf e537).bind fun t91=>
     cond (z28==t91)
     ((Af e537).bind fun t92=>
      some (decide (t92>(0:Int))))
     (some false))
    (some false)).bind fun z90=>
    some z90
   | .done q564=>some q564))
theorem D2 {φ:AE} {h:AF} {F:List Chk} {small_0:Int×Int×(Option Addr×Nat×Nat)×(Option Addr×Nat×Nat)×(Option Addr×Nat×Nat)×(Option Addr×Nat×Nat)×(Option Addr×Nat×Nat)×Unit} {aq:List Int} {ar:List (List Int)} {au:List Int} {av:List Int} {aw:List Int} (gk:FC φ) (ax:Ro.SliceIs (Ro.int .u8) φ small_0.2.2.1 aq) (ay:Ro.SliceIs (Ro.list (Ro.int .u8)) φ small_0.2.2.2.1 ar) (az:Ro.SliceIs (Ro.int .u8) φ small_0.2.2.2.2.1 au) (b0:Ro.SliceIs (Ro.int .u8) φ small_0.2.2.2.2.2.1 av) (b1:Ro.SliceIs (Ro.int .u8) φ small_0.2.2.2.2.2.2.1 aw) (s0:St φ (F) h) {r:Bool} (hd:BY (small_0.1,small_0.2.1,aq,ar,au,av,aw)=some r):
 CallsH Tryd.prog 4 [(.agg #[(.int .u8 small_0.1),(.int .u8 small_0.2.1),(.slice small_0.2.2.1.1 small_0.2.2.1.2.1 small_0.2.2.1.2.2),(.slice small_0.2.2.2.1.1 small_0.2.2.2.1.2.1 small_0.2.2.2.1.2.2),(.slice small_0.2.2.2.2.1.1 small_0.2.2.2.2.1.2.1 small_0.2.2.2.2.1.2.2),(.slice small_0.2.2.2.2.2.1.1 small_0.2.2.2.2.2.1.2.1 small_0.2.2.2.2.2.1.2.2),(.slice small_0.2.2.2.2.2.2.1.1 small_0.2.2.2.2.2.2.1.2.1 small_0.2.2.2.2.2.2.1.2.2)])] h (BO fun v h'=> ∃ψ:AE,∃y:Bool,Sub φ ψ∧v=((.one (.atom .bool)):Sh).val y∧y=r∧St ψ (F) h'):=by
 refine Aa mixed Tryd.func4 ?_
 rw [Dp]
 unfold CZ
 unfold BY at hd
 have l1:small_0.2.2.1.2.1=List.length aq:=ax.length
 have l2:small_0.2.2.2.1.2.1=List.length ar:=ay.length
 have l3:small_0.2.2.2.2.1.2.1=List.length au:=az.length
 have l4:small_0.2.2.2.2.2.1.2.1=List.length av:=b0.length
 have l5:small_0.2.2.2.2.2.2.1.2.1=List.length aw:=b1.length
 refine Ac (vs:= [.int .u8 small_0.1, .int .u8 small_0.2.1,sv small_0.2.2.1,sv small_0.2.2.2.1,sv small_0.2.2.2.2.1,sv small_0.2.2.2.2.2.1,sv small_0.2.2.2.2.2.2.1]) s0 fun r1 l6 cr=> ?_
 obtain ⟨l7,cs,hd⟩:=bS hd
 refine AK (BZ gk cr cs) ?_
 rintro _ l8 ⟨l9,t2,f,rfl,rfl,a6⟩
 refine ⟨t2,rfl,?_⟩
 refine AA (x:=small_0.1) a6 rfl ?_
 refine AA (x:=small_0.2.1) a6 rfl ?_
 refine AA (x:=small_0.2.2.1) a6 rfl ?_
 refine AA (x:=small_0.2.2.2.1) a6 rfl ?_
 refine AA (x:=small_0.2.2.2.2.1) a6 rfl ?_
 refine AA (x:=small_0.2.2.2.2.2.1) a6 rfl ?_
 refine AA (x:=small_0.2.2.2.2.2.2.1) a6 rfl ?_
 obtain ⟨la,ct,hd⟩:=bS hd
 refine AK (BJ (s_0:=(small_0.1,small_0.2.1,small_0.2.2.1,small_0.2.2.2.1,small_0.2.2.2.2.1,small_0.2.2.2.2.2.1,small_0.2.2.2.2.2.2.1,())) (ax.mono f) (ay.mono f) (az.mono f) (b0.mono f) (b1.mono f) a6 ct) ?_
 rintro _ lb ⟨cu,t10,p,rfl,rfl,a3⟩
 refine ⟨t10,rfl,?_⟩
 refine AH hd rfl (fun _ hd=> ?_) (fun _ hd=> ?_)
 ·obtain rfl:=iS hd
  have cv:=a3.tail
  exact AC ⟨cu,t2,(f.trans p),rfl,rfl,cv⟩
 refine AA (x:=small_0.1) a3 rfl ?_
 refine AA (x:=small_0.2.1) a3 rfl ?_
 refine AA (x:=small_0.2.2.1) a3 rfl ?_
 refine AA (x:=small_0.2.2.2.1) a3 rfl ?_
 refine AA (x:=small_0.2.2.2.2.1) a3 rfl ?_
 refine AA (x:=small_0.2.2.2.2.2.1) a3 rfl ?_
 refine AA (x:=small_0.2.2.2.2.2.2.1) a3 rfl ?_
 obtain ⟨lc,cw,hd⟩:=bS hd
 refine AK (A0 (s_0:=(small_0.1,small_0.2.1,small_0.2.2.1,small_0.2.2.2.1,small_0.2.2.2.2.1,small_0.2.2.2.2.2.1,small_0.2.2.2.2.2.2.1,())) (ax.mono (f.trans p)) (ay.mono (f.trans p)) (az.mono (f.trans p)) (b0.mono (f.trans p)) (b1.mono (f.trans p)) a3 cw) ?_
 rintro _ ld ⟨le,t18,lf,lg,lh,li,lj,lk,a9,rfl,rfl,b2,b3,ae,b4,b5,b6,cx⟩
 refine ⟨t18,rfl,?_⟩
 try dsimp only at hd
 have ll:=b2.length
 have lm:=b3.length
 have bj:=ae.length
 have ln:=b4.length
 have lo:=b5.length
 have lp:=b6.length
 refine Ac (vs:= [.slice none 0 0, .slice none 0 0, .slice none 0 0, .slice none 0 0, .slice none 0 0, .slice none 0 0]) cx fun r19 lq cy=> ?_
 refine AJ cy rfl rfl fun lr cz=> ?_
 refine AJ cz rfl rfl fun ls d0=> ?_
 refine AJ d0 rfl rfl fun lt d1=> ?_
 refine AJ d1 rfl rfl fun lu d2=> ?_
 refine AJ d2 rfl rfl fun lv d3=> ?_
 refine AJ d3 rfl rfl fun lw aa=> ?_
 refine AA (x:=t18.1) aa rfl ?_
 refine AA (x:=t18.2.1) aa rfl ?_
 refine AA (x:=t18.2.2.1) aa rfl ?_
 refine AA (x:=t18.2.2.2.1) aa rfl ?_
 refine AA (x:=t18.2.2.2.2.1) aa rfl ?_
 refine AA (x:=t18.2.2.2.2.2.1) aa rfl ?_
 obtain ⟨lx,d4,hd⟩:=bS hd
 refine AK (CO (p_0:=(t18.1,t18.2.1,t18.2.2.1,t18.2.2.2.1,t18.2.2.2.2.1,t18.2.2.2.2.2.1,())) (gk.mono ((f.trans p).trans a9)) b2 b3 ae b4 b5 b6 aa d4) ?_
 rintro _ ly ⟨ad,t26,lz,n,rfl,rfl,b7,b8⟩
 refine ⟨t26,rfl,?_⟩
 try dsimp only at hd
 have d5:=b7.nil
 refine AH hd (by rw [d5] <;>rfl) (fun _ hd=> ?_) (fun _ hd=> ?_)
 ·obtain ⟨d6,af,hd⟩:=bS hd
  refine Ak (fun (y:Bool×Unit) w_ g=> ∃ψ:AE,Sub ad ψ∧y.1=g∧St ψ (cW 32 r19 [sv t18.1,sv t18.2.1,sv t18.2.2.1,sv t18.2.2.2.1,sv t18.2.2.2.2.1,sv t18.2.2.2.2.2.1] ::cW 25 r1 [.int .u8 small_0.1, .int .u8 small_0.2.1,sv small_0.2.2.1,sv small_0.2.2.2.1,sv small_0.2.2.2.2.1,sv small_0.2.2.2.2.2.1,sv small_0.2.2.2.2.2.2.1] ::F) w_) (g:=d6) ?_ ?_
  ·refine AH af rfl (fun _ af=> ?_) (fun _ af=> ?_)
   ·have d7:=b8.at1
    have d8:=d7.at1
    obtain rfl:=iS af
    exact AN ((t26.2.1==(5:Int)),()) rfl ⟨ad,(Sub.refl _),rfl,d8⟩
   have d9:=b8.at1
   have da:=d9.at1
   obtain rfl:=iS af
   exact AN (false,()) rfl ⟨ad,(Sub.refl _),rfl,da⟩
  rintro z27 m0 ⟨db,dc,rfl,dd⟩
  try dsimp only at hd
  obtain rfl:=iS hd
  have de:=dd.tail
  have df:=de.tail
  exact AC ⟨db,z27.1,((((f.trans p).trans a9).trans n).trans dc),rfl,rfl,df⟩
 have dg:=b8.at1
 have dh:=dg.at1
 obtain ⟨di,dj,hd⟩:=bS hd
 refine Ad (fun (y:Int×Int×Bool×Unit) w_ g=> ∃ψ:AE,Sub ad ψ∧AR.next y.2.1=g∧St ψ (cW 32 r19 [sv t18.1,sv t18.2.1,sv t18.2.2.1,sv t18.2.2.2.1,sv t18.2.2.2.2.1,sv t18.2.2.2.2.2.1] ::cW 25 r1 [.int .u8 small_0.1, .int .u8 small_0.2.1,sv small_0.2.2.1,sv small_0.2.2.2.1,sv small_0.2.2.2.2.1,sv small_0.2.2.2.2.2.1,sv small_0.2.2.2.2.2.2.1] ::F) w_) (g:=di) ?_ ?_
 ·refine FO dj (fun (y:Int×Int×Bool×Unit) w_ g=> ∃ψ:AE,Sub ad ψ∧(y.1,y.2.1)=g∧St ψ (cW 32 r19 [sv t18.1,sv t18.2.1,sv t18.2.2.1,sv t18.2.2.2.1,sv t18.2.2.2.2.1,sv t18.2.2.2.2.2.1] ::cW 25 r1 [.int .u8 small_0.1, .int .u8 small_0.2.1,sv small_0.2.2.1,sv small_0.2.2.2.1,sv small_0.2.2.2.2.1,sv small_0.2.2.2.2.2.1,sv small_0.2.2.2.2.2.2.1] ::F) w_) ((0:Int),(0:Int),false,()) rfl ⟨ad,(Sub.refl _),rfl,dh⟩ ?_
  ·rintro z29 m1 _ _ ⟨m2,j,rfl,dk⟩ b ag
   try dsimp only at b
   obtain ⟨m3,dl,b⟩:=bS b
   have b9:=((b7.mono j)).get dl
   obtain ⟨m4,dm,b⟩:=bS b
   refine AK (Av b9 dk dm) ?_
   rintro _ m5 ⟨dn,t30,i,rfl,rfl,bk⟩
   refine ⟨t30,rfl,?_⟩
   refine AH b rfl (fun _ b=> ?_) (fun _ b=> ?_)
   ·obtain ⟨m6,dp,b⟩:=bS b
    refine AK (CX (b9.mono i) bk dp) ?_
    rintro _ m7 ⟨m8,t31,m9,o,rfl,rfl,q,dq⟩
    refine ⟨t31,rfl,?_⟩
    have ah:=q.length
    obtain ⟨ma,dr,b⟩:=bS b
    refine AK (B4 (b9.mono (i.trans o)) dq dr) ?_
    rintro _ mb ⟨ba,t32,mc,c,rfl,rfl,bb,ds⟩
    refine ⟨t32,rfl,?_⟩
    have bl:=bb.length
    have dt:=ds.nil 3 (Ro.int .i64)
    have du:=dt.at2
    have dv:=du.at2
    have dw:=dv.at2
    obtain ⟨dx,dy,b⟩:=bS b
    refine Ad (fun (y:Int×(Option Addr×Nat×Nat)×Bool×Unit) w_ g=> ∃ψ:AE,∃bm:List Int,Sub ba ψ∧AR.next bm=g∧St ψ (cR 3 (Ro.int .i64) y.2.1 bm::cW 32 r19 [sv t18.1,sv t18.2.1,sv t18.2.2.1,sv t18.2.2.2.1,sv t18.2.2.2.2.1,sv t18.2.2.2.2.2.1] ::cW 25 r1 [.int .u8 small_0.1, .int .u8 small_0.2.1,sv small_0.2.2.1,sv small_0.2.2.2.1,sv small_0.2.2.2.2.1,sv small_0.2.2.2.2.2.1,sv small_0.2.2.2.2.2.2.1] ::F) w_) (g:=dx) ?_ ?_
    ·refine BQ dy (fun dz (y:Int×(Option Addr×Nat×Nat)×Bool×Unit) w_ g=> ∃ψ:AE,∃bn:List Int,Sub ba ψ∧y.1=dz∧bn=g∧St ψ (cR 3 (Ro.int .i64) y.2.1 bn::cW 32 r19 [sv t18.1,sv t18.2.1,sv t18.2.2.1,sv t18.2.2.2.1,sv t18.2.2.2.2.1,sv t18.2.2.2.2.2.1] ::cW 25 r1 [.int .u8 small_0.1, .int .u8 small_0.2.1,sv small_0.2.2.1,sv small_0.2.2.2.1,sv small_0.2.2.2.2.1,sv small_0.2.2.2.2.2.1,sv small_0.2.2.2.2.2.2.1] ::F) w_) ((0:Int),((none,0,0):Slc),z29.2.2.1,()) rfl ⟨ba,([] :List Int),(Sub.refl _),rfl,rfl,dw⟩ ?_ ?_
     ·rintro _ z34 md _ _ ⟨me,mf,k,rfl,rfl,a1⟩ l e0 bo bp e1
      try dsimp only at l e0 bo bp
      have mg:=a1.rowLen
      refine Az (by rw [ah]; exact decide_eq_true bo) ?_
      refine AA (x:=t18.1) a1.at1 rfl ?_
      refine AA (x:=t18.2.1) a1.at1 rfl ?_
      refine AA (x:=t18.2.2.1) a1.at1 rfl ?_
      refine AA (x:=t18.2.2.2.1) a1.at1 rfl ?_
      refine AA (x:=t18.2.2.2.2.1) a1.at1 rfl ?_
      refine AA (x:=t18.2.2.2.2.2.1) a1.at1 rfl ?_
      obtain ⟨ak,e2,l⟩:=bS l
      obtain ⟨mh,mi,e3,e4,e5,bq⟩:=(q.mono (c.trans k)).get e2
      refine AG _ e3 (AZ e4 ?_)
      obtain ⟨_,_,rfl,e6,e7⟩:=e5
      obtain rfl:=e6
      obtain rfl:=e7
      refine AL (x:=ak.1) (AB (Sub.trans (Sub.refl _) a1.sub) (bq 0 _ rfl)) rfl ?_
      refine AL (x:=ak.2) (by rw [AV]; exact (AB (Sub.trans (Sub.refl _) a1.sub) (bq 1 _ rfl))) rfl ?_
      obtain ⟨mj,e8,l⟩:=bS l
      refine AK (FA (p_0:=(t18.1,t18.2.1,t18.2.2.1,t18.2.2.2.1,t18.2.2.2.2.1,t18.2.2.2.2.2.1,())) (x_1:=(ak.1,ak.2,())) (b2.mono (((((n.trans j).trans i).trans o).trans c).trans k)) (b3.mono (((((n.trans j).trans i).trans o).trans c).trans k)) (ae.mono (((((n.trans j).trans i).trans o).trans c).trans k)) (b4.mono (((((n.trans j).trans i).trans o).trans c).trans k)) (b5.mono (((((n.trans j).trans i).trans o).trans c).trans k)) (b6.mono (((((n.trans j).trans i).trans o).trans c).trans k)) a1 e8) ?_
      rintro _ mk ⟨ai,t44,a7,rfl,rfl,e9⟩
      refine ⟨t44,rfl,?_⟩
      refine Ac (vs:= [.int .i64 t44]) e9 fun r45 ml br=> ?_
      have ea:=St.cells br
      have eb:=br.tail
      obtain ⟨bs,ec,l⟩:=bS l
      refine Aq (r:=(Ro.int .i64)) (ms:=([t44] :List Int)) CT eb rfl ea (.cons (a:= [_]) rfl .nil) rfl ec ?_
      intro t46 mm w
      have mn:=w.rowLen
      obtain ⟨ed,d,l⟩:=bS l
      refine Ak (fun (y:Bool×Unit) w_ g=> ∃ψ:AE,Sub ai ψ∧y.1=g∧St ψ (cR 3 (Ro.int .i64) t46 bs::cW 32 r19 [sv t18.1,sv t18.2.1,sv t18.2.2.1,sv t18.2.2.2.1,sv t18.2.2.2.2.1,sv t18.2.2.2.2.2.1] ::cW 25 r1 [.int .u8 small_0.1, .int .u8 small_0.2.1,sv small_0.2.2.1,sv small_0.2.2.2.1,sv small_0.2.2.2.2.1,sv small_0.2.2.2.2.2.1,sv small_0.2.2.2.2.2.2.1] ::F) w_) (g:=ed) ?_ ?_
      ·refine AH d rfl (fun _ d=> ?_) (fun _ d=> ?_)
       ·obtain ⟨ee,ef,d⟩:=bS d
        obtain ⟨mo,mp,eg,eh,ei,ej⟩:=(q.mono ((c.trans k).trans a7)).get ef
        refine AG _ eg (AZ eh ?_)
        obtain ⟨_,_,rfl,ek,el⟩:=ei
        obtain rfl:=ek
        obtain rfl:=el
        refine AL (x:=ee.1) (AB (Sub.trans (Sub.refl _) w.sub) (ej 0 _ rfl)) rfl ?_
        obtain ⟨em,en,d⟩:=bS d
        obtain ⟨mq,mr,eo,ep,er,es⟩:=(q.mono ((c.trans k).trans a7)).get en
        refine AG _ eo (AZ ep ?_)
        obtain ⟨_,_,rfl,eu,ev⟩:=er
        obtain rfl:=eu
        obtain rfl:=ev
        refine AL (x:=em.1) (AB (Sub.trans (Sub.refl _) w.sub) (es 0 _ rfl)) rfl ?_
        refine AH d rfl (fun _ d=> ?_) (fun _ d=> ?_)
        ·have ew:=w.at2
         have ex:=ew.at2
         have ey:=ex.at2
         obtain rfl:=iS d
         exact AN (true,()) rfl ⟨ai,(Sub.refl _),rfl,ey⟩
        obtain ⟨ez,f0,d⟩:=bS d
        obtain ⟨mu,mv,f1,f2,f3,f4⟩:=(q.mono ((c.trans k).trans a7)).get f0
        refine AG _ f1 (AZ f2 ?_)
        obtain ⟨_,_,rfl,f5,f6⟩:=f3
        obtain rfl:=f5
        obtain rfl:=f6
        refine AL (x:=ez.1) (AB (Sub.trans (Sub.refl _) w.sub) (f4 0 _ rfl)) rfl ?_
        obtain ⟨f7,f8,d⟩:=bS d
        obtain ⟨mw,mx,f9,fa,fb,fc⟩:=(q.mono ((c.trans k).trans a7)).get f8
        refine AG _ f9 (AZ fa ?_)
        obtain ⟨_,_,rfl,fd,fe⟩:=fb
        obtain rfl:=fd
        obtain rfl:=fe
        refine AL (x:=f7.1) (AB (Sub.trans (Sub.refl _) w.sub) (fc 0 _ rfl)) rfl ?_
        refine AH d rfl (fun _ d=> ?_) (fun _ d=> ?_)
        ·obtain ⟨bt,ff,d⟩:=bS d
         obtain ⟨my,mz,fg,fh,fi,fj⟩:=(q.mono ((c.trans k).trans a7)).get ff
         refine AG _ fg (AZ fh ?_)
         obtain ⟨_,_,rfl,fk,fl⟩:=fi
         obtain rfl:=fk
         obtain rfl:=fl
         refine AL (x:=bt.2) (by rw [AV]; exact (AB (Sub.trans (Sub.refl _) w.sub) (fj 1 _ rfl))) rfl ?_
         obtain ⟨bu,fm,d⟩:=bS d
         obtain ⟨n0,n1,fn,fo,fp,fq⟩:=(q.mono ((c.trans k).trans a7)).get fm
         refine AG _ fn (AZ fo ?_)
         obtain ⟨_,_,rfl,fr,fs⟩:=fp
         obtain rfl:=fr
         obtain rfl:=fs
         refine AL (x:=bu.2) (by rw [AV]; exact (AB (Sub.trans (Sub.refl _) w.sub) (fq 1 _ rfl))) rfl ?_
         have ft:=w.at2
         have fu:=ft.at2
         have fv:=fu.at2
         obtain rfl:=iS d
         exact AN ((decide (bt.2≥bu.2)),()) rfl ⟨ai,(Sub.refl _),rfl,fv⟩
        have fw:=w.at2
        have fx:=fw.at2
        have fy:=fx.at2
        obtain rfl:=iS d
        exact AN (false,()) rfl ⟨ai,(Sub.refl _),rfl,fy⟩
       have fz:=w.at2
       have g0:=fz.at2
       have g1:=g0.at2
       obtain rfl:=iS d
       exact AN (false,()) rfl ⟨ai,(Sub.refl _),rfl,g1⟩
      rintro z47 n2 ⟨bv,bw,rfl,bx⟩
      try dsimp only at l
      refine AH l rfl (fun _ l=> ?_) (fun _ l=> ?_)
      ·obtain rfl:=iS l
       obtain rfl:=e1 _ rfl
       try dsimp only at b
       obtain rfl:=iS b
       obtain rfl:=ag _ rfl
       try dsimp only at hd
       obtain rfl:=iS hd
       have g2:=bx.tail
       have g3:=g2.tail
       have g4:=g3.tail
       exact AU (AY (AU (AY (AC ⟨bv,false,((((((((((f.trans p).trans a9).trans n).trans j).trans i).trans o).trans c).trans k).trans a7).trans bw),rfl,rfl,g4⟩))))
      have g5:=bx.at2
      have g6:=g5.at2
      have g7:=g6.at2
      obtain rfl:=iS l
      exact Ar ((IntKind.wrap .i64 (z34.1+(1:Int))),t46,z34.2.2.1,()) _ rfl rfl ⟨bv,bs,((k.trans a7).trans bw),bp,rfl,g7⟩
     ·rintro _ z34 n3 _ ⟨g8,g9,ga,rfl,rfl,bz⟩ gb gc
      subst gc
      have n4:=bz.rowLen
      refine Al (by rw [ah]; exact decide_eq_false (Int.not_lt.2 gb)) ?_
      have gd:=bz.at2
      have ge:=gd.at2
      have gf:=ge.at2
      exact AO (AS (z34.1,z34.2.1,z34.2.2.1,()) rfl ⟨g8,g9,ga,rfl,gf⟩)
    rintro z33 n5 ⟨n6,n7,s,rfl,c0⟩
    try dsimp only at b
    have n8:=c0.rowLen
    obtain ⟨bc,u,c1,gg⟩:=St.freezeRow (t:=z33.2.1) c0
    have gh:=gg.at1
    have gi:=gh.at1
    obtain ⟨gj,gl,b⟩:=bS b
    refine Ad (fun (y:Int×Bool×Unit) w_ g=> ∃ψ:AE,Sub bc ψ∧AR.next ()=g∧St ψ (cW 32 r19 [sv t18.1,sv t18.2.1,sv t18.2.2.1,sv t18.2.2.2.1,sv t18.2.2.2.2.1,sv t18.2.2.2.2.2.1] ::cW 25 r1 [.int .u8 small_0.1, .int .u8 small_0.2.1,sv small_0.2.2.1,sv small_0.2.2.2.1,sv small_0.2.2.2.2.1,sv small_0.2.2.2.2.2.1,sv small_0.2.2.2.2.2.2.1] ::F) w_) (g:=gj) ?_ ?_
    ·refine BQ gl (fun gm (y:Int×Bool×Unit) w_ g=> ∃ψ:AE,Sub bc ψ∧y.1=gm∧()=g∧St ψ (cW 32 r19 [sv t18.1,sv t18.2.1,sv t18.2.2.1,sv t18.2.2.2.1,sv t18.2.2.2.2.1,sv t18.2.2.2.2.2.1] ::cW 25 r1 [.int .u8 small_0.1, .int .u8 small_0.2.1,sv small_0.2.2.1,sv small_0.2.2.2.1,sv small_0.2.2.2.2.1,sv small_0.2.2.2.2.2.1,sv small_0.2.2.2.2.2.2.1] ::F) w_) ((0:Int),z33.2.2.1,()) rfl ⟨bc,(Sub.refl _),rfl,rfl,gi⟩ ?_ ?_
     ·rintro _ z61 n9 _ _ ⟨gn,aj,rfl,rfl,al⟩ a4 go c2 c3 gp
      try dsimp only at a4 go c2 c3
      refine AA (x:=t18.2.2.1) al rfl ?_
      refine Az (by rw [bj]; exact decide_eq_true c2) ?_
      obtain ⟨gq,z,a4⟩:=bS a4
      refine Ak (fun (y:Bool×Unit) w_ g=> ∃ψ:AE,Sub gn ψ∧y.1=g∧St ψ (cW 32 r19 [sv t18.1,sv t18.2.1,sv t18.2.2.1,sv t18.2.2.2.1,sv t18.2.2.2.2.1,sv t18.2.2.2.2.2.1] ::cW 25 r1 [.int .u8 small_0.1, .int .u8 small_0.2.1,sv small_0.2.2.1,sv small_0.2.2.2.1,sv small_0.2.2.2.2.1,sv small_0.2.2.2.2.2.1,sv small_0.2.2.2.2.2.2.1] ::F) w_) (g:=gq) ?_ ?_
      ·refine AA (x:=t18.2.2.1) al rfl ?_
       obtain ⟨gr,gs,z⟩:=bS z
       obtain ⟨na,nb,gt,gu,gv,gw⟩:=(ae.mono (((((((n.trans j).trans i).trans o).trans c).trans s).trans u).trans aj)).get gs
       refine AG _ gt (AZ gu ?_)
       obtain ⟨_,_,rfl,gx,gy⟩:=gv
       obtain rfl:=gx
       obtain ⟨_,_,rfl,gz,h0⟩:=gy
       obtain ⟨nc,rfl,h1⟩:=gz
       have nd:=h1.length
       obtain rfl:=h0
       refine AL (x:=gr.1) (AB (Sub.trans (Sub.refl _) al.sub) (gw 0 _ rfl)) rfl ?_
       obtain ⟨nf,h2,z⟩:=bS z
       refine AK (EK (c1.mono aj) al h2) ?_
       rintro _ ng ⟨h3,t67,bd,rfl,rfl,c4⟩
       refine ⟨t67,rfl,?_⟩
       refine AH z rfl (fun _ z=> ?_) (fun _ z=> ?_)
       ·obtain ⟨nh,h4,z⟩:=bS z
        refine AK (CG (x_1:=(z61.1,(0:Int),())) (q.mono ((((c.trans s).trans u).trans aj).trans bd)) c4 h4) ?_
        rintro _ ni ⟨h5,t68,h6,rfl,rfl,h7⟩
        refine ⟨t68,rfl,?_⟩
        have h8:=h7.at1
        have h9:=h8.at1
        obtain rfl:=iS z
        exact AN ((!t68),()) rfl ⟨h5,(bd.trans h6),rfl,h9⟩
       have hb:=c4.at1
       have hc:=hb.at1
       obtain rfl:=iS z
       exact AN (false,()) rfl ⟨h3,bd,rfl,hc⟩
      rintro z63 nj ⟨c5,c6,rfl,c7⟩
      try dsimp only at a4
      refine AH a4 rfl (fun _ a4=> ?_) (fun _ a4=> ?_)
      ·obtain rfl:=iS a4
       obtain rfl:=gp _ rfl
       try dsimp only at b
       obtain rfl:=iS b
       obtain rfl:=ag _ rfl
       try dsimp only at hd
       obtain rfl:=iS hd
       have he:=c7.tail
       have hf:=he.tail
       exact AU (AY (AU (AY (AC ⟨c5,false,(((((((((((f.trans p).trans a9).trans n).trans j).trans i).trans o).trans c).trans s).trans u).trans aj).trans c6),rfl,rfl,hf⟩))))
      have hg:=c7.at1
      have hh:=hg.at1
      obtain rfl:=iS a4
      exact Ar ((IntKind.wrap .i64 (z61.1+(1:Int))),z61.2.1,()) _ rfl rfl ⟨c5,(aj.trans c6),c3,rfl,hh⟩
     ·rintro _ z61 nk _ ⟨hi,hj,rfl,rfl,c8⟩ hk hl
      subst hl
      refine AA (x:=t18.2.2.1) c8 rfl ?_
      refine Al (by rw [bj]; exact decide_eq_false (Int.not_lt.2 hk)) ?_
      have hm:=c8.at1
      have hn:=hm.at1
      exact AO (AS (z61.1,z61.2.1,()) rfl ⟨hi,hj,rfl,hn⟩)
    rintro z60 nl ⟨be,a0,rfl,ho⟩
    try dsimp only at b
    have hp:=ho.at1
    have hq:=hp.at1
    obtain ⟨hr,hs,b⟩:=bS b
    refine Ad (fun (y:Int×Bool×Unit) w_ g=> ∃ψ:AE,Sub be ψ∧AR.next ()=g∧St ψ (cW 32 r19 [sv t18.1,sv t18.2.1,sv t18.2.2.1,sv t18.2.2.2.1,sv t18.2.2.2.2.1,sv t18.2.2.2.2.2.1] ::cW 25 r1 [.int .u8 small_0.1, .int .u8 small_0.2.1,sv small_0.2.2.1,sv small_0.2.2.2.1,sv small_0.2.2.2.2.1,sv small_0.2.2.2.2.2.1,sv small_0.2.2.2.2.2.2.1] ::F) w_) (g:=hr) ?_ ?_
    ·refine BQ hs (fun ht (y:Int×Bool×Unit) w_ g=> ∃ψ:AE,Sub be ψ∧y.1=ht∧()=g∧St ψ (cW 32 r19 [sv t18.1,sv t18.2.1,sv t18.2.2.1,sv t18.2.2.2.1,sv t18.2.2.2.2.1,sv t18.2.2.2.2.2.1] ::cW 25 r1 [.int .u8 small_0.1, .int .u8 small_0.2.1,sv small_0.2.2.1,sv small_0.2.2.2.1,sv small_0.2.2.2.2.1,sv small_0.2.2.2.2.2.1,sv small_0.2.2.2.2.2.2.1] ::F) w_) ((0:Int),z60.2.1,()) rfl ⟨be,(Sub.refl _),rfl,rfl,hq⟩ ?_ ?_
     ·rintro _ z70 nm _ _ ⟨hu,a8,rfl,rfl,bf⟩ a5 hv c9 ca hw
      try dsimp only at a5 hv c9 ca
      refine Az (by rw [ah]; exact decide_eq_true c9) ?_
      obtain ⟨hx,e,a5⟩:=bS a5
      refine Ak (fun (y:Bool×Unit) w_ g=> ∃ψ:AE,Sub hu ψ∧y.1=g∧St ψ (cW 32 r19 [sv t18.1,sv t18.2.1,sv t18.2.2.1,sv t18.2.2.2.1,sv t18.2.2.2.2.1,sv t18.2.2.2.2.2.1] ::cW 25 r1 [.int .u8 small_0.1, .int .u8 small_0.2.1,sv small_0.2.2.1,sv small_0.2.2.2.1,sv small_0.2.2.2.2.1,sv small_0.2.2.2.2.2.1,sv small_0.2.2.2.2.2.2.1] ::F) w_) (g:=hx) ?_ ?_
      ·obtain ⟨am,hy,e⟩:=bS e
       obtain ⟨nn,np,hz,i0,i1,cb⟩:=(q.mono ((((c.trans s).trans u).trans a0).trans a8)).get hy
       refine AG _ hz (AZ i0 ?_)
       obtain ⟨_,_,rfl,i2,i3⟩:=i1
       obtain rfl:=i2
       obtain rfl:=i3
       refine AL (x:=am.1) (AB (Sub.trans (Sub.refl _) bf.sub) (cb 0 _ rfl)) rfl ?_
       refine AL (x:=am.2) (by rw [AV]; exact (AB (Sub.trans (Sub.refl _) bf.sub) (cb 1 _ rfl))) rfl ?_
       obtain ⟨nq,i4,e⟩:=bS e
       refine AK (CG (x_1:=(am.1,am.2,())) (bb.mono (((s.trans u).trans a0).trans a8)) bf i4) ?_
       rintro _ nr ⟨cc,t75,ab,rfl,rfl,ac⟩
       refine ⟨t75,rfl,?_⟩
       refine AH e rfl (fun _ e=> ?_) (fun _ e=> ?_)
       ·obtain ⟨i5,i6,e⟩:=bS e
        obtain ⟨ns,nt,i7,i8,i9,ia⟩:=(q.mono (((((c.trans s).trans u).trans a0).trans a8).trans ab)).get i6
        refine AG _ i7 (AZ i8 ?_)
        obtain ⟨_,_,rfl,ib,ic⟩:=i9
        obtain rfl:=ib
        obtain rfl:=ic
        refine AL (x:=i5.2) (by rw [AV]; exact (AB (Sub.trans (Sub.refl _) ac.sub) (ia 1 _ rfl))) rfl ?_
        refine AH e rfl (fun _ e=> ?_) (fun _ e=> ?_)
        ·have ie:=ac.at1
         have ig:=ie.at1
         obtain rfl:=iS e
         exact AN (true,()) rfl ⟨cc,ab,rfl,ig⟩
        refine AA (x:=t18.2.2.1) ac rfl ?_
        obtain ⟨ih,ii,e⟩:=bS e
        obtain ⟨nu,nv,ij,ik,il,im⟩:=(q.mono (((((c.trans s).trans u).trans a0).trans a8).trans ab)).get ii
        refine AG _ ij (AZ ik ?_)
        obtain ⟨_,_,rfl,io,ip⟩:=il
        obtain rfl:=io
        obtain rfl:=ip
        refine AL (x:=ih.1) (AB (Sub.trans (Sub.refl _) ac.sub) (im 0 _ rfl)) rfl ?_
        obtain ⟨iq,ir,e⟩:=bS e
        obtain ⟨nw,nx,it,iu,iv,iw⟩:=(ae.mono (((((((((n.trans j).trans i).trans o).trans c).trans s).trans u).trans a0).trans a8).trans ab)).get ir
        refine AG _ it (AZ iu ?_)
        obtain ⟨_,_,rfl,ix,iy⟩:=iv
        obtain rfl:=ix
        obtain ⟨_,_,rfl,iz,j0⟩:=iy
        obtain ⟨ny,rfl,j1⟩:=iz
        have nz:=j1.length
        obtain rfl:=j0
        refine AL (x:=iq.1) (AB (Sub.trans (Sub.refl _) ac.sub) (iw 0 _ rfl)) rfl ?_
        obtain ⟨o0,j2,e⟩:=bS e
        refine AK (EK (c1.mono ((a0.trans a8).trans ab)) ac j2) ?_
        rintro _ o1 ⟨j3,t83,j4,rfl,rfl,j5⟩
        refine ⟨t83,rfl,?_⟩
        have j6:=j5.at1
        have j7:=j6.at1
        obtain rfl:=iS e
        exact AN ((!t83),()) rfl ⟨j3,(ab.trans j4),rfl,j7⟩
       have j8:=ac.at1
       have j9:=j8.at1
       obtain rfl:=iS e
       exact AN (false,()) rfl ⟨cc,ab,rfl,j9⟩
      rintro z71 o2 ⟨cd,ce,rfl,cf⟩
      try dsimp only at a5
      refine AH a5 rfl (fun _ a5=> ?_) (fun _ a5=> ?_)
      ·obtain rfl:=iS a5
       obtain rfl:=hw _ rfl
       try dsimp only at b
       obtain rfl:=iS b
       obtain rfl:=ag _ rfl
       try dsimp only at hd
       obtain rfl:=iS hd
       have ja:=cf.tail
       have jb:=ja.tail
       exact AU (AY (AU (AY (AC ⟨cd,false,((((((((((((f.trans p).trans a9).trans n).trans j).trans i).trans o).trans c).trans s).trans u).trans a0).trans a8).trans ce),rfl,rfl,jb⟩))))
      have jc:=cf.at1
      have jd:=jc.at1
      obtain rfl:=iS a5
      exact Ar ((IntKind.wrap .i64 (z70.1+(1:Int))),z70.2.1,()) _ rfl rfl ⟨cd,(a8.trans ce),ca,rfl,jd⟩
     ·rintro _ z70 o3 _ ⟨je,jf,rfl,rfl,jg⟩ jh ji
      subst ji
      refine Al (by rw [ah]; exact decide_eq_false (Int.not_lt.2 jh)) ?_
      have jj:=jg.at1
      have jk:=jj.at1
      exact AO (AS (z70.1,z70.2.1,()) rfl ⟨je,jf,rfl,jk⟩)
    rintro z69 o4 ⟨bg,an,rfl,jl⟩
    try dsimp only at b
    have jm:=jl.at1
    have jn:=jm.at1
    obtain ⟨jo,jp,b⟩:=bS b
    refine Ad (fun (y:Int×Bool×Unit) w_ g=> ∃ψ:AE,Sub bg ψ∧AR.next ()=g∧St ψ (cW 32 r19 [sv t18.1,sv t18.2.1,sv t18.2.2.1,sv t18.2.2.2.1,sv t18.2.2.2.2.1,sv t18.2.2.2.2.2.1] ::cW 25 r1 [.int .u8 small_0.1, .int .u8 small_0.2.1,sv small_0.2.2.1,sv small_0.2.2.2.1,sv small_0.2.2.2.2.1,sv small_0.2.2.2.2.2.1,sv small_0.2.2.2.2.2.2.1] ::F) w_) (g:=jo) ?_ ?_
    ·refine BQ jp (fun jq (y:Int×Bool×Unit) w_ g=> ∃ψ:AE,Sub bg ψ∧y.1=jq∧()=g∧St ψ (cW 32 r19 [sv t18.1,sv t18.2.1,sv t18.2.2.1,sv t18.2.2.2.1,sv t18.2.2.2.2.1,sv t18.2.2.2.2.2.1] ::cW 25 r1 [.int .u8 small_0.1, .int .u8 small_0.2.1,sv small_0.2.2.1,sv small_0.2.2.2.1,sv small_0.2.2.2.2.1,sv small_0.2.2.2.2.2.1,sv small_0.2.2.2.2.2.2.1] ::F) w_) ((0:Int),z69.2.1,()) rfl ⟨bg,(Sub.refl _),rfl,rfl,jn⟩ ?_ ?_
     ·rintro _ z85 o5 _ _ ⟨o6,ao,rfl,rfl,bh⟩ a2 jr cg ch js
      try dsimp only at a2 jr cg ch
      refine Az (by rw [bl]; exact decide_eq_true cg) ?_
      obtain ⟨ap,jt,a2⟩:=bS a2
      obtain ⟨o7,o8,ju,jv,jw,ci⟩:=(bb.mono ((((s.trans u).trans a0).trans an).trans ao)).get jt
      refine AG _ ju (AZ jv ?_)
      obtain ⟨_,_,rfl,jx,jy⟩:=jw
      obtain rfl:=jx
      obtain rfl:=jy
      refine AL (x:=ap.1) (AB (Sub.trans (Sub.refl _) bh.sub) (ci 0 _ rfl)) rfl ?_
      refine AL (x:=ap.2) (by rw [AV]; exact (AB (Sub.trans (Sub.refl _) bh.sub) (ci 1 _ rfl))) rfl ?_
      obtain ⟨o9,jz,a2⟩:=bS a2
      refine AK (CG (x_1:=(ap.1,ap.2,())) (q.mono (((((c.trans s).trans u).trans a0).trans an).trans ao)) bh jz) ?_
      rintro _ oa ⟨cj,t89,ck,rfl,rfl,cl⟩
      refine ⟨t89,rfl,?_⟩
      refine AH a2 rfl (fun _ a2=> ?_) (fun _ a2=> ?_)
      ·obtain rfl:=iS a2
       obtain rfl:=js _ rfl
       try dsimp only at b
       obtain rfl:=iS b
       obtain rfl:=ag _ rfl
       try dsimp only at hd
       obtain rfl:=iS hd
       have k0:=cl.tail
       have k1:=k0.tail
       exact AU (AY (AU (AY (AC ⟨cj,false,(((((((((((((f.trans p).trans a9).trans n).trans j).trans i).trans o).trans c).trans s).trans u).trans a0).trans an).trans ao).trans ck),rfl,rfl,k1⟩))))
      have k2:=cl.at1
      have k3:=k2.at1
      obtain rfl:=iS a2
      exact Ar ((IntKind.wrap .i64 (z85.1+(1:Int))),z85.2.1,()) _ rfl rfl ⟨cj,(ao.trans ck),ch,rfl,k3⟩
     ·rintro _ z85 ob _ ⟨k4,k5,rfl,rfl,k6⟩ k7 k8
      subst k8
      refine Al (by rw [bl]; exact decide_eq_false (Int.not_lt.2 k7)) ?_
      have k9:=k6.at1
      have ka:=k9.at1
      exact AO (AS (z85.1,z85.2.1,()) rfl ⟨k4,k5,rfl,ka⟩)
    rintro z84 oc ⟨kb,kc,rfl,kd⟩
    try dsimp only at b
    have ke:=kd.at1
    have kf:=ke.at1
    obtain rfl:=iS b
    exact Ar ((IntKind.wrap .i64 (z29.1+(1:Int))),(IntKind.wrap .i64 (z29.2.1+((t31.2.1:Nat):Int))),z84.2.1,()) _ rfl rfl ⟨kb,((((((((j.trans i).trans o).trans c).trans s).trans u).trans a0).trans an).trans kc),(by rw [ah]),kf⟩
   have kg:=bk.at1
   have kh:=kg.at1
   obtain rfl:=iS b
   obtain rfl:=ag _ rfl
   exact AO (AS (z29.1,z29.2.1,z29.2.2.1,()) rfl ⟨dn,(j.trans i),rfl,kh⟩)
 rintro z28 od ⟨cm,cn,rfl,co⟩
 try dsimp only at hd
 obtain ⟨ki,m,hd⟩:=bS hd
 refine Ak (fun (y:Bool×Unit) w_ g=> ∃ψ:AE,Sub cm ψ∧y.1=g∧St ψ (cW 32 r19 [sv t18.1,sv t18.2.1,sv t18.2.2.1,sv t18.2.2.2.1,sv t18.2.2.2.2.1,sv t18.2.2.2.2.2.1] ::cW 25 r1 [.int .u8 small_0.1, .int .u8 small_0.2.1,sv small_0.2.2.1,sv small_0.2.2.2.1,sv small_0.2.2.2.2.1,sv small_0.2.2.2.2.2.1,sv small_0.2.2.2.2.2.2.1] ::F) w_) (g:=ki) ?_ ?_
 ·refine AH m rfl (fun _ m=> ?_) (fun _ m=> ?_)
  ·obtain ⟨oe,kj,m⟩:=bS m
   have cp:=((b7.mono cn)).get kj
   obtain ⟨og,kk,m⟩:=bS m
   refine AK (B9 cp co kk) ?_
   rintro _ oh ⟨kl,t91,bi,rfl,rfl,cq⟩
   refine ⟨t91,rfl,?_⟩
   refine AH m rfl (fun _ m=> ?_) (fun _ m=> ?_)
   ·obtain ⟨oi,km,m⟩:=bS m
    refine AK (Av (cp.mono bi) cq km) ?_
    rintro _ oj ⟨kn,t92,ko,rfl,rfl,kp⟩
    refine ⟨t92,rfl,?_⟩
    have kq:=kp.at1
    have kr:=kq.at1
    obtain rfl:=iS m
    exact AN ((decide (t92>(0:Int))),()) rfl ⟨kn,(bi.trans ko),rfl,kr⟩
   have ks:=cq.at1
   have kt:=ks.at1
   obtain rfl:=iS m
   exact AN (false,()) rfl ⟨kl,bi,rfl,kt⟩
  have ku:=co.at1
  have kv:=ku.at1
  obtain rfl:=iS m
  exact AN (false,()) rfl ⟨cm,(Sub.refl _),rfl,kv⟩
 rintro z90 ok ⟨kw,kx,rfl,ky⟩
 try dsimp only at hd
 obtain rfl:=iS hd
 have kz:=ky.tail
 have l0:=kz.tail
 exact AC ⟨kw,z90.1,(((((f.trans p).trans a9).trans n).trans cn).trans kx),rfl,rfl,l0⟩
noncomputable def Bb (small_0:Gv) (n_1:Int) (x_2:List Int) (y_3:List Int):Option Bool:=
 (A4).bind fun t2=>
 (An (small_0.1,small_0.2.1,small_0.2.2.1,small_0.2.2.2.1,small_0.2.2.2.2.1,small_0.2.2.2.2.2.1,small_0.2.2.2.2.2.2) (12:Int) (5:Int)).bind fun t10=>
 (cond (!t10)
 (some true)
 (cond (decide ((((List.length x_2):Nat):Int) >(8:Int)))
  (some true)
  (some (decide ((((List.length y_3):Nat):Int) >(8:Int)))))).bind fun z11=>
 cond z11
 (some t2)
 ((Ae (small_0.1,small_0.2.1,small_0.2.2.1,small_0.2.2.2.1,small_0.2.2.2.2.1,small_0.2.2.2.2.2.1,small_0.2.2.2.2.2.2)).bind fun t19=>
  (CN (t19.1,t19.2.1,t19.2.2.1,t19.2.2.2.1,t19.2.2.2.2.1,t19.2.2.2.2.2) (2000:Int) (40000:Int)).bind fun t27=>
  (cond (Option.isNone t27.1)
  (some true)
  (t27.1.bind fun e92=>
   (Af e92).bind fun t29=>
   some (t29==(0:Int)))).bind fun z28=>
  cond z28
  ((cond t2
   (cond (Option.isNone t27.1)
    (some (t27.2==(5:Int)))
    (some false))
   (some false)).bind fun z30=>
   some z30)
  ((Fe (σ:=List Int) (0:Int) (((List.length x_2):Nat):Int) ([] :List Int) fun i_z34 z34=>
   (idx x_2 i_z34).bind fun e150=>
   need ((IntKind.wrap .i64 ((((List.length t19.1):Nat):Int) +(((List.length t19.2.1):Nat):Int))) ≠ 0) <|
   (app z34 ([(Int.tmod (IntKind.wrap .i64 e150) (IntKind.wrap .i64 ((((List.length t19.1):Nat):Int) +(((List.length t19.2.1):Nat):Int))))] :List Int)).bind fun t38=>
   some t38).bind fun z33=>
   (Fe (σ:=List Int) (0:Int) (((List.length y_3):Nat):Int) ([] :List Int) fun i_z40 z40=>
    (idx y_3 i_z40).bind fun e215=>
    need ((IntKind.wrap .i64 ((((List.length t19.1):Nat):Int) +(((List.length t19.2.1):Nat):Int))) ≠ 0) <|
    (app z40 ([(Int.tmod (IntKind.wrap .i64 e215) (IntKind.wrap .i64 ((((List.length t19.1):Nat):Int) +(((List.length t19.2.1):Nat):Int))))] :List Int)).bind fun t44=>
    some t44).bind fun z39=>
   t27.1.bind fun e256=>
   (Af e256).bind fun t45=>
   need (t45 ≠ 0) <|
   (Ag e256 (Int.tmod (IntKind.wrap .i64 n_1) t45) z33).bind fun t46=>
   (Ag e256 t46 z39).bind fun t47=>
   (cond t2
   ((app ([] :List Int) z33).bind fun t50=>
    (app t50 z39).bind fun t51=>
    (Ag e256 (Int.tmod (IntKind.wrap .i64 n_1) t45) t51).bind fun t52=>
    cond (t52==t47)
    ((Ag e256 (Int.tmod (IntKind.wrap .i64 n_1) t45) ([] :List Int)).bind fun t53=>
     cond (t53==(Int.tmod (IntKind.wrap .i64 n_1) t45))
     ((Ag e256 (-1:Int) z39).bind fun t54=>
      some (t54==(-1:Int)))
     (some false))
    (some false))
   (some false)).bind fun z48=>
   some z48))
theorem EB {φ:AE} {h:AF} {F:List Chk} {small_0:Int×Int×(Option Addr×Nat×Nat)×(Option Addr×Nat×Nat)×(Option Addr×Nat×Nat)×(Option Addr×Nat×Nat)×(Option Addr×Nat×Nat)×Unit} {ad:List Int} {ae:List (List Int)} {af:List Int} {ag:List Int} {ah:List Int} {n_1:Int} {x_2:Slc} {ai:List Int} {y_3:Slc} {aj:List Int} (gk:FC φ) (ak:Ro.SliceIs (Ro.int .u8) φ small_0.2.2.1 ad) (al:Ro.SliceIs (Ro.list (Ro.int .u8)) φ small_0.2.2.2.1 ae) (am:Ro.SliceIs (Ro.int .u8) φ small_0.2.2.2.2.1 af) (an:Ro.SliceIs (Ro.int .u8) φ small_0.2.2.2.2.2.1 ag) (ao:Ro.SliceIs (Ro.int .u8) φ small_0.2.2.2.2.2.2.1 ah) (b4:Ro.SliceIs (Ro.int .u8) φ x_2 ai) (b5:Ro.SliceIs (Ro.int .u8) φ y_3 aj) (s0:St φ (F) h) {r:Bool} (hd:Bb (small_0.1,small_0.2.1,ad,ae,af,ag,ah) n_1 ai aj=some r):
 CallsH Tryd.prog 5 [(.agg #[(.int .u8 small_0.1),(.int .u8 small_0.2.1),(.slice small_0.2.2.1.1 small_0.2.2.1.2.1 small_0.2.2.1.2.2),(.slice small_0.2.2.2.1.1 small_0.2.2.2.1.2.1 small_0.2.2.2.1.2.2),(.slice small_0.2.2.2.2.1.1 small_0.2.2.2.2.1.2.1 small_0.2.2.2.2.1.2.2),(.slice small_0.2.2.2.2.2.1.1 small_0.2.2.2.2.2.1.2.1 small_0.2.2.2.2.2.1.2.2),(.slice small_0.2.2.2.2.2.2.1.1 small_0.2.2.2.2.2.2.1.2.1 small_0.2.2.2.2.2.2.1.2.2)]),(.int .u8 n_1),(.slice x_2.1 x_2.2.1 x_2.2.2),(.slice y_3.1 y_3.2.1 y_3.2.2)] h (BO fun v h'=> ∃ψ:AE,∃y:Bool,Sub φ ψ∧v=((.one (.atom .bool)):Sh).val y∧y=r∧St ψ (F) h'):=by
 refine Aa mixed Tryd.func5 ?_
 rw [D6]
 unfold Cf
 unfold Bb at hd
 have g7:small_0.2.2.1.2.1=List.length ad:=ak.length
 have g8:small_0.2.2.2.1.2.1=List.length ae:=al.length
 have g9:small_0.2.2.2.2.1.2.1=List.length af:=am.length
 have ga:small_0.2.2.2.2.2.1.2.1=List.length ag:=an.length
 have gb:small_0.2.2.2.2.2.2.1.2.1=List.length ah:=ao.length
 have ap:x_2.2.1=List.length ai:=b4.length
 have aq:y_3.2.1=List.length aj:=b5.length
 refine Ac (vs:= [.int .u8 small_0.1, .int .u8 small_0.2.1,sv small_0.2.2.1,sv small_0.2.2.2.1,sv small_0.2.2.2.2.1,sv small_0.2.2.2.2.2.1,sv small_0.2.2.2.2.2.2.1]) s0 fun r1 gc c9=> ?_
 obtain ⟨gd,ca,hd⟩:=bS hd
 refine AK (BZ gk c9 ca) ?_
 rintro _ ge ⟨gf,t2,c,rfl,rfl,m⟩
 refine ⟨t2,rfl,?_⟩
 refine AA (x:=small_0.1) m rfl ?_
 refine AA (x:=small_0.2.1) m rfl ?_
 refine AA (x:=small_0.2.2.1) m rfl ?_
 refine AA (x:=small_0.2.2.2.1) m rfl ?_
 refine AA (x:=small_0.2.2.2.2.1) m rfl ?_
 refine AA (x:=small_0.2.2.2.2.2.1) m rfl ?_
 refine AA (x:=small_0.2.2.2.2.2.2.1) m rfl ?_
 obtain ⟨gg,cb,hd⟩:=bS hd
 refine AK (BJ (s_0:=(small_0.1,small_0.2.1,small_0.2.2.1,small_0.2.2.2.1,small_0.2.2.2.2.1,small_0.2.2.2.2.2.1,small_0.2.2.2.2.2.2.1,())) (ak.mono c) (al.mono c) (am.mono c) (an.mono c) (ao.mono c) m cb) ?_
 rintro _ gh ⟨a8,t10,d,rfl,rfl,ar⟩
 refine ⟨t10,rfl,?_⟩
 obtain ⟨cc,f,hd⟩:=bS hd
 refine Ak (fun (y:Bool×Unit) w_ g=> ∃ψ:AE,Sub a8 ψ∧y.1=g∧St ψ (cW 25 r1 [.int .u8 small_0.1, .int .u8 small_0.2.1,sv small_0.2.2.1,sv small_0.2.2.2.1,sv small_0.2.2.2.2.1,sv small_0.2.2.2.2.2.1,sv small_0.2.2.2.2.2.2.1] ::F) w_) (g:=cc) ?_ ?_
 ·refine AH f rfl (fun _ f=> ?_) (fun _ f=> ?_)
  ·obtain rfl:=iS f
   exact AN (true,()) rfl ⟨a8,(Sub.refl _),rfl,ar⟩
  refine AH f (by rw [ap] <;>rfl) (fun _ f=> ?_) (fun _ f=> ?_)
  ·obtain rfl:=iS f
   exact AN (true,()) rfl ⟨a8,(Sub.refl _),rfl,ar⟩
  obtain rfl:=iS f
  exact AN ((decide (((y_3.2.1:Nat):Int) >(8:Int))),()) rfl ⟨a8,(Sub.refl _),(by rw [aq]),ar⟩
 rintro z11 gi ⟨cd,e,rfl,i⟩
 try dsimp only at hd
 refine AH hd rfl (fun _ hd=> ?_) (fun _ hd=> ?_)
 ·obtain rfl:=iS hd
  have ce:=i.tail
  exact AC ⟨cd,t2,((c.trans d).trans e),rfl,rfl,ce⟩
 refine AA (x:=small_0.1) i rfl ?_
 refine AA (x:=small_0.2.1) i rfl ?_
 refine AA (x:=small_0.2.2.1) i rfl ?_
 refine AA (x:=small_0.2.2.2.1) i rfl ?_
 refine AA (x:=small_0.2.2.2.2.1) i rfl ?_
 refine AA (x:=small_0.2.2.2.2.2.1) i rfl ?_
 refine AA (x:=small_0.2.2.2.2.2.2.1) i rfl ?_
 obtain ⟨gj,cf,hd⟩:=bS hd
 refine AK (A0 (s_0:=(small_0.1,small_0.2.1,small_0.2.2.1,small_0.2.2.2.1,small_0.2.2.2.2.1,small_0.2.2.2.2.2.1,small_0.2.2.2.2.2.2.1,())) (ak.mono ((c.trans d).trans e)) (al.mono ((c.trans d).trans e)) (am.mono ((c.trans d).trans e)) (an.mono ((c.trans d).trans e)) (ao.mono ((c.trans d).trans e)) i cf) ?_
 rintro _ gl ⟨gm,t19,b6,b7,gn,go,gp,gq,a6,rfl,rfl,b8,b9,ba,bb,bc,bd,cg⟩
 refine ⟨t19,rfl,?_⟩
 try dsimp only at hd
 have a9:=b8.length
 have aa:=b9.length
 have gr:=ba.length
 have gs:=bb.length
 have gt:=bc.length
 have gu:=bd.length
 refine Ac (vs:= [.slice none 0 0, .slice none 0 0, .slice none 0 0, .slice none 0 0, .slice none 0 0, .slice none 0 0]) cg fun r20 gv ch=> ?_
 refine AJ ch rfl rfl fun gw ci=> ?_
 refine AJ ci rfl rfl fun gx cj=> ?_
 refine AJ cj rfl rfl fun gy ck=> ?_
 refine AJ ck rfl rfl fun gz cl=> ?_
 refine AJ cl rfl rfl fun h0 cm=> ?_
 refine AJ cm rfl rfl fun h1 q=> ?_
 refine AA (x:=t19.1) q rfl ?_
 refine AA (x:=t19.2.1) q rfl ?_
 refine AA (x:=t19.2.2.1) q rfl ?_
 refine AA (x:=t19.2.2.2.1) q rfl ?_
 refine AA (x:=t19.2.2.2.2.1) q rfl ?_
 refine AA (x:=t19.2.2.2.2.2.1) q rfl ?_
 obtain ⟨h2,cn,hd⟩:=bS hd
 refine AK (CO (p_0:=(t19.1,t19.2.1,t19.2.2.1,t19.2.2.2.1,t19.2.2.2.2.1,t19.2.2.2.2.2.1,())) (gk.mono (((c.trans d).trans e).trans a6)) b8 b9 ba bb bc bd q cn) ?_
 rintro _ h3 ⟨be,t27,h4,ab,rfl,rfl,au,bf⟩
 refine ⟨t27,rfl,?_⟩
 try dsimp only at hd
 have bg:=au.nil
 obtain ⟨co,j,hd⟩:=bS hd
 refine Ak (fun (y:Bool×Unit) w_ g=> ∃ψ:AE,Sub be ψ∧y.1=g∧St ψ (cW 32 r20 [sv t19.1,sv t19.2.1,sv t19.2.2.1,sv t19.2.2.2.1,sv t19.2.2.2.2.1,sv t19.2.2.2.2.2.1] ::cW 25 r1 [.int .u8 small_0.1, .int .u8 small_0.2.1,sv small_0.2.2.1,sv small_0.2.2.2.1,sv small_0.2.2.2.2.1,sv small_0.2.2.2.2.2.1,sv small_0.2.2.2.2.2.2.1] ::F) w_) (g:=co) ?_ ?_
 ·refine AH j (by rw [bg] <;>rfl) (fun _ j=> ?_) (fun _ j=> ?_)
  ·have cp:=bf.at1
   have cq:=cp.at1
   obtain rfl:=iS j
   exact AN (true,()) rfl ⟨be,(Sub.refl _),rfl,cq⟩
  obtain ⟨h5,cr,j⟩:=bS j
  have cs:=(au).get cr
  obtain ⟨h6,ct,j⟩:=bS j
  refine AK (Av cs bf ct) ?_
  rintro _ h7 ⟨cu,t29,cv,rfl,rfl,cw⟩
  refine ⟨t29,rfl,?_⟩
  have cx:=cw.at1
  have cy:=cx.at1
  obtain rfl:=iS j
  exact AN ((t29==(0:Int)),()) rfl ⟨cu,cv,rfl,cy⟩
 rintro z28 h8 ⟨s,a7,rfl,z⟩
 try dsimp only at hd
 refine AH hd rfl (fun _ hd=> ?_) (fun _ hd=> ?_)
 ·obtain ⟨cz,k,hd⟩:=bS hd
  refine Ak (fun (y:Bool×Unit) w_ g=> ∃ψ:AE,Sub s ψ∧y.1=g∧St ψ (cW 32 r20 [sv t19.1,sv t19.2.1,sv t19.2.2.1,sv t19.2.2.2.1,sv t19.2.2.2.2.1,sv t19.2.2.2.2.2.1] ::cW 25 r1 [.int .u8 small_0.1, .int .u8 small_0.2.1,sv small_0.2.2.1,sv small_0.2.2.2.1,sv small_0.2.2.2.2.1,sv small_0.2.2.2.2.2.1,sv small_0.2.2.2.2.2.2.1] ::F) w_) (g:=cz) ?_ ?_
  ·refine AH k rfl (fun _ k=> ?_) (fun _ k=> ?_)
   ·refine AH k (by rw [bg] <;>rfl) (fun _ k=> ?_) (fun _ k=> ?_)
    ·have d0:=z.at1
     have d1:=d0.at1
     obtain rfl:=iS k
     exact AN ((t27.2.1==(5:Int)),()) rfl ⟨s,(Sub.refl _),rfl,d1⟩
    have d2:=z.at1
    have d3:=d2.at1
    obtain rfl:=iS k
    exact AN (false,()) rfl ⟨s,(Sub.refl _),rfl,d3⟩
   have d4:=z.at1
   have d5:=d4.at1
   obtain rfl:=iS k
   exact AN (false,()) rfl ⟨s,(Sub.refl _),rfl,d5⟩
  rintro z30 h9 ⟨d6,d7,rfl,d8⟩
  try dsimp only at hd
  obtain rfl:=iS hd
  have d9:=d8.tail
  have da:=d9.tail
  exact AC ⟨d6,z30.1,((((((c.trans d).trans e).trans a6).trans ab).trans a7).trans d7),rfl,rfl,da⟩
 refine AA (x:=t19.1) z rfl ?_
 refine AA (x:=t19.2.1) z rfl ?_
 have db:=z.nil 3 (Ro.int .i64)
 have dc:=db.at2
 have dd:=dc.at2
 have de:=dd.at2
 obtain ⟨df,dg,hd⟩:=bS hd
 refine Ad (fun (y:Int×(Option Addr×Nat×Nat)×Unit) w_ g=> ∃ψ:AE,∃bh:List Int,Sub s ψ∧bh=g∧St ψ (cR 3 (Ro.int .i64) y.2.1 bh::cW 32 r20 [sv t19.1,sv t19.2.1,sv t19.2.2.1,sv t19.2.2.2.1,sv t19.2.2.2.2.1,sv t19.2.2.2.2.2.1] ::cW 25 r1 [.int .u8 small_0.1, .int .u8 small_0.2.1,sv small_0.2.2.1,sv small_0.2.2.2.1,sv small_0.2.2.2.2.1,sv small_0.2.2.2.2.2.1,sv small_0.2.2.2.2.2.2.1] ::F) w_) (g:=df) ?_ ?_
 ·refine D4 dg (fun dh (y:Int×(Option Addr×Nat×Nat)×Unit) w_ g=> ∃ψ:AE,∃bi:List Int,Sub s ψ∧y.1=dh∧bi=g∧St ψ (cR 3 (Ro.int .i64) y.2.1 bi::cW 32 r20 [sv t19.1,sv t19.2.1,sv t19.2.2.1,sv t19.2.2.2.1,sv t19.2.2.2.2.1,sv t19.2.2.2.2.2.1] ::cW 25 r1 [.int .u8 small_0.1, .int .u8 small_0.2.1,sv small_0.2.2.1,sv small_0.2.2.2.1,sv small_0.2.2.2.2.1,sv small_0.2.2.2.2.2.1,sv small_0.2.2.2.2.2.2.1] ::F) w_) ((0:Int),((none,0,0):Slc),()) rfl ⟨s,([] :List Int),(Sub.refl _),rfl,rfl,de⟩ ?_ ?_
  ·rintro _ z34 hb _ _ ⟨di,hc,bj,rfl,rfl,av⟩ o dj bk bl
   try dsimp only at o dj bk bl
   have he:=av.rowLen
   refine Az (by rw [ap]; exact decide_eq_true bk) ?_
   obtain ⟨aw,dk,o⟩:=bS o
   obtain ⟨hf,hg,dl,dm,dn,dp⟩:=(b4.mono ((((((c.trans d).trans e).trans a6).trans ab).trans a7).trans bj)).get dk
   refine AG _ dl (AZ dm ?_)
   obtain rfl:=dn
   refine AL (x:=aw) (AB (Sub.trans (Sub.refl _) av.sub) (dp 0 _ rfl)) rfl ?_
   refine CP o (by rw [a9,aa]; exact id) fun hh o=> ?_
   refine Ac (vs:= [.int .i64 (Int.tmod (IntKind.wrap .i64 aw) (IntKind.wrap .i64 (((t19.1.2.1:Nat):Int) +((t19.2.1.2.1:Nat):Int))))]) av fun r37 hi bm=> ?_
   have dq:=St.cells bm
   have dr:=bm.tail
   obtain ⟨ds,dt,o⟩:=bS o
   refine Aq (r:=(Ro.int .i64)) (ms:=([(Int.tmod (IntKind.wrap .i64 aw) (IntKind.wrap .i64 ((((List.length b6):Nat):Int) +(((List.length b7):Nat):Int))))] :List Int)) CT dr rfl dq (.cons (a:= [_]) (show _=_ by rw [a9,aa]; rfl) .nil) rfl dt ?_
   intro t38 hj bn
   have hk:=bn.rowLen
   have du:=bn.at2
   have dv:=du.at2
   have dw:=dv.at2
   obtain rfl:=iS o
   exact Ar ((IntKind.wrap .i64 (z34.1+(1:Int))),t38,()) _ rfl rfl ⟨di,ds,bj,bl,rfl,dw⟩
  ·rintro _ z34 hl ⟨dx,dy,dz,rfl,rfl,bo⟩ e0
   have hm:=bo.rowLen
   refine Al (by rw [ap]; exact decide_eq_false (Int.not_lt.2 e0)) ?_
   have e1:=bo.at2
   have e2:=e1.at2
   have e3:=e2.at2
   exact AO (AS (z34.1,z34.2.1,()) rfl ⟨dx,dy,dz,rfl,e3⟩)
 rintro z33 hn ⟨ax,ay,az,rfl,bp⟩
 try dsimp only at hd
 have e4:=bp.rowLen
 have e5:=bp.nil 3 (Ro.int .i64)
 have e6:=e5.at3
 have e7:=e6.at3
 have e8:=e7.at3
 have e9:=e8.at3
 obtain ⟨ea,eb,hd⟩:=bS hd
 refine Ad (fun (y:Int×(Option Addr×Nat×Nat)×Unit) w_ g=> ∃ψ:AE,∃bq:List Int,Sub ax ψ∧bq=g∧St ψ (cR 3 (Ro.int .i64) y.2.1 bq::cR 3 (Ro.int .i64) z33.2.1 ay::cW 32 r20 [sv t19.1,sv t19.2.1,sv t19.2.2.1,sv t19.2.2.2.1,sv t19.2.2.2.2.1,sv t19.2.2.2.2.2.1] ::cW 25 r1 [.int .u8 small_0.1, .int .u8 small_0.2.1,sv small_0.2.2.1,sv small_0.2.2.2.1,sv small_0.2.2.2.2.1,sv small_0.2.2.2.2.2.1,sv small_0.2.2.2.2.2.2.1] ::F) w_) (g:=ea) ?_ ?_
 ·refine D4 eb (fun ec (y:Int×(Option Addr×Nat×Nat)×Unit) w_ g=> ∃ψ:AE,∃br:List Int,Sub ax ψ∧y.1=ec∧br=g∧St ψ (cR 3 (Ro.int .i64) y.2.1 br::cR 3 (Ro.int .i64) z33.2.1 ay::cW 32 r20 [sv t19.1,sv t19.2.1,sv t19.2.2.1,sv t19.2.2.2.1,sv t19.2.2.2.2.1,sv t19.2.2.2.2.2.1] ::cW 25 r1 [.int .u8 small_0.1, .int .u8 small_0.2.1,sv small_0.2.2.1,sv small_0.2.2.2.1,sv small_0.2.2.2.2.1,sv small_0.2.2.2.2.2.1,sv small_0.2.2.2.2.2.2.1] ::F) w_) ((0:Int),((none,0,0):Slc),()) rfl ⟨ax,([] :List Int),(Sub.refl _),rfl,rfl,e9⟩ ?_ ?_
  ·rintro _ z40 ho _ _ ⟨ed,hp,bs,rfl,rfl,b0⟩ p ee bt bu
   try dsimp only at p ee bt bu
   have hq:=b0.rowLen
   refine Az (by rw [aq]; exact decide_eq_true bt) ?_
   obtain ⟨b1,ef,p⟩:=bS p
   obtain ⟨hr,hs,eg,eh,ei,ej⟩:=(b5.mono (((((((c.trans d).trans e).trans a6).trans ab).trans a7).trans az).trans bs)).get ef
   refine AG _ eg (AZ eh ?_)
   obtain rfl:=ei
   refine AL (x:=b1) (AB (Sub.trans (Sub.refl _) b0.sub) (ej 0 _ rfl)) rfl ?_
   refine CP p (by rw [a9,aa]; exact id) fun ht p=> ?_
   refine Ac (vs:= [.int .i64 (Int.tmod (IntKind.wrap .i64 b1) (IntKind.wrap .i64 (((t19.1.2.1:Nat):Int) +((t19.2.1.2.1:Nat):Int))))]) b0 fun r43 hu bv=> ?_
   have ek:=St.cells bv
   have el:=bv.tail
   obtain ⟨em,en,p⟩:=bS p
   refine Aq (r:=(Ro.int .i64)) (ms:=([(Int.tmod (IntKind.wrap .i64 b1) (IntKind.wrap .i64 ((((List.length b6):Nat):Int) +(((List.length b7):Nat):Int))))] :List Int)) CT el rfl ek (.cons (a:= [_]) (show _=_ by rw [a9,aa]; rfl) .nil) rfl en ?_
   intro t44 hv bw
   have hw:=bw.rowLen
   have eo:=bw.at3
   have ep:=eo.at3
   have er:=ep.at3
   have es:=er.at3
   obtain rfl:=iS p
   exact Ar ((IntKind.wrap .i64 (z40.1+(1:Int))),t44,()) _ rfl rfl ⟨ed,em,bs,bu,rfl,es⟩
  ·rintro _ z40 hx ⟨eu,ev,ew,rfl,rfl,bx⟩ ex
   have hy:=bx.rowLen
   refine Al (by rw [aq]; exact decide_eq_false (Int.not_lt.2 ex)) ?_
   have ey:=bx.at3
   have ez:=ey.at3
   have f0:=ez.at3
   have f1:=f0.at3
   exact AO (AS (z40.1,z40.2.1,()) rfl ⟨eu,ev,ew,rfl,f1⟩)
 rintro z39 hz ⟨i0,f2,bz,rfl,c0⟩
 try dsimp only at hd
 have f3:=c0.rowLen
 obtain ⟨i1,f4,hd⟩:=bS hd
 have a0:=((au.mono ((a7.trans az).trans bz))).get f4
 obtain ⟨i2,f5,hd⟩:=bS hd
 refine AK (Av a0 c0 f5) ?_
 rintro _ i3 ⟨i4,t45,a1,rfl,rfl,f6⟩
 refine ⟨t45,rfl,?_⟩
 refine CP hd id fun i5 hd=> ?_
 have f7:=f6.at1
 obtain ⟨i6,a2,c1,f8⟩:=St.freezeRow (t:=z33.2.1) f7
 obtain ⟨i7,f9,hd⟩:=bS hd
 refine AK (BN (a0.mono (a1.trans a2)) c1 f8 f9) ?_
 rintro _ i8 ⟨i9,t46,a3,rfl,rfl,fa⟩
 refine ⟨t46,rfl,?_⟩
 obtain ⟨ia,a4,b2,fb⟩:=St.freezeRow (t:=z39.2.1) fa
 obtain ⟨ib,fc,hd⟩:=bS hd
 refine AK (BN (a0.mono (((a1.trans a2).trans a3).trans a4)) b2 fb fc) ?_
 rintro _ ic ⟨c2,t47,u,rfl,rfl,c3⟩
 refine ⟨t47,rfl,?_⟩
 obtain ⟨fd,b,hd⟩:=bS hd
 refine Ak (fun (y:Bool×Unit) w_ g=> ∃ψ:AE,Sub c2 ψ∧y.1=g∧St ψ (cW 32 r20 [sv t19.1,sv t19.2.1,sv t19.2.2.1,sv t19.2.2.2.1,sv t19.2.2.2.2.1,sv t19.2.2.2.2.2.1] ::cW 25 r1 [.int .u8 small_0.1, .int .u8 small_0.2.1,sv small_0.2.2.1,sv small_0.2.2.2.1,sv small_0.2.2.2.2.1,sv small_0.2.2.2.2.2.1,sv small_0.2.2.2.2.2.2.1] ::F) w_) (g:=fd) ?_ ?_
 ·refine AH b rfl (fun _ b=> ?_) (fun _ b=> ?_)
  ·refine Ac (vs:= []) c3 fun r49 ie c4=> ?_
   obtain ⟨ig,fe,ff⟩:=(c1.mono ((a3.trans a4).trans u)).heap c4.sub
   have fg:=St.lit (r:=(Ro.int .i64)) (l:=([] :List Int)) (n:=0) c4 .nil rfl (by decide)
   obtain ⟨ih,fh,b⟩:=bS b
   refine Aq (r:=(Ro.int .i64)) (ms:=ay) CT fg rfl ff fe e4.symm fh ?_
   intro t50 ii b3
   have ij:=b3.rowLen
   obtain ⟨ik,fi,fj⟩:=(b2.mono u).heap b3.sub
   obtain ⟨il,fk,b⟩:=bS b
   refine Aq (r:=(Ro.int .i64)) (ms:=f2) CT b3 rfl fj fi f3.symm fk ?_
   intro t51 im c5
   have io:=c5.rowLen
   obtain ⟨ip,w,fl,fm⟩:=St.freezeRow (t:=t51) c5
   obtain ⟨iq,fn,b⟩:=bS b
   refine AK (BN (a0.mono (((((a1.trans a2).trans a3).trans a4).trans u).trans w)) fl fm fn) ?_
   rintro _ ir ⟨c6,t52,a5,rfl,rfl,c7⟩
   refine ⟨t52,rfl,?_⟩
   refine AH b rfl (fun _ b=> ?_) (fun _ b=> ?_)
   ·obtain ⟨it,fo,b⟩:=bS b
    refine AK (BN (a0.mono ((((((a1.trans a2).trans a3).trans a4).trans u).trans w).trans a5)) (Ro.SliceIs.nil (Ro.int .i64) c6) c7 fo) ?_
    rintro _ iu ⟨fp,t53,ac,rfl,rfl,c8⟩
    refine ⟨t53,rfl,?_⟩
    refine AH b rfl (fun _ b=> ?_) (fun _ b=> ?_)
    ·obtain ⟨iv,fq,b⟩:=bS b
     refine AK (BN (a0.mono (((((((a1.trans a2).trans a3).trans a4).trans u).trans w).trans a5).trans ac)) (b2.mono (((u.trans w).trans a5).trans ac)) c8 fq) ?_
     rintro _ iw ⟨fr,t54,fs,rfl,rfl,ft⟩
     refine ⟨t54,rfl,?_⟩
     have fu:=ft.at1
     have fv:=fu.at1
     obtain rfl:=iS b
     exact AN ((t54==(-1:Int)),()) rfl ⟨fr,(((w.trans a5).trans ac).trans fs),rfl,fv⟩
    have fw:=c8.at1
    have fx:=fw.at1
    obtain rfl:=iS b
    exact AN (false,()) rfl ⟨fp,((w.trans a5).trans ac),rfl,fx⟩
   have fy:=c7.at1
   have fz:=fy.at1
   obtain rfl:=iS b
   exact AN (false,()) rfl ⟨c6,(w.trans a5),rfl,fz⟩
  have g0:=c3.at1
  have g1:=g0.at1
  obtain rfl:=iS b
  exact AN (false,()) rfl ⟨c2,(Sub.refl _),rfl,g1⟩
 rintro z48 ix ⟨g2,g3,rfl,g4⟩
 try dsimp only at hd
 obtain rfl:=iS hd
 have g5:=g4.tail
 have g6:=g5.tail
 exact AC ⟨g2,z48.1,(((((((((((((c.trans d).trans e).trans a6).trans ab).trans a7).trans az).trans bz).trans a1).trans a2).trans a3).trans a4).trans u).trans g3),rfl,rfl,g6⟩
noncomputable def Bc (small_0:Gv):Option Bool:=
 (A4).bind fun t2=>
 (An (small_0.1,small_0.2.1,small_0.2.2.1,small_0.2.2.2.1,small_0.2.2.2.2.1,small_0.2.2.2.2.2.1,small_0.2.2.2.2.2.2) (12:Int) (5:Int)).bind fun t10=>
 cond (!t10)
 (some t2)
 ((Ae (small_0.1,small_0.2.1,small_0.2.2.1,small_0.2.2.2.1,small_0.2.2.2.2.1,small_0.2.2.2.2.2.1,small_0.2.2.2.2.2.2)).bind fun t18=>
  (CN (t18.1,t18.2.1,t18.2.2.1,t18.2.2.2.1,t18.2.2.2.2.1,t18.2.2.2.2.2) (2000:Int) (40000:Int)).bind fun t26=>
  cond (Option.isNone t26.1)
  ((cond t2
   (some (t26.2==(5:Int)))
   (some false)).bind fun z27=>
   some z27)
  ((loop (σ:=Int) (β:=AR Unit Bool) (0:Int) fun z29=>
   t26.1.bind fun e99=>
   (Af e99).bind fun t30=>
   cond (decide (z29<t30))
   ((BR e99 z29).bind fun t31=>
    (CI (σ:=Unit) (β:=Bool) (0:Int) (((List.length t31):Nat):Int) () fun i_z33 z33=>
     ((idx t31 i_z33).bind fun e139=>
     cond (decide (e139.1< (0:Int)))
     (some true)
     ((idx t31 i_z33).bind fun e152=>
      cond (decide (e152.1≥ (((List.length t18.2.2.1):Nat):Int)))
      (some true)
      ((idx t31 i_z33).bind fun e165=>
       cond (decide (e165.2< (0:Int)))
       (some true)
       ((idx t31 i_z33).bind fun e178=>
        (idx t31 i_z33).bind fun e189=>
        (idx t18.2.2.1 e189.1).bind fun e200=>
        some (decide (e178.2>(((List.length e200.2.1):Nat):Int))))))).bind fun z34=>
     cond z34
     (some (AR.done false))
     ((idx t31 i_z33).bind fun e227=>
      (idx t18.2.2.1 e227.1).bind fun e238=>
      (idx t31 i_z33).bind fun e254=>
      (cut e238.2.1 e254.2 (((List.length e238.2.1):Nat):Int)).bind fun c262=>
      (Ag e99 z29 c262).bind fun t56=>
      (cond (decide (t56< (0:Int)))
      (some true)
      ((idx t31 i_z33).bind fun e281=>
       (idx t31 i_z33).bind fun e292=>
       (BR e99 t56).bind fun t62=>
       (BK t62 (e281.1,(IntKind.wrap .i64 (e292.2+(((Int.toNat (((List.length e238.2.1):Nat):Int) - Int.toNat e254.2):Nat):Int))))).bind fun t63=>
       some (!t63))).bind fun z57=>
      cond z57
      (some (AR.done false))
      (some (AR.next ())))).bind fun e_z32=>match e_z32 with
    | .next z32=>
     some (AR.next (IntKind.wrap .i64 (z29+(1:Int))))
    | .done q338=>some (AR.done (AR.done q338)))
   (some (AR.done (AR.next ())))).bind fun e_z28=>match e_z28 with
   | .next z28=>
    (cond t2
    (t26.1.bind fun e352=>
     (Af e352).bind fun t65=>
     some (decide (t65>(0:Int))))
    (some false)).bind fun z64=>
    some z64
   | .done q370=>some q370))
theorem EC {φ:AE} {h:AF} {F:List Chk} {small_0:Int×Int×(Option Addr×Nat×Nat)×(Option Addr×Nat×Nat)×(Option Addr×Nat×Nat)×(Option Addr×Nat×Nat)×(Option Addr×Nat×Nat)×Unit} {a7:List Int} {a8:List (List Int)} {a9:List Int} {aa:List Int} {ab:List Int} (gk:FC φ) (ac:Ro.SliceIs (Ro.int .u8) φ small_0.2.2.1 a7) (ad:Ro.SliceIs (Ro.list (Ro.int .u8)) φ small_0.2.2.2.1 a8) (ae:Ro.SliceIs (Ro.int .u8) φ small_0.2.2.2.2.1 a9) (af:Ro.SliceIs (Ro.int .u8) φ small_0.2.2.2.2.2.1 aa) (ag:Ro.SliceIs (Ro.int .u8) φ small_0.2.2.2.2.2.2.1 ab) (s0:St φ (F) h) {r:Bool} (hd:Bc (small_0.1,small_0.2.1,a7,a8,a9,aa,ab)=some r):
 CallsH Tryd.prog 6 [(.agg #[(.int .u8 small_0.1),(.int .u8 small_0.2.1),(.slice small_0.2.2.1.1 small_0.2.2.1.2.1 small_0.2.2.1.2.2),(.slice small_0.2.2.2.1.1 small_0.2.2.2.1.2.1 small_0.2.2.2.1.2.2),(.slice small_0.2.2.2.2.1.1 small_0.2.2.2.2.1.2.1 small_0.2.2.2.2.1.2.2),(.slice small_0.2.2.2.2.2.1.1 small_0.2.2.2.2.2.1.2.1 small_0.2.2.2.2.2.1.2.2),(.slice small_0.2.2.2.2.2.2.1.1 small_0.2.2.2.2.2.2.1.2.1 small_0.2.2.2.2.2.2.1.2.2)])] h (BO fun v h'=> ∃ψ:AE,∃y:Bool,Sub φ ψ∧v=((.one (.atom .bool)):Sh).val y∧y=r∧St ψ (F) h'):=by
 refine Aa mixed Tryd.func6 ?_
 rw [D7]
 unfold Cg
 unfold Bc at hd
 have gu:small_0.2.2.1.2.1=List.length a7:=ac.length
 have gv:small_0.2.2.2.1.2.1=List.length a8:=ad.length
 have gw:small_0.2.2.2.2.1.2.1=List.length a9:=ae.length
 have gx:small_0.2.2.2.2.2.1.2.1=List.length aa:=af.length
 have gy:small_0.2.2.2.2.2.2.1.2.1=List.length ab:=ag.length
 refine Ac (vs:= [.int .u8 small_0.1, .int .u8 small_0.2.1,sv small_0.2.2.1,sv small_0.2.2.2.1,sv small_0.2.2.2.2.1,sv small_0.2.2.2.2.2.1,sv small_0.2.2.2.2.2.2.1]) s0 fun r1 gz bk=> ?_
 obtain ⟨h0,bl,hd⟩:=bS hd
 refine AK (BZ gk bk bl) ?_
 rintro _ h1 ⟨h2,t2,d,rfl,rfl,p⟩
 refine ⟨t2,rfl,?_⟩
 refine AA (x:=small_0.1) p rfl ?_
 refine AA (x:=small_0.2.1) p rfl ?_
 refine AA (x:=small_0.2.2.1) p rfl ?_
 refine AA (x:=small_0.2.2.2.1) p rfl ?_
 refine AA (x:=small_0.2.2.2.2.1) p rfl ?_
 refine AA (x:=small_0.2.2.2.2.2.1) p rfl ?_
 refine AA (x:=small_0.2.2.2.2.2.2.1) p rfl ?_
 obtain ⟨h3,bm,hd⟩:=bS hd
 refine AK (BJ (s_0:=(small_0.1,small_0.2.1,small_0.2.2.1,small_0.2.2.2.1,small_0.2.2.2.2.1,small_0.2.2.2.2.2.1,small_0.2.2.2.2.2.2.1,())) (ac.mono d) (ad.mono d) (ae.mono d) (af.mono d) (ag.mono d) p bm) ?_
 rintro _ h4 ⟨bn,t10,j,rfl,rfl,m⟩
 refine ⟨t10,rfl,?_⟩
 refine AH hd rfl (fun _ hd=> ?_) (fun _ hd=> ?_)
 ·obtain rfl:=iS hd
  have bo:=m.tail
  exact AC ⟨bn,t2,(d.trans j),rfl,rfl,bo⟩
 refine AA (x:=small_0.1) m rfl ?_
 refine AA (x:=small_0.2.1) m rfl ?_
 refine AA (x:=small_0.2.2.1) m rfl ?_
 refine AA (x:=small_0.2.2.2.1) m rfl ?_
 refine AA (x:=small_0.2.2.2.2.1) m rfl ?_
 refine AA (x:=small_0.2.2.2.2.2.1) m rfl ?_
 refine AA (x:=small_0.2.2.2.2.2.2.1) m rfl ?_
 obtain ⟨h5,bp,hd⟩:=bS hd
 refine AK (A0 (s_0:=(small_0.1,small_0.2.1,small_0.2.2.1,small_0.2.2.2.1,small_0.2.2.2.2.1,small_0.2.2.2.2.2.1,small_0.2.2.2.2.2.2.1,())) (ac.mono (d.trans j)) (ad.mono (d.trans j)) (ae.mono (d.trans j)) (af.mono (d.trans j)) (ag.mono (d.trans j)) m bp) ?_
 rintro _ h6 ⟨h7,t18,h8,h9,hb,hc,he,hf,a0,rfl,rfl,ao,ap,a4,aq,ar,au,bq⟩
 refine ⟨t18,rfl,?_⟩
 try dsimp only at hd
 have hg:=ao.length
 have hh:=ap.length
 have br:=a4.length
 have hi:=aq.length
 have hj:=ar.length
 have hk:=au.length
 refine Ac (vs:= [.slice none 0 0, .slice none 0 0, .slice none 0 0, .slice none 0 0, .slice none 0 0, .slice none 0 0]) bq fun r19 hl bs=> ?_
 refine AJ bs rfl rfl fun hm bt=> ?_
 refine AJ bt rfl rfl fun hn bu=> ?_
 refine AJ bu rfl rfl fun ho bv=> ?_
 refine AJ bv rfl rfl fun hp bw=> ?_
 refine AJ bw rfl rfl fun hq bx=> ?_
 refine AJ bx rfl rfl fun hr q=> ?_
 refine AA (x:=t18.1) q rfl ?_
 refine AA (x:=t18.2.1) q rfl ?_
 refine AA (x:=t18.2.2.1) q rfl ?_
 refine AA (x:=t18.2.2.2.1) q rfl ?_
 refine AA (x:=t18.2.2.2.2.1) q rfl ?_
 refine AA (x:=t18.2.2.2.2.2.1) q rfl ?_
 obtain ⟨hs,bz,hd⟩:=bS hd
 refine AK (CO (p_0:=(t18.1,t18.2.1,t18.2.2.1,t18.2.2.2.1,t18.2.2.2.2.1,t18.2.2.2.2.2.1,())) (gk.mono ((d.trans j).trans a0)) ao ap a4 aq ar au q bz) ?_
 rintro _ ht ⟨u,t26,hu,w,rfl,rfl,ah,ai⟩
 refine ⟨t26,rfl,?_⟩
 try dsimp only at hd
 have c0:=ah.nil
 refine AH hd (by rw [c0] <;>rfl) (fun _ hd=> ?_) (fun _ hd=> ?_)
 ·obtain ⟨c1,a1,hd⟩:=bS hd
  refine Ak (fun (y:Bool×Unit) w_ g=> ∃ψ:AE,Sub u ψ∧y.1=g∧St ψ (cW 32 r19 [sv t18.1,sv t18.2.1,sv t18.2.2.1,sv t18.2.2.2.1,sv t18.2.2.2.2.1,sv t18.2.2.2.2.2.1] ::cW 25 r1 [.int .u8 small_0.1, .int .u8 small_0.2.1,sv small_0.2.2.1,sv small_0.2.2.2.1,sv small_0.2.2.2.2.1,sv small_0.2.2.2.2.2.1,sv small_0.2.2.2.2.2.2.1] ::F) w_) (g:=c1) ?_ ?_
  ·refine AH a1 rfl (fun _ a1=> ?_) (fun _ a1=> ?_)
   ·have c2:=ai.at1
    have c3:=c2.at1
    obtain rfl:=iS a1
    exact AN ((t26.2.1==(5:Int)),()) rfl ⟨u,(Sub.refl _),rfl,c3⟩
   have c4:=ai.at1
   have c5:=c4.at1
   obtain rfl:=iS a1
   exact AN (false,()) rfl ⟨u,(Sub.refl _),rfl,c5⟩
  rintro z27 hv ⟨c6,c7,rfl,c8⟩
  try dsimp only at hd
  obtain rfl:=iS hd
  have c9:=c8.tail
  have ca:=c9.tail
  exact AC ⟨c6,z27.1,((((d.trans j).trans a0).trans w).trans c7),rfl,rfl,ca⟩
 have cb:=ai.at1
 have cc:=cb.at1
 obtain ⟨cd,ce,hd⟩:=bS hd
 refine Ad (fun (y:Int×Bool×Unit) w_ g=> ∃ψ:AE,Sub u ψ∧AR.next ()=g∧St ψ (cW 32 r19 [sv t18.1,sv t18.2.1,sv t18.2.2.1,sv t18.2.2.2.1,sv t18.2.2.2.2.1,sv t18.2.2.2.2.2.1] ::cW 25 r1 [.int .u8 small_0.1, .int .u8 small_0.2.1,sv small_0.2.2.1,sv small_0.2.2.2.1,sv small_0.2.2.2.2.1,sv small_0.2.2.2.2.2.1,sv small_0.2.2.2.2.2.2.1] ::F) w_) (g:=cd) ?_ ?_
 ·refine FO ce (fun (y:Int×Bool×Unit) w_ g=> ∃ψ:AE,Sub u ψ∧y.1=g∧St ψ (cW 32 r19 [sv t18.1,sv t18.2.1,sv t18.2.2.1,sv t18.2.2.2.1,sv t18.2.2.2.2.1,sv t18.2.2.2.2.2.1] ::cW 25 r1 [.int .u8 small_0.1, .int .u8 small_0.2.1,sv small_0.2.2.1,sv small_0.2.2.2.1,sv small_0.2.2.2.2.1,sv small_0.2.2.2.2.2.1,sv small_0.2.2.2.2.2.2.1] ::F) w_) ((0:Int),false,()) rfl ⟨u,(Sub.refl _),rfl,cc⟩ ?_
  ·rintro z29 hw _ _ ⟨hx,s,rfl,cf⟩ c aj
   try dsimp only at c
   obtain ⟨hy,cg,c⟩:=bS c
   have a5:=((ah.mono s)).get cg
   obtain ⟨hz,ch,c⟩:=bS c
   refine AK (Av a5 cf ch) ?_
   rintro _ i0 ⟨ci,t30,n,rfl,rfl,av⟩
   refine ⟨t30,rfl,?_⟩
   refine AH c rfl (fun _ c=> ?_) (fun _ c=> ?_)
   ·obtain ⟨i1,cj,c⟩:=bS c
    refine AK (CX (a5.mono n) av cj) ?_
    rintro _ i2 ⟨ak,t31,i3,t,rfl,rfl,k,ck⟩
    refine ⟨t31,rfl,?_⟩
    have aw:=k.length
    have cl:=ck.at1
    have cm:=cl.at1
    obtain ⟨cn,co,c⟩:=bS c
    refine Ad (fun (y:Int×Bool×Unit) w_ g=> ∃ψ:AE,Sub ak ψ∧AR.next ()=g∧St ψ (cW 32 r19 [sv t18.1,sv t18.2.1,sv t18.2.2.1,sv t18.2.2.2.1,sv t18.2.2.2.2.1,sv t18.2.2.2.2.2.1] ::cW 25 r1 [.int .u8 small_0.1, .int .u8 small_0.2.1,sv small_0.2.2.1,sv small_0.2.2.2.1,sv small_0.2.2.2.2.1,sv small_0.2.2.2.2.2.1,sv small_0.2.2.2.2.2.2.1] ::F) w_) (g:=cn) ?_ ?_
    ·refine BQ co (fun cp (y:Int×Bool×Unit) w_ g=> ∃ψ:AE,Sub ak ψ∧y.1=cp∧()=g∧St ψ (cW 32 r19 [sv t18.1,sv t18.2.1,sv t18.2.2.1,sv t18.2.2.2.1,sv t18.2.2.2.2.1,sv t18.2.2.2.2.2.1] ::cW 25 r1 [.int .u8 small_0.1, .int .u8 small_0.2.1,sv small_0.2.2.1,sv small_0.2.2.2.1,sv small_0.2.2.2.2.1,sv small_0.2.2.2.2.2.1,sv small_0.2.2.2.2.2.2.1] ::F) w_) ((0:Int),z29.2.1,()) rfl ⟨ak,(Sub.refl _),rfl,rfl,cm⟩ ?_ ?_
     ·rintro _ z33 i4 _ _ ⟨a2,e,rfl,rfl,i⟩ a cq ax ay az
      try dsimp only at a cq ax ay
      refine Az (by rw [aw]; exact decide_eq_true ax) ?_
      obtain ⟨cr,b,a⟩:=bS a
      refine Ak (fun (y:Bool×Unit) w_ g=> ∃ψ:AE,Sub a2 ψ∧y.1=g∧St ψ (cW 32 r19 [sv t18.1,sv t18.2.1,sv t18.2.2.1,sv t18.2.2.2.1,sv t18.2.2.2.2.1,sv t18.2.2.2.2.2.1] ::cW 25 r1 [.int .u8 small_0.1, .int .u8 small_0.2.1,sv small_0.2.2.1,sv small_0.2.2.2.1,sv small_0.2.2.2.2.1,sv small_0.2.2.2.2.2.1,sv small_0.2.2.2.2.2.2.1] ::F) w_) (g:=cr) ?_ ?_
      ·obtain ⟨cs,ct,b⟩:=bS b
       obtain ⟨i5,i6,cu,cv,cw,cx⟩:=(k.mono e).get ct
       refine AG _ cu (AZ cv ?_)
       obtain ⟨_,_,rfl,cy,cz⟩:=cw
       obtain rfl:=cy
       obtain rfl:=cz
       refine AL (x:=cs.1) (AB (Sub.trans (Sub.refl _) i.sub) (cx 0 _ rfl)) rfl ?_
       refine AH b rfl (fun _ b=> ?_) (fun _ b=> ?_)
       ·have d0:=i.at1
        have d1:=d0.at1
        obtain rfl:=iS b
        exact AN (true,()) rfl ⟨a2,(Sub.refl _),rfl,d1⟩
       obtain ⟨d2,d3,b⟩:=bS b
       obtain ⟨i7,i8,d4,d5,d6,d7⟩:=(k.mono e).get d3
       refine AG _ d4 (AZ d5 ?_)
       obtain ⟨_,_,rfl,d8,d9⟩:=d6
       obtain rfl:=d8
       obtain rfl:=d9
       refine AL (x:=d2.1) (AB (Sub.trans (Sub.refl _) i.sub) (d7 0 _ rfl)) rfl ?_
       refine AA (x:=t18.2.2.1) i rfl ?_
       refine AH b (by rw [br] <;>rfl) (fun _ b=> ?_) (fun _ b=> ?_)
       ·have da:=i.at1
        have db:=da.at1
        obtain rfl:=iS b
        exact AN (true,()) rfl ⟨a2,(Sub.refl _),rfl,db⟩
       obtain ⟨dc,dd,b⟩:=bS b
       obtain ⟨i9,ia,de,df,dg,dh⟩:=(k.mono e).get dd
       refine AG _ de (AZ df ?_)
       obtain ⟨_,_,rfl,di,dj⟩:=dg
       obtain rfl:=di
       obtain rfl:=dj
       refine AL (x:=dc.2) (by rw [AV]; exact (AB (Sub.trans (Sub.refl _) i.sub) (dh 1 _ rfl))) rfl ?_
       refine AH b rfl (fun _ b=> ?_) (fun _ b=> ?_)
       ·have dk:=i.at1
        have dl:=dk.at1
        obtain rfl:=iS b
        exact AN (true,()) rfl ⟨a2,(Sub.refl _),rfl,dl⟩
       obtain ⟨b0,dm,b⟩:=bS b
       obtain ⟨ib,ic,dn,dp,dq,dr⟩:=(k.mono e).get dm
       refine AG _ dn (AZ dp ?_)
       obtain ⟨_,_,rfl,ds,dt⟩:=dq
       obtain rfl:=ds
       obtain rfl:=dt
       refine AL (x:=b0.2) (by rw [AV]; exact (AB (Sub.trans (Sub.refl _) i.sub) (dr 1 _ rfl))) rfl ?_
       refine AA (x:=t18.2.2.1) i rfl ?_
       obtain ⟨du,dv,b⟩:=bS b
       obtain ⟨ie,ig,dw,dx,dy,dz⟩:=(k.mono e).get dv
       refine AG _ dw (AZ dx ?_)
       obtain ⟨_,_,rfl,e0,e1⟩:=dy
       obtain rfl:=e0
       obtain rfl:=e1
       refine AL (x:=du.1) (AB (Sub.trans (Sub.refl _) i.sub) (dz 0 _ rfl)) rfl ?_
       obtain ⟨ih,e2,b⟩:=bS b
       obtain ⟨ii,ij,e3,e4,e5,e6⟩:=(a4.mono ((((w.trans s).trans n).trans t).trans e)).get e2
       refine AG _ e3 (AZ e4 ?_)
       obtain ⟨_,_,rfl,e7,e8⟩:=e5
       obtain rfl:=e7
       obtain ⟨_,_,rfl,e9,ea⟩:=e8
       obtain ⟨b1,rfl,eb⟩:=e9
       have ec:=eb.length
       obtain rfl:=ea
       refine AL (x:=b1) (by rw [AV]; exact (AB (Sub.trans (Sub.refl _) i.sub) (e6 1 _ rfl))) rfl ?_
       have ed:=i.at1
       have ee:=ed.at1
       obtain rfl:=iS b
       exact AN ((decide (b0.2>((b1.2.1:Nat):Int))),()) rfl ⟨a2,(Sub.refl _),(by rw [ec]),ee⟩
      rintro z34 ik ⟨ef,l,rfl,z⟩
      try dsimp only at a
      refine AH a rfl (fun _ a=> ?_) (fun _ a=> ?_)
      ·obtain rfl:=iS a
       obtain rfl:=az _ rfl
       try dsimp only at c
       obtain rfl:=iS c
       obtain rfl:=aj _ rfl
       try dsimp only at hd
       obtain rfl:=iS hd
       have eg:=z.tail
       have eh:=eg.tail
       exact AU (AY (AU (AY (AC ⟨ef,false,((((((((d.trans j).trans a0).trans w).trans s).trans n).trans t).trans e).trans l),rfl,rfl,eh⟩))))
      refine AA (x:=t18.2.2.1) z rfl ?_
      obtain ⟨ei,ej,a⟩:=bS a
      obtain ⟨il,im,ek,el,em,en⟩:=(k.mono (e.trans l)).get ej
      refine AG _ ek (AZ el ?_)
      obtain ⟨_,_,rfl,eo,ep⟩:=em
      obtain rfl:=eo
      obtain rfl:=ep
      refine AL (x:=ei.1) (AB (Sub.trans (Sub.refl _) z.sub) (en 0 _ rfl)) rfl ?_
      obtain ⟨io,er,a⟩:=bS a
      obtain ⟨ip,iq,es,eu,ev,ew⟩:=(a4.mono (((((w.trans s).trans n).trans t).trans e).trans l)).get er
      refine AG _ es (AZ eu ?_)
      obtain ⟨_,_,rfl,ex,ey⟩:=ev
      obtain rfl:=ex
      obtain ⟨_,_,rfl,ez,f0⟩:=ey
      obtain ⟨b2,rfl,b3⟩:=ez
      have b4:=b3.length
      obtain rfl:=f0
      refine AL (x:=b2) (by rw [AV]; exact (AB (Sub.trans (Sub.refl _) z.sub) (ew 1 _ rfl))) rfl ?_
      obtain ⟨b5,f1,a⟩:=bS a
      obtain ⟨ir,it,f2,f3,f4,f5⟩:=(k.mono (e.trans l)).get f1
      refine AG _ f2 (AZ f3 ?_)
      obtain ⟨_,_,rfl,f6,f7⟩:=f4
      obtain rfl:=f6
      obtain rfl:=f7
      refine AL (x:=b5.2) (by rw [AV]; exact (AB (Sub.trans (Sub.refl _) z.sub) (f5 1 _ rfl))) rfl ?_
      obtain ⟨iu,f8,a⟩:=bS a
      obtain ⟨b6,al⟩:=b3.cut (sz:=1) f8 rfl
      rw [← b4] at b6 al
      refine AZ b6 ?_
      have iv:=al.length
      obtain ⟨iw,f9,a⟩:=bS a
      refine AK (BN (a5.mono (((n.trans t).trans e).trans l)) al z f9) ?_
      rintro _ ix ⟨b7,t56,a3,rfl,rfl,a6⟩
      refine ⟨t56,rfl,?_⟩
      obtain ⟨fa,f,a⟩:=bS a
      refine Ak (fun (y:Bool×Unit) w_ g=> ∃ψ:AE,Sub b7 ψ∧y.1=g∧St ψ (cW 32 r19 [sv t18.1,sv t18.2.1,sv t18.2.2.1,sv t18.2.2.2.1,sv t18.2.2.2.2.1,sv t18.2.2.2.2.2.1] ::cW 25 r1 [.int .u8 small_0.1, .int .u8 small_0.2.1,sv small_0.2.2.1,sv small_0.2.2.2.1,sv small_0.2.2.2.2.1,sv small_0.2.2.2.2.2.1,sv small_0.2.2.2.2.2.2.1] ::F) w_) (g:=fa) ?_ ?_
      ·refine AH f rfl (fun _ f=> ?_) (fun _ f=> ?_)
       ·have fb:=a6.at1
        have fc:=fb.at1
        obtain rfl:=iS f
        exact AN (true,()) rfl ⟨b7,(Sub.refl _),rfl,fc⟩
       obtain ⟨b8,fd,f⟩:=bS f
       obtain ⟨iy,iz,fe,ff,fg,b9⟩:=(k.mono ((e.trans l).trans a3)).get fd
       refine AG _ fe (AZ ff ?_)
       obtain ⟨_,_,rfl,fh,fi⟩:=fg
       obtain rfl:=fh
       obtain rfl:=fi
       refine AL (x:=b8.1) (AB (Sub.trans (Sub.refl _) a6.sub) (b9 0 _ rfl)) rfl ?_
       obtain ⟨ba,fj,f⟩:=bS f
       obtain ⟨j0,j1,fk,fl,fm,bb⟩:=(k.mono ((e.trans l).trans a3)).get fj
       refine AG _ fk (AZ fl ?_)
       obtain ⟨_,_,rfl,fn,fo⟩:=fm
       obtain rfl:=fn
       obtain rfl:=fo
       refine AL (x:=ba.2) (by rw [AV]; exact (AB (Sub.trans (Sub.refl _) a6.sub) (bb 1 _ rfl))) rfl ?_
       obtain ⟨j2,fp,f⟩:=bS f
       refine AK (CX (a5.mono ((((n.trans t).trans e).trans l).trans a3)) a6 fp) ?_
       rintro _ j3 ⟨j4,t62,j5,am,rfl,rfl,bc,an⟩
       refine ⟨t62,rfl,?_⟩
       have j6:=bc.length
       refine Ab (by rw [AV]; exact (AB (Sub.trans am an.sub) (bb 1 _ rfl))) ?_
       refine Ab (AB (Sub.trans am an.sub) (b9 0 _ rfl)) ?_
       obtain ⟨j7,bd,f⟩:=bS f
       rw [← b4] at bd
       refine AK (CG (x_1:=(b8.1,(IntKind.wrap .i64 (ba.2+(((Int.toNat ((b2.2.1:Nat):Int) - Int.toNat b5.2):Nat):Int))),())) bc an bd) ?_
       rintro _ j8 ⟨fq,t63,fr,rfl,rfl,fs⟩
       refine ⟨t63,rfl,?_⟩
       have ft:=fs.at1
       have fu:=ft.at1
       obtain rfl:=iS f
       exact AN ((!t63),()) rfl ⟨fq,(am.trans fr),rfl,fu⟩
      rintro z57 j9 ⟨be,bf,rfl,bg⟩
      try dsimp only at a
      refine AH a rfl (fun _ a=> ?_) (fun _ a=> ?_)
      ·obtain rfl:=iS a
       obtain rfl:=az _ rfl
       try dsimp only at c
       obtain rfl:=iS c
       obtain rfl:=aj _ rfl
       try dsimp only at hd
       obtain rfl:=iS hd
       have fv:=bg.tail
       have fw:=fv.tail
       exact AU (AY (AU (AY (AC ⟨be,false,((((((((((d.trans j).trans a0).trans w).trans s).trans n).trans t).trans e).trans l).trans a3).trans bf),rfl,rfl,fw⟩))))
      have fx:=bg.at1
      have fy:=fx.at1
      obtain rfl:=iS a
      exact Ar ((IntKind.wrap .i64 (z33.1+(1:Int))),z33.2.1,()) _ rfl rfl ⟨be,(((e.trans l).trans a3).trans bf),ay,rfl,fy⟩
     ·rintro _ z33 ja _ ⟨fz,g0,rfl,rfl,g1⟩ g2 g3
      subst g3
      refine Al (by rw [aw]; exact decide_eq_false (Int.not_lt.2 g2)) ?_
      have g4:=g1.at1
      have g5:=g4.at1
      exact AO (AS (z33.1,z33.2.1,()) rfl ⟨fz,g0,rfl,g5⟩)
    rintro z32 jb ⟨g6,g7,rfl,g8⟩
    try dsimp only at c
    have g9:=g8.at1
    have ga:=g9.at1
    obtain rfl:=iS c
    exact Ar ((IntKind.wrap .i64 (z29.1+(1:Int))),z32.2.1,()) _ rfl rfl ⟨g6,(((s.trans n).trans t).trans g7),rfl,ga⟩
   have gb:=av.at1
   have gc:=gb.at1
   obtain rfl:=iS c
   obtain rfl:=aj _ rfl
   exact AO (AS (z29.1,z29.2.1,()) rfl ⟨ci,(s.trans n),rfl,gc⟩)
 rintro z28 jc ⟨bh,bi,rfl,bj⟩
 try dsimp only at hd
 obtain ⟨gd,o,hd⟩:=bS hd
 refine Ak (fun (y:Bool×Unit) w_ g=> ∃ψ:AE,Sub bh ψ∧y.1=g∧St ψ (cW 32 r19 [sv t18.1,sv t18.2.1,sv t18.2.2.1,sv t18.2.2.2.1,sv t18.2.2.2.2.1,sv t18.2.2.2.2.2.1] ::cW 25 r1 [.int .u8 small_0.1, .int .u8 small_0.2.1,sv small_0.2.2.1,sv small_0.2.2.2.1,sv small_0.2.2.2.2.1,sv small_0.2.2.2.2.2.1,sv small_0.2.2.2.2.2.2.1] ::F) w_) (g:=gd) ?_ ?_
 ·refine AH o rfl (fun _ o=> ?_) (fun _ o=> ?_)
  ·obtain ⟨jd,ge,o⟩:=bS o
   have gf:=((ah.mono bi)).get ge
   obtain ⟨je,gg,o⟩:=bS o
   refine AK (Av gf bj gg) ?_
   rintro _ jf ⟨gh,t65,gi,rfl,rfl,gj⟩
   refine ⟨t65,rfl,?_⟩
   have gl:=gj.at1
   have gm:=gl.at1
   obtain rfl:=iS o
   exact AN ((decide (t65>(0:Int))),()) rfl ⟨gh,gi,rfl,gm⟩
  have gn:=bj.at1
  have go:=gn.at1
  obtain rfl:=iS o
  exact AN (false,()) rfl ⟨bh,(Sub.refl _),rfl,go⟩
 rintro z64 jg ⟨gp,gq,rfl,gr⟩
 try dsimp only at hd
 obtain rfl:=iS hd
 have gs:=gr.tail
 have gt:=gs.tail
 exact AC ⟨gp,z64.1,(((((d.trans j).trans a0).trans w).trans bi).trans gq),rfl,rfl,gt⟩
noncomputable def Bd (small_0:Gv):Option Bool:=
 (A4).bind fun t2=>
 (An (small_0.1,small_0.2.1,small_0.2.2.1,small_0.2.2.2.1,small_0.2.2.2.2.1,small_0.2.2.2.2.2.1,small_0.2.2.2.2.2.2) (12:Int) (5:Int)).bind fun t10=>
 cond (!t10)
 (some t2)
 ((Ae (small_0.1,small_0.2.1,small_0.2.2.1,small_0.2.2.2.1,small_0.2.2.2.2.1,small_0.2.2.2.2.2.1,small_0.2.2.2.2.2.2)).bind fun t18=>
  (CN (t18.1,t18.2.1,t18.2.2.1,t18.2.2.2.1,t18.2.2.2.2.1,t18.2.2.2.2.2) (2000:Int) (40000:Int)).bind fun t26=>
  cond (Option.isNone t26.1)
  ((cond t2
   (some (t26.2==(5:Int)))
   (some false)).bind fun z27=>
   some z27)
  (t26.1.bind fun e89=>
   (Af e89).bind fun t28=>
   (Jg t28 (0:Int)).bind fun t29=>
   (CI (σ:=List Int) (β:=Bool) (0:Int) t28 t29 fun i_z31 z31=>
    (A3 e89 i_z31).bind fun t32=>
    (CI (σ:=Unit) (β:=Bool) (0:Int) i_z31 () fun i_z34 z34=>
     (A3 e89 i_z34).bind fun t35=>
     (BW t35 t32).bind fun t36=>
     cond t36
     (some (AR.done false))
     (some (AR.next ()))).bind fun e_z33=>match e_z33 with
    | .next z33=>
     (cond ((((List.length t32):Nat):Int)==(0:Int))
     (some true)
     ((Jx e89 i_z31).bind fun t38=>
      (Ag e89 (0:Int) t38).bind fun t39=>
      some (t39 !=i_z31))).bind fun z37=>
     cond z37
     (some (AR.done false))
     ((B1 e89 i_z31).bind fun t40=>
      (CI (σ:=List Int) (β:=Bool) (0:Int) (((List.length t40):Nat):Int) z31 fun i_z42 z42=>
       ((idx t40 i_z42).bind fun e249=>
       cond (decide (e249.2≤(0:Int)))
       (some true)
       ((idx t40 i_z42).bind fun e263=>
        cond (decide (e263.2≥t28))
        (some true)
        (cond (decide (i_z42>(0:Int)))
         ((idx t40 (IntKind.wrap .i64 (i_z42 - (1:Int)))).bind fun e277=>
          (idx t40 i_z42).bind fun e288=>
          cond (decide (e277.1≥e288.1))
          (some true)
          ((idx t40 i_z42).bind fun e302=>
           (idx t40 i_z42).bind fun e313=>
           (A2 e89 i_z31 e302.1).bind fun t56=>
           some (t56 !=e313.2)))
         ((idx t40 i_z42).bind fun e334=>
          (idx t40 i_z42).bind fun e345=>
          (A2 e89 i_z31 e334.1).bind fun t61=>
          some (t61 !=e345.2))))).bind fun z43=>
       cond z43
       (some (AR.done false))
       (((idx t40 i_z42).bind fun e377=>
        (idx z42 e377.2).bind fun e388=>
        cond (e388 !=(0:Int))
        ((idx t40 i_z42).bind fun e397=>
         (idx z42 e397.2).bind fun e408=>
         (idx t40 i_z42).bind fun e417=>
         some (e408 !=e417.1))
        (some false)).bind fun z62=>
        cond z62
        (some (AR.done false))
        ((idx t40 i_z42).bind fun e442=>
         (idx t40 i_z42).bind fun e453=>
         (Gq z42 e442.2 e453.1).bind fun m468=>
         some (AR.next m468)))).bind fun e_z41=>match e_z41 with
      | .next z41=>
       some (AR.next z41)
      | .done q496=>some (AR.done q496))
    | .done q498=>some (AR.done q498)).bind fun e_z30=>match e_z30 with
   | .next z30=>
    (cond t2
    (some (decide (t28>(0:Int))))
    (some false)).bind fun z78=>
    some z78
   | .done q533=>some q533))
theorem ED {φ:AE} {h:AF} {F:List Chk} {small_0:Int×Int×(Option Addr×Nat×Nat)×(Option Addr×Nat×Nat)×(Option Addr×Nat×Nat)×(Option Addr×Nat×Nat)×(Option Addr×Nat×Nat)×Unit} {ae:List Int} {af:List (List Int)} {ag:List Int} {ah:List Int} {ai:List Int} (gk:FC φ) (aj:Ro.SliceIs (Ro.int .u8) φ small_0.2.2.1 ae) (ak:Ro.SliceIs (Ro.list (Ro.int .u8)) φ small_0.2.2.2.1 af) (al:Ro.SliceIs (Ro.int .u8) φ small_0.2.2.2.2.1 ag) (am:Ro.SliceIs (Ro.int .u8) φ small_0.2.2.2.2.2.1 ah) (an:Ro.SliceIs (Ro.int .u8) φ small_0.2.2.2.2.2.2.1 ai) (s0:St φ (F) h) {r:Bool} (hd:Bd (small_0.1,small_0.2.1,ae,af,ag,ah,ai)=some r):
 CallsH Tryd.prog 7 [(.agg #[(.int .u8 small_0.1),(.int .u8 small_0.2.1),(.slice small_0.2.2.1.1 small_0.2.2.1.2.1 small_0.2.2.1.2.2),(.slice small_0.2.2.2.1.1 small_0.2.2.2.1.2.1 small_0.2.2.2.1.2.2),(.slice small_0.2.2.2.2.1.1 small_0.2.2.2.2.1.2.1 small_0.2.2.2.2.1.2.2),(.slice small_0.2.2.2.2.2.1.1 small_0.2.2.2.2.2.1.2.1 small_0.2.2.2.2.2.1.2.2),(.slice small_0.2.2.2.2.2.2.1.1 small_0.2.2.2.2.2.2.1.2.1 small_0.2.2.2.2.2.2.1.2.2)])] h (BO fun v h'=> ∃ψ:AE,∃y:Bool,Sub φ ψ∧v=((.one (.atom .bool)):Sh).val y∧y=r∧St ψ (F) h'):=by
 refine Aa mixed Tryd.func7 ?_
 rw [D8]
 unfold Ch
 unfold Bd at hd
 have kb:small_0.2.2.1.2.1=List.length ae:=aj.length
 have kc:small_0.2.2.2.1.2.1=List.length af:=ak.length
 have kd:small_0.2.2.2.2.1.2.1=List.length ag:=al.length
 have ke:small_0.2.2.2.2.2.1.2.1=List.length ah:=am.length
 have kf:small_0.2.2.2.2.2.2.1.2.1=List.length ai:=an.length
 refine Ac (vs:= [.int .u8 small_0.1, .int .u8 small_0.2.1,sv small_0.2.2.1,sv small_0.2.2.2.1,sv small_0.2.2.2.2.1,sv small_0.2.2.2.2.2.1,sv small_0.2.2.2.2.2.2.1]) s0 fun r1 kg cc=> ?_
 obtain ⟨kh,cd,hd⟩:=bS hd
 refine AK (BZ gk cc cd) ?_
 rintro _ ki ⟨kj,t2,d,rfl,rfl,t⟩
 refine ⟨t2,rfl,?_⟩
 refine AA (x:=small_0.1) t rfl ?_
 refine AA (x:=small_0.2.1) t rfl ?_
 refine AA (x:=small_0.2.2.1) t rfl ?_
 refine AA (x:=small_0.2.2.2.1) t rfl ?_
 refine AA (x:=small_0.2.2.2.2.1) t rfl ?_
 refine AA (x:=small_0.2.2.2.2.2.1) t rfl ?_
 refine AA (x:=small_0.2.2.2.2.2.2.1) t rfl ?_
 obtain ⟨kk,ce,hd⟩:=bS hd
 refine AK (BJ (s_0:=(small_0.1,small_0.2.1,small_0.2.2.1,small_0.2.2.2.1,small_0.2.2.2.2.1,small_0.2.2.2.2.2.1,small_0.2.2.2.2.2.2.1,())) (aj.mono d) (ak.mono d) (al.mono d) (am.mono d) (an.mono d) t ce) ?_
 rintro _ kl ⟨cf,t10,k,rfl,rfl,p⟩
 refine ⟨t10,rfl,?_⟩
 refine AH hd rfl (fun _ hd=> ?_) (fun _ hd=> ?_)
 ·obtain rfl:=iS hd
  have cg:=p.tail
  exact AC ⟨cf,t2,(d.trans k),rfl,rfl,cg⟩
 refine AA (x:=small_0.1) p rfl ?_
 refine AA (x:=small_0.2.1) p rfl ?_
 refine AA (x:=small_0.2.2.1) p rfl ?_
 refine AA (x:=small_0.2.2.2.1) p rfl ?_
 refine AA (x:=small_0.2.2.2.2.1) p rfl ?_
 refine AA (x:=small_0.2.2.2.2.2.1) p rfl ?_
 refine AA (x:=small_0.2.2.2.2.2.2.1) p rfl ?_
 obtain ⟨km,ch,hd⟩:=bS hd
 refine AK (A0 (s_0:=(small_0.1,small_0.2.1,small_0.2.2.1,small_0.2.2.2.1,small_0.2.2.2.2.1,small_0.2.2.2.2.2.1,small_0.2.2.2.2.2.2.1,())) (aj.mono (d.trans k)) (ak.mono (d.trans k)) (al.mono (d.trans k)) (am.mono (d.trans k)) (an.mono (d.trans k)) p ch) ?_
 rintro _ kn ⟨ko,t18,kp,kq,kr,ks,kt,ku,a0,rfl,rfl,ay,az,b0,b1,b2,b3,ci⟩
 refine ⟨t18,rfl,?_⟩
 try dsimp only at hd
 have kv:=ay.length
 have kw:=az.length
 have kx:=b0.length
 have ky:=b1.length
 have kz:=b2.length
 have l0:=b3.length
 refine Ac (vs:= [.slice none 0 0, .slice none 0 0, .slice none 0 0, .slice none 0 0, .slice none 0 0, .slice none 0 0]) ci fun r19 l1 cj=> ?_
 refine AJ cj rfl rfl fun l2 ck=> ?_
 refine AJ ck rfl rfl fun l3 cl=> ?_
 refine AJ cl rfl rfl fun l4 cm=> ?_
 refine AJ cm rfl rfl fun l5 cn=> ?_
 refine AJ cn rfl rfl fun l6 co=> ?_
 refine AJ co rfl rfl fun l7 a1=> ?_
 refine AA (x:=t18.1) a1 rfl ?_
 refine AA (x:=t18.2.1) a1 rfl ?_
 refine AA (x:=t18.2.2.1) a1 rfl ?_
 refine AA (x:=t18.2.2.2.1) a1 rfl ?_
 refine AA (x:=t18.2.2.2.2.1) a1 rfl ?_
 refine AA (x:=t18.2.2.2.2.2.1) a1 rfl ?_
 obtain ⟨l8,cp,hd⟩:=bS hd
 refine AK (CO (p_0:=(t18.1,t18.2.1,t18.2.2.1,t18.2.2.2.1,t18.2.2.2.2.1,t18.2.2.2.2.2.1,())) (gk.mono ((d.trans k).trans a0)) ay az b0 b1 b2 b3 a1 cp) ?_
 rintro _ l9 ⟨ao,t26,la,a3,rfl,rfl,b4,ap⟩
 refine ⟨t26,rfl,?_⟩
 try dsimp only at hd
 have cq:=b4.nil
 refine AH hd (by rw [cq] <;>rfl) (fun _ hd=> ?_) (fun _ hd=> ?_)
 ·obtain ⟨cr,a4,hd⟩:=bS hd
  refine Ak (fun (y:Bool×Unit) w_ g=> ∃ψ:AE,Sub ao ψ∧y.1=g∧St ψ (cW 32 r19 [sv t18.1,sv t18.2.1,sv t18.2.2.1,sv t18.2.2.2.1,sv t18.2.2.2.2.1,sv t18.2.2.2.2.2.1] ::cW 25 r1 [.int .u8 small_0.1, .int .u8 small_0.2.1,sv small_0.2.2.1,sv small_0.2.2.2.1,sv small_0.2.2.2.2.1,sv small_0.2.2.2.2.2.1,sv small_0.2.2.2.2.2.2.1] ::F) w_) (g:=cr) ?_ ?_
  ·refine AH a4 rfl (fun _ a4=> ?_) (fun _ a4=> ?_)
   ·have cs:=ap.at1
    have ct:=cs.at1
    obtain rfl:=iS a4
    exact AN ((t26.2.1==(5:Int)),()) rfl ⟨ao,(Sub.refl _),rfl,ct⟩
   have cu:=ap.at1
   have cv:=cu.at1
   obtain rfl:=iS a4
   exact AN (false,()) rfl ⟨ao,(Sub.refl _),rfl,cv⟩
  rintro z27 lb ⟨cw,cx,rfl,cy⟩
  try dsimp only at hd
  obtain rfl:=iS hd
  have cz:=cy.tail
  have d0:=cz.tail
  exact AC ⟨cw,z27.1,((((d.trans k).trans a0).trans a3).trans cx),rfl,rfl,d0⟩
 obtain ⟨lc,d1,hd⟩:=bS hd
 have u:=(b4).get d1
 obtain ⟨ld,d2,hd⟩:=bS hd
 refine AK (Av u ap d2) ?_
 rintro _ le ⟨aq,t28,l,rfl,rfl,d3⟩
 refine ⟨t28,rfl,?_⟩
 obtain ⟨d4,d5,hd⟩:=bS hd
 refine NO (r:=(Ro.int .i64)) (x:=(0:Int)) MW d3 rfl rfl d5 ?_
 intro t29 lf b5
 have lg:=b5.rowLen
 have d6:=b5.at2
 have d7:=d6.at2
 have d8:=d7.at2
 obtain ⟨d9,da,hd⟩:=bS hd
 refine Ad (fun (y:Int×Bool×Unit) w_ g=> ∃ψ:AE,∃b6:List Int,Sub aq ψ∧AR.next b6=g∧St ψ (cR 3 (Ro.int .i64) t29 b6::cW 32 r19 [sv t18.1,sv t18.2.1,sv t18.2.2.1,sv t18.2.2.2.1,sv t18.2.2.2.2.1,sv t18.2.2.2.2.2.1] ::cW 25 r1 [.int .u8 small_0.1, .int .u8 small_0.2.1,sv small_0.2.2.1,sv small_0.2.2.2.1,sv small_0.2.2.2.2.1,sv small_0.2.2.2.2.2.1,sv small_0.2.2.2.2.2.2.1] ::F) w_) (g:=d9) ?_ ?_
 ·refine BQ da (fun db (y:Int×Bool×Unit) w_ g=> ∃ψ:AE,∃b7:List Int,Sub aq ψ∧y.1=db∧b7=g∧St ψ (cR 3 (Ro.int .i64) t29 b7::cW 32 r19 [sv t18.1,sv t18.2.1,sv t18.2.2.1,sv t18.2.2.2.1,sv t18.2.2.2.2.1,sv t18.2.2.2.2.2.1] ::cW 25 r1 [.int .u8 small_0.1, .int .u8 small_0.2.1,sv small_0.2.2.1,sv small_0.2.2.2.1,sv small_0.2.2.2.2.1,sv small_0.2.2.2.2.2.1,sv small_0.2.2.2.2.2.2.1] ::F) w_) ((0:Int),false,()) rfl ⟨aq,d4,(Sub.refl _),rfl,rfl,d8⟩ ?_ ?_
  ·rintro _ z31 lh _ _ ⟨li,a8,m,rfl,rfl,b8⟩ b dc b9 ba a9
   try dsimp only at b dc b9 ba
   have lj:=b8.rowLen
   refine Az (by exact decide_eq_true b9) ?_
   obtain ⟨lk,dd,b⟩:=bS b
   refine AK (B4 (u.mono (l.trans m)) b8 dd) ?_
   rintro _ ll ⟨ar,t32,lm,n,rfl,rfl,bb,de⟩
   refine ⟨t32,rfl,?_⟩
   have df:=bb.length
   have dg:=de.at2
   have dh:=dg.at2
   have di:=dh.at2
   obtain ⟨dj,dk,b⟩:=bS b
   refine Ad (fun (y:Int×Bool×Unit) w_ g=> ∃ψ:AE,Sub ar ψ∧AR.next ()=g∧St ψ (cR 3 (Ro.int .i64) t29 a8::cW 32 r19 [sv t18.1,sv t18.2.1,sv t18.2.2.1,sv t18.2.2.2.1,sv t18.2.2.2.2.1,sv t18.2.2.2.2.2.1] ::cW 25 r1 [.int .u8 small_0.1, .int .u8 small_0.2.1,sv small_0.2.2.1,sv small_0.2.2.2.1,sv small_0.2.2.2.2.1,sv small_0.2.2.2.2.2.1,sv small_0.2.2.2.2.2.2.1] ::F) w_) (g:=dj) ?_ ?_
   ·refine BQ dk (fun dl (y:Int×Bool×Unit) w_ g=> ∃ψ:AE,Sub ar ψ∧y.1=dl∧()=g∧St ψ (cR 3 (Ro.int .i64) t29 a8::cW 32 r19 [sv t18.1,sv t18.2.1,sv t18.2.2.1,sv t18.2.2.2.1,sv t18.2.2.2.2.1,sv t18.2.2.2.2.2.1] ::cW 25 r1 [.int .u8 small_0.1, .int .u8 small_0.2.1,sv small_0.2.2.1,sv small_0.2.2.2.1,sv small_0.2.2.2.2.1,sv small_0.2.2.2.2.2.1,sv small_0.2.2.2.2.2.2.1] ::F) w_) ((0:Int),z31.2.1,()) rfl ⟨ar,(Sub.refl _),rfl,rfl,di⟩ ?_ ?_
    ·rintro _ z34 ln _ _ ⟨lo,aa,rfl,rfl,dm⟩ o dn bc bd dp
     try dsimp only at o dn bc bd
     refine Az (by exact decide_eq_true bc) ?_
     obtain ⟨lp,dq,o⟩:=bS o
     refine AK (B4 (u.mono (((l.trans m).trans n).trans aa)) dm dq) ?_
     rintro _ lq ⟨lr,t35,ls,au,rfl,rfl,be,dr⟩
     refine ⟨t35,rfl,?_⟩
     have lt:=be.length
     obtain ⟨lu,ds,o⟩:=bS o
     refine AK (DQ be (bb.mono (aa.trans au)) dr ds) ?_
     rintro _ lv ⟨bf,t36,bg,rfl,rfl,bh⟩
     refine ⟨t36,rfl,?_⟩
     refine AH o rfl (fun _ o=> ?_) (fun _ o=> ?_)
     ·obtain rfl:=iS o
      obtain rfl:=dp _ rfl
      try dsimp only at b
      obtain rfl:=iS b
      obtain rfl:=a9 _ rfl
      try dsimp only at hd
      obtain rfl:=iS hd
      have dt:=bh.tail
      have du:=dt.tail
      have dv:=du.tail
      exact AU (AY (AU (AY (AC ⟨bf,false,(((((((((d.trans k).trans a0).trans a3).trans l).trans m).trans n).trans aa).trans au).trans bg),rfl,rfl,dv⟩))))
     have dw:=bh.at2
     have dx:=dw.at2
     have dy:=dx.at2
     obtain rfl:=iS o
     exact Ar ((IntKind.wrap .i64 (z34.1+(1:Int))),z34.2.1,()) _ rfl rfl ⟨bf,((aa.trans au).trans bg),bd,rfl,dy⟩
    ·rintro _ z34 lw _ ⟨dz,e0,rfl,rfl,e1⟩ e2 e3
     subst e3
     refine Al (by exact decide_eq_false (Int.not_lt.2 e2)) ?_
     have e4:=e1.at2
     have e5:=e4.at2
     have e6:=e5.at2
     exact AO (AS (z34.1,z34.2.1,()) rfl ⟨dz,e0,rfl,e6⟩)
   rintro z33 lx ⟨bi,q,rfl,bj⟩
   try dsimp only at b
   obtain ⟨e7,s,b⟩:=bS b
   refine Ak (fun (y:Bool×Unit) w_ g=> ∃ψ:AE,Sub bi ψ∧y.1=g∧St ψ (cR 3 (Ro.int .i64) t29 a8::cW 32 r19 [sv t18.1,sv t18.2.1,sv t18.2.2.1,sv t18.2.2.2.1,sv t18.2.2.2.2.1,sv t18.2.2.2.2.2.1] ::cW 25 r1 [.int .u8 small_0.1, .int .u8 small_0.2.1,sv small_0.2.2.1,sv small_0.2.2.2.1,sv small_0.2.2.2.2.1,sv small_0.2.2.2.2.2.1,sv small_0.2.2.2.2.2.2.1] ::F) w_) (g:=e7) ?_ ?_
   ·refine AH s (by rw [df] <;>rfl) (fun _ s=> ?_) (fun _ s=> ?_)
    ·have e8:=bj.at2
     have e9:=e8.at2
     have ea:=e9.at2
     obtain rfl:=iS s
     exact AN (true,()) rfl ⟨bi,(Sub.refl _),rfl,ea⟩
    obtain ⟨ly,eb,s⟩:=bS s
    refine AK (MS (u.mono (((l.trans m).trans n).trans q)) bj eb) ?_
    rintro _ lz ⟨m0,t38,m1,bk,rfl,rfl,bl,ec⟩
    refine ⟨t38,rfl,?_⟩
    have m2:=bl.length
    obtain ⟨m3,ed,s⟩:=bS s
    refine AK (BN (u.mono ((((l.trans m).trans n).trans q).trans bk)) bl ec ed) ?_
    rintro _ m4 ⟨ee,t39,ef,rfl,rfl,eg⟩
    refine ⟨t39,rfl,?_⟩
    have eh:=eg.at2
    have ei:=eh.at2
    have ej:=ei.at2
    obtain rfl:=iS s
    exact AN ((t39 !=z31.1),()) rfl ⟨ee,(bk.trans ef),rfl,ej⟩
   rintro z37 m5 ⟨ek,a2,rfl,bm⟩
   try dsimp only at b
   refine AH b rfl (fun _ b=> ?_) (fun _ b=> ?_)
   ·obtain rfl:=iS b
    obtain rfl:=a9 _ rfl
    try dsimp only at hd
    obtain rfl:=iS hd
    have el:=bm.tail
    have em:=el.tail
    have en:=em.tail
    exact AU (AY (AC ⟨ek,false,((((((((d.trans k).trans a0).trans a3).trans l).trans m).trans n).trans q).trans a2),rfl,rfl,en⟩))
   obtain ⟨m6,eo,b⟩:=bS b
   refine AK (Fo (u.mono ((((l.trans m).trans n).trans q).trans a2)) bm eo) ?_
   rintro _ m7 ⟨av,t40,m8,a5,rfl,rfl,i,ep⟩
   refine ⟨t40,rfl,?_⟩
   have bn:=i.length
   have er:=ep.at2
   have es:=er.at2
   have eu:=es.at2
   obtain ⟨ev,ew,b⟩:=bS b
   refine Ad (fun (y:Int×Bool×Unit) w_ g=> ∃ψ:AE,∃bo:List Int,Sub av ψ∧AR.next bo=g∧St ψ (cR 3 (Ro.int .i64) t29 bo::cW 32 r19 [sv t18.1,sv t18.2.1,sv t18.2.2.1,sv t18.2.2.2.1,sv t18.2.2.2.2.1,sv t18.2.2.2.2.2.1] ::cW 25 r1 [.int .u8 small_0.1, .int .u8 small_0.2.1,sv small_0.2.2.1,sv small_0.2.2.2.1,sv small_0.2.2.2.2.1,sv small_0.2.2.2.2.2.1,sv small_0.2.2.2.2.2.2.1] ::F) w_) (g:=ev) ?_ ?_
   ·refine BQ ew (fun ex (y:Int×Bool×Unit) w_ g=> ∃ψ:AE,∃bp:List Int,Sub av ψ∧y.1=ex∧bp=g∧St ψ (cR 3 (Ro.int .i64) t29 bp::cW 32 r19 [sv t18.1,sv t18.2.1,sv t18.2.2.1,sv t18.2.2.2.1,sv t18.2.2.2.2.1,sv t18.2.2.2.2.2.1] ::cW 25 r1 [.int .u8 small_0.1, .int .u8 small_0.2.1,sv small_0.2.2.1,sv small_0.2.2.2.1,sv small_0.2.2.2.2.1,sv small_0.2.2.2.2.2.1,sv small_0.2.2.2.2.2.2.1] ::F) w_) ((0:Int),z33.2.1,()) rfl ⟨av,a8,(Sub.refl _),rfl,rfl,eu⟩ ?_ ?_
    ·rintro _ z42 m9 _ _ ⟨ab,bq,e,rfl,rfl,j⟩ c ey br bs bt
     try dsimp only at c ey br bs
     have ma:=j.rowLen
     refine Az (by rw [bn]; exact decide_eq_true br) ?_
     obtain ⟨ez,a,c⟩:=bS c
     refine Ak (fun (y:Bool×Unit) w_ g=> ∃ψ:AE,Sub ab ψ∧y.1=g∧St ψ (cR 3 (Ro.int .i64) t29 bq::cW 32 r19 [sv t18.1,sv t18.2.1,sv t18.2.2.1,sv t18.2.2.2.1,sv t18.2.2.2.2.1,sv t18.2.2.2.2.2.1] ::cW 25 r1 [.int .u8 small_0.1, .int .u8 small_0.2.1,sv small_0.2.2.1,sv small_0.2.2.2.1,sv small_0.2.2.2.2.1,sv small_0.2.2.2.2.2.1,sv small_0.2.2.2.2.2.2.1] ::F) w_) (g:=ez) ?_ ?_
     ·obtain ⟨f0,f1,a⟩:=bS a
      obtain ⟨mb,mc,f2,f3,f4,f5⟩:=(i.mono e).get f1
      refine AG _ f2 (AZ f3 ?_)
      obtain ⟨_,_,rfl,f6,f7⟩:=f4
      obtain rfl:=f6
      obtain rfl:=f7
      refine AL (x:=f0.2) (by rw [AV]; exact (AB (Sub.trans (Sub.refl _) j.sub) (f5 1 _ rfl))) rfl ?_
      refine AH a rfl (fun _ a=> ?_) (fun _ a=> ?_)
      ·have f8:=j.at2
       have f9:=f8.at2
       have fa:=f9.at2
       obtain rfl:=iS a
       exact AN (true,()) rfl ⟨ab,(Sub.refl _),rfl,fa⟩
      obtain ⟨fb,fc,a⟩:=bS a
      obtain ⟨md,me,fd,fe,ff,fg⟩:=(i.mono e).get fc
      refine AG _ fd (AZ fe ?_)
      obtain ⟨_,_,rfl,fh,fi⟩:=ff
      obtain rfl:=fh
      obtain rfl:=fi
      refine AL (x:=fb.2) (by rw [AV]; exact (AB (Sub.trans (Sub.refl _) j.sub) (fg 1 _ rfl))) rfl ?_
      refine AH a rfl (fun _ a=> ?_) (fun _ a=> ?_)
      ·have fj:=j.at2
       have fk:=fj.at2
       have fl:=fk.at2
       obtain rfl:=iS a
       exact AN (true,()) rfl ⟨ab,(Sub.refl _),rfl,fl⟩
      refine AH a rfl (fun _ a=> ?_) (fun _ a=> ?_)
      ·obtain ⟨fm,fn,a⟩:=bS a
       obtain ⟨mf,mg,fo,fp,fq,fr⟩:=(i.mono e).get fn
       refine AG _ fo (AZ fp ?_)
       obtain ⟨_,_,rfl,fs,ft⟩:=fq
       obtain rfl:=fs
       obtain rfl:=ft
       refine AL (x:=fm.1) (AB (Sub.trans (Sub.refl _) j.sub) (fr 0 _ rfl)) rfl ?_
       obtain ⟨fu,fv,a⟩:=bS a
       obtain ⟨mh,mi,fw,fx,fy,fz⟩:=(i.mono e).get fv
       refine AG _ fw (AZ fx ?_)
       obtain ⟨_,_,rfl,g0,g1⟩:=fy
       obtain rfl:=g0
       obtain rfl:=g1
       refine AL (x:=fu.1) (AB (Sub.trans (Sub.refl _) j.sub) (fz 0 _ rfl)) rfl ?_
       refine AH a rfl (fun _ a=> ?_) (fun _ a=> ?_)
       ·have g2:=j.at2
        have g3:=g2.at2
        have g4:=g3.at2
        obtain rfl:=iS a
        exact AN (true,()) rfl ⟨ab,(Sub.refl _),rfl,g4⟩
       obtain ⟨g5,g6,a⟩:=bS a
       obtain ⟨mj,mk,g7,g8,g9,ga⟩:=(i.mono e).get g6
       refine AG _ g7 (AZ g8 ?_)
       obtain ⟨_,_,rfl,gb,gc⟩:=g9
       obtain rfl:=gb
       obtain rfl:=gc
       refine AL (x:=g5.1) (AB (Sub.trans (Sub.refl _) j.sub) (ga 0 _ rfl)) rfl ?_
       obtain ⟨bu,gd,a⟩:=bS a
       obtain ⟨ml,mm,ge,gf,gg,bv⟩:=(i.mono e).get gd
       refine AG _ ge (AZ gf ?_)
       obtain ⟨_,_,rfl,gh,gi⟩:=gg
       obtain rfl:=gh
       obtain rfl:=gi
       refine AL (x:=bu.2) (by rw [AV]; exact (AB (Sub.trans (Sub.refl _) j.sub) (bv 1 _ rfl))) rfl ?_
       obtain ⟨mn,gj,a⟩:=bS a
       refine AK (B8 (u.mono ((((((l.trans m).trans n).trans q).trans a2).trans a5).trans e)) j gj) ?_
       rintro _ mo ⟨gl,t56,bw,rfl,rfl,bx⟩
       refine ⟨t56,rfl,?_⟩
       refine Ab (by rw [AV]; exact (AB (Sub.trans bw bx.sub) (bv 1 _ rfl))) ?_
       have gm:=bx.at2
       have gn:=gm.at2
       have go:=gn.at2
       obtain rfl:=iS a
       exact AN ((t56 !=bu.2),()) rfl ⟨gl,bw,rfl,go⟩
      obtain ⟨gp,gq,a⟩:=bS a
      obtain ⟨mp,mq,gr,gs,gt,gu⟩:=(i.mono e).get gq
      refine AG _ gr (AZ gs ?_)
      obtain ⟨_,_,rfl,gv,gw⟩:=gt
      obtain rfl:=gv
      obtain rfl:=gw
      refine AL (x:=gp.1) (AB (Sub.trans (Sub.refl _) j.sub) (gu 0 _ rfl)) rfl ?_
      obtain ⟨bz,gx,a⟩:=bS a
      obtain ⟨mr,ms,gy,gz,h0,c0⟩:=(i.mono e).get gx
      refine AG _ gy (AZ gz ?_)
      obtain ⟨_,_,rfl,h1,h2⟩:=h0
      obtain rfl:=h1
      obtain rfl:=h2
      refine AL (x:=bz.2) (by rw [AV]; exact (AB (Sub.trans (Sub.refl _) j.sub) (c0 1 _ rfl))) rfl ?_
      obtain ⟨mu,h3,a⟩:=bS a
      refine AK (B8 (u.mono ((((((l.trans m).trans n).trans q).trans a2).trans a5).trans e)) j h3) ?_
      rintro _ mv ⟨h4,t61,c1,rfl,rfl,c2⟩
      refine ⟨t61,rfl,?_⟩
      refine Ab (by rw [AV]; exact (AB (Sub.trans c1 c2.sub) (c0 1 _ rfl))) ?_
      have h5:=c2.at2
      have h6:=h5.at2
      have h7:=h6.at2
      obtain rfl:=iS a
      exact AN ((t61 !=bz.2),()) rfl ⟨h4,c1,rfl,h7⟩
     rintro z43 mw ⟨ac,w,rfl,z⟩
     try dsimp only at c
     refine AH c rfl (fun _ c=> ?_) (fun _ c=> ?_)
     ·obtain rfl:=iS c
      obtain rfl:=bt _ rfl
      try dsimp only at b
      obtain rfl:=iS b
      obtain rfl:=a9 _ rfl
      try dsimp only at hd
      obtain rfl:=iS hd
      have h8:=z.tail
      have h9:=h8.tail
      have hb:=h9.tail
      exact AU (AY (AU (AY (AC ⟨ac,false,(((((((((((d.trans k).trans a0).trans a3).trans l).trans m).trans n).trans q).trans a2).trans a5).trans e).trans w),rfl,rfl,hb⟩))))
     obtain ⟨hc,f,c⟩:=bS c
     refine Ak (fun (y:Bool×Unit) w_ g=> ∃ψ:AE,Sub ac ψ∧y.1=g∧St ψ (cR 3 (Ro.int .i64) t29 bq::cW 32 r19 [sv t18.1,sv t18.2.1,sv t18.2.2.1,sv t18.2.2.2.1,sv t18.2.2.2.2.1,sv t18.2.2.2.2.2.1] ::cW 25 r1 [.int .u8 small_0.1, .int .u8 small_0.2.1,sv small_0.2.2.1,sv small_0.2.2.2.1,sv small_0.2.2.2.2.1,sv small_0.2.2.2.2.2.1,sv small_0.2.2.2.2.2.2.1] ::F) w_) (g:=hc) ?_ ?_
     ·obtain ⟨he,hf,f⟩:=bS f
      obtain ⟨mx,my,hg,hh,hi,hj⟩:=(i.mono (e.trans w)).get hf
      refine AG _ hg (AZ hh ?_)
      obtain ⟨_,_,rfl,hk,hl⟩:=hi
      obtain rfl:=hk
      obtain rfl:=hl
      refine AL (x:=he.2) (by rw [AV]; exact (AB (Sub.trans (Sub.refl _) z.sub) (hj 1 _ rfl))) rfl ?_
      obtain ⟨hm,hn,f⟩:=bS f
      obtain ⟨mz,n0,ho,hp,hq,hr⟩:=(z).get hn
      refine AG _ ho (AZ hp ?_)
      obtain rfl:=hq
      refine AL (x:=hm) (hr 0 _ rfl) rfl ?_
      refine AH f rfl (fun _ f=> ?_) (fun _ f=> ?_)
      ·obtain ⟨hs,ht,f⟩:=bS f
       obtain ⟨n1,n2,hu,hv,hw,hx⟩:=(i.mono (e.trans w)).get ht
       refine AG _ hu (AZ hv ?_)
       obtain ⟨_,_,rfl,hy,hz⟩:=hw
       obtain rfl:=hy
       obtain rfl:=hz
       refine AL (x:=hs.2) (by rw [AV]; exact (AB (Sub.trans (Sub.refl _) z.sub) (hx 1 _ rfl))) rfl ?_
       obtain ⟨c3,i0,f⟩:=bS f
       obtain ⟨n3,n4,i1,i2,i3,i4⟩:=(z).get i0
       refine AG _ i1 (AZ i2 ?_)
       obtain rfl:=i3
       refine AL (x:=c3) (i4 0 _ rfl) rfl ?_
       obtain ⟨c4,i5,f⟩:=bS f
       obtain ⟨n5,n6,i6,i7,i8,i9⟩:=(i.mono (e.trans w)).get i5
       refine AG _ i6 (AZ i7 ?_)
       obtain ⟨_,_,rfl,ia,ib⟩:=i8
       obtain rfl:=ia
       obtain rfl:=ib
       refine AL (x:=c4.1) (AB (Sub.trans (Sub.refl _) z.sub) (i9 0 _ rfl)) rfl ?_
       have ic:=z.at2
       have ie:=ic.at2
       have ig:=ie.at2
       obtain rfl:=iS f
       exact AN ((c3 !=c4.1),()) rfl ⟨ac,(Sub.refl _),rfl,ig⟩
      have ih:=z.at2
      have ii:=ih.at2
      have ij:=ii.at2
      obtain rfl:=iS f
      exact AN (false,()) rfl ⟨ac,(Sub.refl _),rfl,ij⟩
     rintro z62 n7 ⟨c5,ad,rfl,a6⟩
     try dsimp only at c
     refine AH c rfl (fun _ c=> ?_) (fun _ c=> ?_)
     ·obtain rfl:=iS c
      obtain rfl:=bt _ rfl
      try dsimp only at b
      obtain rfl:=iS b
      obtain rfl:=a9 _ rfl
      try dsimp only at hd
      obtain rfl:=iS hd
      have ik:=a6.tail
      have il:=ik.tail
      have im:=il.tail
      exact AU (AY (AU (AY (AC ⟨c5,false,((((((((((((d.trans k).trans a0).trans a3).trans l).trans m).trans n).trans q).trans a2).trans a5).trans e).trans w).trans ad),rfl,rfl,im⟩))))
     obtain ⟨io,ip,c⟩:=bS c
     obtain ⟨n8,n9,iq,ir,it,iu⟩:=(i.mono ((e.trans w).trans ad)).get ip
     refine AG _ iq (AZ ir ?_)
     obtain ⟨_,_,rfl,iv,iw⟩:=it
     obtain rfl:=iv
     obtain rfl:=iw
     refine AL (x:=io.2) (by rw [AV]; exact (AB (Sub.trans (Sub.refl _) a6.sub) (iu 1 _ rfl))) rfl ?_
     obtain ⟨ix,iy,c⟩:=bS c
     obtain ⟨na,nb,iz,j0,j1,j2⟩:=(i.mono ((e.trans w).trans ad)).get iy
     refine AG _ iz (AZ j0 ?_)
     obtain ⟨_,_,rfl,j3,j4⟩:=j1
     obtain rfl:=j3
     obtain rfl:=j4
     refine AL (x:=ix.1) (AB (Sub.trans (Sub.refl _) a6.sub) (j2 0 _ rfl)) rfl ?_
     obtain ⟨j5,c6,c⟩:=bS c
     obtain ⟨nc,c7,j6⟩:=a6.there c6
     refine AG _ c7 (AZ j6 (Ly a6 c6 rfl c7 ?_))
     intro nd c8
     have nf:=c8.rowLen
     have j7:=c8.at2
     have j8:=j7.at2
     have j9:=j8.at2
     obtain rfl:=iS c
     exact Ar ((IntKind.wrap .i64 (z42.1+(1:Int))),z42.2.1,()) _ rfl rfl ⟨c5,j5,((e.trans w).trans ad),bs,rfl,j9⟩
    ·rintro _ z42 ng _ ⟨ja,jb,jc,rfl,rfl,c9⟩ jd je
     subst je
     have nh:=c9.rowLen
     refine Al (by rw [bn]; exact decide_eq_false (Int.not_lt.2 jd)) ?_
     have jf:=c9.at2
     have jg:=jf.at2
     have jh:=jg.at2
     exact AO (AS (z42.1,z42.2.1,()) rfl ⟨ja,jb,jc,rfl,jh⟩)
   rintro z41 ni ⟨ji,jj,jk,rfl,ca⟩
   try dsimp only at b
   have nj:=ca.rowLen
   have jl:=ca.at2
   have jm:=jl.at2
   have jn:=jm.at2
   obtain rfl:=iS b
   exact Ar ((IntKind.wrap .i64 (z31.1+(1:Int))),z41.2.1,()) _ rfl rfl ⟨ji,jj,(((((m.trans n).trans q).trans a2).trans a5).trans jk),ba,rfl,jn⟩
  ·rintro _ z31 nk _ ⟨jo,jp,jq,rfl,rfl,cb⟩ jr js
   subst js
   have nl:=cb.rowLen
   refine Al (by exact decide_eq_false (Int.not_lt.2 jr)) ?_
   have jt:=cb.at2
   have ju:=jt.at2
   have jv:=ju.at2
   exact AO (AS (z31.1,z31.2.1,()) rfl ⟨jo,jp,jq,rfl,jv⟩)
 rintro z30 nm ⟨aw,jw,jx,rfl,ax⟩
 try dsimp only at hd
 have nn:=ax.rowLen
 obtain ⟨jy,a7,hd⟩:=bS hd
 refine Ak (fun (y:Bool×Unit) w_ g=> ∃ψ:AE,Sub aw ψ∧y.1=g∧St ψ (cR 3 (Ro.int .i64) t29 jw::cW 32 r19 [sv t18.1,sv t18.2.1,sv t18.2.2.1,sv t18.2.2.2.1,sv t18.2.2.2.2.1,sv t18.2.2.2.2.2.1] ::cW 25 r1 [.int .u8 small_0.1, .int .u8 small_0.2.1,sv small_0.2.2.1,sv small_0.2.2.2.1,sv small_0.2.2.2.2.1,sv small_0.2.2.2.2.2.1,sv small_0.2.2.2.2.2.2.1] ::F) w_) (g:=jy) ?_ ?_
 ·refine AH a7 rfl (fun _ a7=> ?_) (fun _ a7=> ?_)
  ·have jz:=ax.at2
   have k0:=jz.at2
   have k1:=k0.at2
   obtain rfl:=iS a7
   exact AN ((decide (t28>(0:Int))),()) rfl ⟨aw,(Sub.refl _),rfl,k1⟩
  have k2:=ax.at2
  have k3:=k2.at2
  have k4:=k3.at2
  obtain rfl:=iS a7
  exact AN (false,()) rfl ⟨aw,(Sub.refl _),rfl,k4⟩
 rintro z78 np ⟨k5,k6,rfl,k7⟩
 try dsimp only at hd
 obtain rfl:=iS hd
 have k8:=k7.tail
 have k9:=k8.tail
 have ka:=k9.tail
 exact AC ⟨k5,z78.1,((((((d.trans k).trans a0).trans a3).trans l).trans jx).trans k6),rfl,rfl,ka⟩
theorem GJ:A4=some true:=by kernel_rfl
theorem IZ (p:Au) {L:Int} (h:L<1073741824):MO p L:=fun n m hl=>by omega
theorem HP {nt nl:Nat} {p:Au} (H:Pl nt nl p):Ok (CN p 2000 40000) fun r=>r=(none,5)∨ ∃n,(stM p n).1.length≤n∧Fit 2000 40000 (stM p n).1∧r=(some (FG p (stM p n).1 (stM p n).2 ((tot (stM p n).1:Nat):Int)),0):=by
 refine (Jw H.vp H.pos (st:=2000) (it:=40000) (IZ p (by decide))).mono fun r hr=> ?_
 rcases hr with ⟨n,h1,h2,h3⟩ | ⟨h1,_⟩
 ·exact .inr ⟨n,h1,h2,h3⟩
 ·exact .inl h1
theorem Fin.pos {p:Au} {B:List dtK} {E:List (List Edge)} (H:Fin p B E):1≤B.length:=Ct H.zero
theorem Fin.tot {p:Au} {B:List dtK} {E:List (List Edge)} (V:VPp p) (H:Fin p B E):1≤tot B:=by
 have hz:=H.zero
 obtain ⟨_,_,c,_⟩:=H.good V hz
 have hm:((0:Int),(0:Int)) ∈ clo p k0:=(c.mem _).2 (.base (List.mem_singleton.2 rfl))
 have:=List.length_pos_of_mem hm
 cases B with
 | nil=>cases hz
 | cons b B=>
  simp at hz
  subst hz
  unfold Go.Proofs.YtnkmpgldbddnkaaDoor.tot
  simp only [List.map_cons,List.sum_cons]
  omega
theorem C8 {n:Int} (h0:0≤n) (h1:n≤1099511627776):C6 n=n:=by unfold C6; split<;>(try split) <;>omega
section
variable {s:Gv}
theorem LY (G:SmG s) {more:Int} (hm:0≤more∧more<256):Ba s more=some true:=by
 refine Ok.eq ?_
 unfold Ba
 refine AI GJ (AM (IP G 12 5) fun b hb=>Ah (fun _=>AD rfl) fun hb'=> ?_)
 refine AM (HO G (hb (by simpa using hb'))) fun p ⟨nt,nl,hp⟩=> ?_
 have ha:=HP hp
 refine AM ha fun r hr=> ?_
 clear ha
 rcases hr with rfl | ⟨n,hn,hF,rfl⟩
 ·exact As rfl (AM (Q:=fun x=>x=true) (As rfl (AD rfl)) fun x hx=>AD hx)
 have H:=IX hp.vp hp.pos hn
 have h1:=H.pos
 have h2:=H.tot hp.vp
 have hF1:=hF.1
 have hF2:=hF.2
 refine AT rfl (AI rfl (AI (Ew H) (AI rfl ?_)))
 have run: ∀ {st it:Int},C6 st<1073741824→(Fit (C6 st) (C6 it) (stM p n).1→CN p st it=some (some (HZ p n),0))∧(¬Fit (C6 st) (C6 it) (stM p n).1→CN p st it=some (none,5)):=fun h=>LX hp.vp hp.pos hn (IZ p h)
 unfold Fit at run
 have e1:=(run (st:=((stM p n).1.length:Int)) (it:=(tot (stM p n).1:Int)) (by rw [C8 (by omega) (by omega)]; omega)).1 (by rw [C8 (by omega) (by omega),C8 (by omega) (by omega)]; omega)
 have e2:=(run (st:=((stM p n).1.length:Int) - 1) (it:=(tot (stM p n).1:Int)) (by rw [C8 (by omega) (by omega)]; omega)).2 (by rw [C8 (by omega) (by omega),C8 (by omega) (by omega)]; omega)
 have e3:=(run (st:=((stM p n).1.length:Int)) (it:=(tot (stM p n).1:Int) - 1) (by rw [C8 (by omega) (by omega)]; omega)).2 (by rw [C8 (by omega) (by omega),C8 (by omega) (by omega)]; omega)
 have e4:=(run (st:=((stM p n).1.length:Int) +more) (it:=(tot (stM p n).1:Int) +more) (by rw [C8 (by omega) (by omega)]; omega)).1 (by rw [C8 (by omega) (by omega),C8 (by omega) (by omega)]; omega)
 dsimp only
 rw [wr (show -1000000≤((stM p n).1.length:Int) - 1∧((stM p n).1.length:Int) - 1≤1000000 by omega),wr (show -1000000≤(tot (stM p n).1:Int) - 1∧(tot (stM p n).1:Int) - 1≤1000000 by omega),wr (show -1000000≤more∧more≤1000000 by omega),
  wr (show -1000000≤((stM p n).1.length:Int) +more∧((stM p n).1.length:Int) +more≤1000000 by omega),wr (show -1000000≤(tot (stM p n).1:Int) +more∧(tot (stM p n).1:Int) +more≤1000000 by omega)]
 refine AI e1 (AI e2 (AI e3 (AI e4 ?_)))
 refine AM (Q:=fun x=>x=false) (AT rfl (AD rfl)) fun x hx=> ?_
 subst hx
 refine AT rfl (AM (Q:=fun x=>x=true) ?_ fun x hx=>AD hx)
 refine As rfl (As rfl (As rfl (As rfl (As rfl (As rfl (AI rfl (AI (Ew H) (As ?_ (AI rfl (AI (Ew H) (As ?_ (AI rfl (As ?_ (AI rfl (AD ?_)))))))))))))))
 ·exact beq_self_eq_true _
 ·exact beq_self_eq_true _
 ·exact beq_self_eq_true _
 ·exact beq_self_eq_true _
theorem Kx {l:List Int} {a:Int} (hl:l.length≤8) (ha:0<a) (hb: ∀x ∈ l,0≤x∧x<256) {γ:Type} {P:γ→Prop} {k:List Int→Option γ} (hk: ∀z,z.length≤8→Ok (k z) P):
 Ok ((Fe (σ:=List Int) (0:Int) (((List.length l):Nat):Int) ([] :List Int) fun i_z34 z34=>
  (idx l i_z34).bind fun e150=>
  need (a ≠ 0) <|
  (app z34 ([(Int.tmod (IntKind.wrap .i64 e150) a)] :List Int)).bind fun t38=>
  some t38).bind k) P:=by
 refine DU (fun j (z:List Int)=>z.length=j) (by omega) rfl (fun j z hj hz=> ?_) fun z hz=>hk z (by omega)
 exact AX (List.getElem?_eq_getElem hj) (Bw (by omega) (Bg (by simp; omega) (AD (by simp [hz]))))
theorem Walk.app {p:Au} {B:List dtK} {E:List (List Edge)} {x y:List Int} : ∀ {i j k:Int},Walk p.2.2.1 B E i x j→0≤j→Walk p.2.2.1 B E j y k→Walk p.2.2.1 B E i (x++y) k:=by
 induction x with
 | nil=>intro i j k h1 _ h2; cases h1; exact h2
 | cons s x ih=>
  intro i j k h1 h0 h2
  cases h1 with
  | stop=>omega
  | step a1 a2 a3 a4 a5=>exact .step a1 a2 a3 a4 (ih a5 h0 h2)
theorem Walk.app_stop {p:Au} {B:List dtK} {E:List (List Edge)} {x:List Int} (y:List Int): ∀ {i:Int},0≤i→Walk p.2.2.1 B E i x (-1)→Walk p.2.2.1 B E i (x++y) (-1):=by
 induction x with
 | nil=>
  intro i h0 h
  generalize hq:(-1:Int)=q at h
  cases h
  omega
 | cons s x ih=>
  intro i h0 h
  cases h with
  | stop a1 a2 a3=>exact .stop a1 a2 a3
  | step a1 a2 a3 a4 a5=>exact .step a1 a2 a3 a4 (ih (by omega) a5)
theorem LZ (G:SmG s) {n:Int} {x y:List Int} (hn:0≤n∧n<256) (hx: ∀z ∈ x,0≤z∧z<256) (hy: ∀z ∈ y,0≤z∧z<256):Bb s n x y=some true:=by
 refine Ok.eq ?_
 unfold Bb
 refine AI GJ (AM (IP G 12 5) fun b hb=> ?_)
 refine AM (Q:=fun c=>c=false→b=true∧x.length≤8∧y.length≤8) (Ah (fun _=>AD (by simp)) fun h1=>Ah (fun _=>AD (by simp)) fun h2=>AD fun h3=> ?_) fun c hc=>Ah (fun _=>AD rfl) fun hc'=> ?_
 ·have h2:=of_decide_eq_false h2
  have h3:=of_decide_eq_false h3
  exact ⟨by simpa using h1,by omega,by omega⟩
 obtain ⟨hb',hxl,hyl⟩:=hc hc'
 refine AM (HO G (hb hb')) fun p ⟨nt,nl,hp⟩=> ?_
 have ha:=HP hp
 refine AM ha fun r hr=> ?_
 clear ha
 rcases hr with rfl | ⟨m,hm,hF,rfl⟩
 ·exact AM (Q:=fun x=>x=true) (As rfl (AD rfl)) fun c hc=>by
   subst hc
   exact As rfl (AM (Q:=fun x=>x=true) (As rfl (As rfl (AD rfl))) fun x hx=>AD hx)
 have H:=IX hp.vp hp.pos hm
 have V:=hp.vp
 have h1:=H.pos
 have hF1:=hF.1
 refine AM (Q:=fun x=>x=false) (AT rfl (AI rfl (AI (Ew H) (AD (beq_eq_false_iff_ne.2 (by omega)))))) fun c hc=> ?_
 subst hc
 refine AT rfl ?_
 have hT:=hp.terms.len
 have hV:=hp.vars
 have hnt:=hp.nt5
 rw [wr (show -1000000≤((p.1.length:Nat):Int) +((p.2.1.length:Nat):Int)∧((p.1.length:Nat):Int) +((p.2.1.length:Nat):Int) ≤1000000 by omega)]
 refine Kx hxl (by omega) hx fun one h1l=>Kx hyl (by omega) hy fun two h2l=> ?_
 refine AI rfl (AI (Ew H) (Bw (by omega) ?_))
 rw [wr (show -1000000≤n∧n≤1000000 by omega),tm hn.1]
 have hmod:0≤n % ((stM p m).1.length:Int)∧n % ((stM p m).1.length:Int) < ((stM p m).1.length:Int):=⟨Int.emod_nonneg _ (by omega),Int.emod_lt_of_pos _ (by omega)⟩
 generalize n % ((stM p m).1.length:Int)=q at hmod
 obtain ⟨j,rfl⟩: ∃j:Nat,q=(j:Int):=⟨q.toNat,by omega⟩
 have hj:j< (stM p m).1.length:=by omega
 refine AM (GX V H hj (by omega)) fun mid hmid=> ?_
 have hto:Ok (Ag (FG p (stM p m).1 (stM p m).2 ((tot (stM p m).1:Nat):Int)) mid two) fun to=>Walk p.2.2.1 (stM p m).1 (stM p m).2 (j:Int) (one++two) to:=by
  rcases hmid.2 with rfl | ⟨q,rfl,hq⟩
  ·exact ⟨-1,I0 H (by decide) two,hmid.1.app_stop two (by omega)⟩
  ·exact (GX V H hq (by omega)).mono fun r hr=>hmid.1.app (by omega) hr.1
 refine AM hto fun to hto=>AM (Q:=fun x=>x=true) (As rfl (Bg (by simp; omega) (Bg (by simp; omega) ?_))) fun x hx=>AD hx
 rw [List.nil_append]
 refine AM (GX V H hj (by simp; omega)) fun r hr=>As ?_ ?_
 ·rw [Walk.unique H hr.1 hto]; exact beq_self_eq_true _
 ·refine AM (GX V H hj (by simp)) fun r hr=>As ?_ (AI (I0 H (by decide) two) (AD rfl))
  rw [Walk.unique H hr.1 (.nil _)]
  exact beq_self_eq_true _
theorem JK {l:List Item} {x:Item} (h:l.length≤9223372036854775807):BK l x=some (decide (x ∈ l)):=by
 refine Ok.eq ?_
 unfold BK
 refine Ep l (fun _ y=>decide (y=x)) (fun k _=>true) h (fun j y hy=> ?_) (fun hn=>AD (decide_eq_false fun hm=> ?_).symm) fun j y hy hq _=>AD ?_
 ·rw [Di,hy,Option.bind_some]
  have e:(y.1==x.1 && (y.2==x.2 && true))=decide (y=x):=by
   obtain ⟨a,b⟩:=x; obtain ⟨c,d⟩:=y
   rw [Bool.and_true,Bool.eq_iff_iff]
   simp
  rw [e]
  cases decide (y=x) <;>rfl
 ·obtain ⟨j,hj⟩:=List.getElem?_of_mem hm
  have:=hn j x hj
  simp at this
 ·have:=of_decide_eq_true hq
  subst this
  exact (decide_eq_true (List.mem_of_getElem? hy)).symm
theorem Nv {p:Au} {B:List dtK} {E:List (List Edge)} (V:VPp p) (H:Fin p B E) {r:Bu} {k:Int} (hr:p.2.2.1[k.toNat]? =some r): ∀(rest:List Int) {j:Nat} {b:dtK} {d:Int},B[j]? =some b→(k,d) ∈ b.2.1→r.2.1.drop d.toNat=rest→
 ∃(q:Nat) (bq:dtK),Walk p.2.2.1 B E (j:Int) rest (q:Int)∧B[q]? =some bq∧(k,d+(rest.length:Int)) ∈ bq.2.1:=by
 intro rest
 induction rest with
 | nil=>intro j b d hb hm _; exact ⟨j,b, .nil _,hb,by simpa using hm⟩
 | cons s rest ih=>
  intro j b d hb hm hd
  obtain ⟨g1,g2,g3,_,_⟩:=H.good V hb
  obtain ⟨k0',d0,r',hr',hd'⟩:=g2.ok _ hm
  dsimp only at k0' d0 hr' hd'
  rw [hr] at hr'
  cases hr'
  have hlt:d.toNat<r.2.1.length:=by
   rcases Nat.lt_or_ge d.toNat r.2.1.length with g | g
   ·exact g
   ·rw [List.drop_eq_nil_of_le g] at hd; cases hd
  rw [List.drop_eq_getElem_cons hlt] at hd
  obtain ⟨hs,hrest⟩:=List.cons.inj hd
  have hbeh:beh p.2.2.1 (k,d)=s:=by
   unfold beh
   dsimp only
   rw [hr]
   dsimp only
   rw [List.getElem?_eq_getElem hlt,hs]
   rfl
  have hs0:0≤s:=by rw [← hs]; exact V.right r (List.mem_of_getElem? hr) _ (List.getElem_mem hlt)
  have hsy:s ∈ sy p.2.2.1 b.2.1:=IT.2 ⟨hs0,_,hm,hbeh⟩
  obtain ⟨e,he⟩:=H.edge hb
  obtain ⟨t,_,ht⟩:=MU (t:=0) V H hb he s
  have htt:=ht
  rcases ht with ⟨_,q,bq,h1,h2,h3,h4,_⟩ | ⟨h1,_⟩
  ·subst h1
   have hk:(k,d+1) ∈ bq.1:=by rw [h4]; exact HY.2 ⟨_,hm,hbeh,rfl⟩
   have hk2:(k,d+1) ∈ bq.2.1:=((H.good V h3).2.2.1.mem _).2 (.base hk)
   obtain ⟨q2,b2,w,hb2,hm2⟩:=ih h3 hk2 (by rw [show (d+1).toNat=d.toNat+1 by omega]; exact hrest)
   refine ⟨q2,b2, .step hb he htt (Ct h3) w,hb2,?_⟩
   rw [List.length_cons,show d+((rest.length+1:Nat):Int)=d+1+(rest.length:Int) by omega]
   exact hm2
  ·exact absurd hsy h1
theorem La (G:SmG s):Bc s=some true:=by
 refine Ok.eq ?_
 unfold Bc
 refine AI GJ (AM (IP G 12 5) fun b hb=>Ah (fun _=>AD rfl) fun hb'=> ?_)
 refine AM (HO G (hb (by simpa using hb'))) fun p ⟨nt,nl,hp⟩=> ?_
 have ha:=HP hp
 refine AM ha fun r hr=> ?_
 clear ha
 rcases hr with rfl | ⟨n,hn,hF,rfl⟩
 ·exact As rfl (AM (Q:=fun x=>x=true) (As rfl (AD rfl)) fun x hx=>AD hx)
 have H:=IX hp.vp hp.pos hn
 have V:=hp.vp
 have h1:=H.pos
 have hF1:=hF.1
 refine AT rfl ?_
 refine Eo (fun (z:Int)=>0≤z∧z≤((stM p n).1.length:Int)) (fun z=>((stM p n).1.length:Int).toNat - z.toNat) (fun e=>e=AR.next ()) ⟨Int.le_refl _,by omega⟩ (fun z hz=> ?_) fun e he=> ?_
 ·obtain ⟨z0,z1⟩:=hz
  refine AI rfl (AI (Ew H) (Ah (fun hc=> ?_) fun _=>C5 rfl))
  have hc:=of_decide_eq_true hc
  obtain ⟨j,rfl⟩: ∃j:Nat,z=(j:Int):=⟨z.toNat,by omega⟩
  have hj:j< (stM p n).1.length:=by omega
  have hbj:=List.getElem?_eq_getElem hj
  obtain ⟨g1,g2,g3,_,g5⟩:=H.good V hbj
  generalize (stM p n).1[j] =bj at *
  refine AI (IY V H hbj) ?_
  refine B5 (fun _ _=>True) (by omega) trivial (fun i _ hi _=> ?_) fun _ _=>DV ⟨by rw [wr (by omega)]; omega,by rw [wr (by omega)]; omega⟩
  have hx:=List.getElem?_eq_getElem hi
  have hxm:=List.getElem_mem hi
  obtain ⟨k0',d0,r,hr,hd⟩:=g2.ok _ hxm
  generalize bj.2.1[i] =x at *
  have hkl:=Ct hr
  have hrl:=V.short r (List.mem_of_getElem? hr)
  refine AM (Q:=fun c=>c=false) (AX hx (AT (decide_eq_false (by omega)) (AX hx (AT (decide_eq_false (by omega)) (AX hx (AT (decide_eq_false (by omega)) (AX hx (AX hx (CY k0' hr (AD (decide_eq_false (by omega)))))))))))) fun c hc=> ?_
  subst hc
  have hcut:cut r.2.1 x.2 ((r.2.1.length:Nat):Int)=some (r.2.1.drop x.2.toNat):=by
   rw [NS d0 (by omega) (Int.le_refl _),Int.toNat_natCast,List.take_of_length_le (Nat.le_refl _)]
  refine AT rfl (AX hx (CY k0' hr (AX hx (AI hcut ?_))))
  obtain ⟨q,bq,w,hbq,hm⟩:=Nv V H hr _ hbj (show (x.1,x.2) ∈ bj.2.1 from hxm) rfl
  refine AM (GX V H hj (by rw [List.length_drop]; omega)) fun t ht=> ?_
  have:=Walk.unique H ht.1 w
  subst this
  refine AM (Q:=fun c=>c=false) (AT (decide_eq_false (by omega)) (AX hx (AX hx (AI (IY V H hbq) ?_)))) fun c hc=>by
   subst hc
   exact AT rfl (CA trivial)
  refine AI (JK (by have:=(H.good V hbq).2.2.2.2; omega)) (AD ?_)
  rw [List.length_drop] at hm
  rw [Int.toNat_natCast,wr (by omega),decide_eq_true hm]
  rfl
 ·subst he
  exact AM (Q:=fun x=>x=true) (As rfl (AI rfl (AI (Ew H) (AD (decide_eq_true (by omega)))))) fun x hx=>AD hx
end
theorem MX {a b:List Item} (ha:a.length≤9223372036854775807):BW a b=some (decide (a=b)):=by
 refine Ok.eq ?_
 unfold BW
 refine Ah (fun hc=>AD ?_) fun hc=> ?_
 ·refine (decide_eq_false fun e=> ?_).symm
  subst e
  simp at hc
 ·have hl:a.length=b.length:=by
   have:((a.length:Nat):Int)=((b.length:Nat):Int):=by simpa using hc
   omega
  refine Ep a (fun j x=> !decide (b[j]? =some x)) (fun _ _=>false) ha (fun j x hx=> ?_) (fun hn=>AD (decide_eq_true ?_).symm) fun j x hx hq _=>AD (decide_eq_false fun e=> ?_).symm
  ·have hj:=Ct hx
   rw [Di,hx,Option.bind_some,Di,List.getElem?_eq_getElem (show j<b.length by omega),Option.bind_some]
   have e:(!(x.1==b[j].1 && (x.2==b[j].2 && true)))= !decide (some b[j] =some x):=by
    generalize b[j] =y
    obtain ⟨c,d⟩:=x; obtain ⟨c',d'⟩:=y
    rw [Bool.and_true]
    congr 1
    rw [Bool.eq_iff_iff]
    simp only [Bool.and_eq_true,beq_iff_eq,decide_eq_true_eq,Option.some.injEq,Prod.mk.injEq]
    constructor
    ·rintro ⟨h1,h2⟩; exact ⟨h1.symm,h2.symm⟩
    ·rintro ⟨h1,h2⟩; exact ⟨h1.symm,h2.symm⟩
   rw [e]
   cases (!decide (some b[j] =some x)) <;>rfl
  ·refine List.ext_getElem? fun j=> ?_
   rcases Nat.lt_or_ge j a.length with g | g
   ·have hx:=List.getElem?_eq_getElem g
    have:=hn j _ hx
    simp only [Bool.not_eq_false',decide_eq_true_eq] at this
    rw [hx,this]
   ·rw [List.getElem?_eq_none g,List.getElem?_eq_none (by omega)]
  ·subst e
   rw [hx] at hq
   simp at hq
theorem M9 {l:List Int} {x:Int} (h:l.length≤9223372036854775807):Bv l x=some (decide (x ∈ l)):=by
 refine Ok.eq ?_
 unfold Bv
 refine Ep l (fun _ y=>y==x) (fun k _=>true) h (fun j y hy=> ?_) (fun hn=>AD (decide_eq_false fun hm=> ?_).symm) fun j y hy hq _=>AD ?_
 ·rw [Di,hy,Option.bind_some]
  cases y==x<;>rfl
 ·obtain ⟨j,hj⟩:=List.getElem?_of_mem hm
  have:=hn j x hj
  simp at this
 ·have:=eq_of_beq hq
  subst this
  exact (decide_eq_true (List.mem_of_getElem? hy)).symm
theorem Kd {p:Au} {x:Item} (h:OkI p.2.2.1 x):BS p x=some (beh p.2.2.1 x):=by
 obtain ⟨h0,h1,r,h2,h3⟩:=h
 refine Ok.eq ?_
 unfold BS
 refine CY h0 h2 ?_
 have e:beh p.2.2.1 x=(r.2.1[x.2.toNat]?).getD (-1):=by unfold beh; rw [h2]
 refine Ah (fun hc=> ?_) fun hc=>AD ?_
 ·have hc:=of_decide_eq_true hc
  have hl:x.2.toNat<r.2.1.length:=by omega
  refine CY h0 h2 (CY h1 (List.getElem?_eq_getElem hl) (AD ?_))
  rw [e,List.getElem?_eq_getElem hl]
  rfl
 ·have hc:=of_decide_eq_false hc
  rw [e,List.getElem?_eq_none (by omega)]
  rfl
theorem Cl.new {R:Rl} {K:List Item} {x:Item} (h:Cl R K x):x ∈ K∨(x.2=0∧ ∃y r,Cl R K y∧R[x.1.toNat]? =some r∧r.1=beh R y):=by
 cases h with
 | base h=>exact .inl h
 | @step y k r h1 h2 h3=>exact .inr ⟨rfl,y,r,h1,by simpa using h2,h3⟩
theorem Lt.at {l:List Item} (h:l.Pairwise Lt) {i j:Nat} {x y:Item} (hx:l[i]? =some x) (hy:l[j]? =some y) (hij:i<j):Lt x y:=by
 obtain ⟨h1,rfl⟩:=List.getElem?_eq_some_iff.1 hx
 obtain ⟨h2,rfl⟩:=List.getElem?_eq_some_iff.1 hy
 exact List.pairwise_iff_getElem.1 h i j h1 h2 hij
section
variable {s:Gv}
set_option maxHeartbeats 1000000 in
theorem Ke (G:SmG s):BY s=some true:=by
 refine Ok.eq ?_
 unfold BY
 refine AI GJ (AM (IP G 12 5) fun b hb=>Ah (fun _=>AD rfl) fun hb'=> ?_)
 refine AM (HO G (hb (by simpa using hb'))) fun p ⟨nt,nl,hp⟩=> ?_
 have ha:=HP hp
 refine AM ha fun r hr=> ?_
 clear ha
 rcases hr with rfl | ⟨n,hn,hF,rfl⟩
 ·exact As rfl (AM (Q:=fun x=>x=true) (As rfl (AD rfl)) fun x hx=>AD hx)
 have H:=IX hp.vp hp.pos hn
 have V:=hp.vp
 have h1:=H.pos
 have hF1:=hF.1
 have hF2:=hF.2
 have hVf:=V.few
 refine AT rfl ?_
 generalize hB:(stM p n).1=B at *
 refine Eo (fun (z:Int×Int)=>0≤z.1∧z.1≤(B.length:Int)∧z.2=((tot (B.take z.1.toNat):Nat):Int)) (fun z=>(B.length:Int).toNat - z.1.toNat) (fun e=>e=AR.next ((tot B:Nat):Int)) ⟨Int.le_refl _,by dsimp only; omega,rfl⟩ (fun z hz=> ?_) fun e he=> ?_
 ·obtain ⟨z,w⟩:=z
  obtain ⟨z0,z1,z2⟩:=hz
  dsimp only at z0 z1 z2 ⊢
  refine AI rfl (AI (Ew H) (Ah (fun hc=> ?_) fun hc=>C5 ?_))
  ·have hc:=of_decide_eq_true hc
   obtain ⟨j,rfl⟩: ∃j:Nat,z=(j:Int):=⟨z.toNat,by omega⟩
   have hj:j<B.length:=by omega
   have hbj:=List.getElem?_eq_getElem hj
   obtain ⟨g1,g2,g3,g4,g5⟩:=H.good V hbj
   have htk:tot (B.take (j+1))=tot (B.take j) +B[j].2.1.length:=by rw [List.take_add_one,hbj,Hw]; unfold tot; simp
   have htl:tot (B.take (j+1)) ≤tot B:=by
    conv=>rhs; rw [← List.take_append_drop (j+1) B,Hw]
    omega
   generalize B[j] =bj at *
   refine AI (IY V H hbj) (AI (Ha V H hbj) ?_)
   have hbehs: ∀x ∈ bj.2.1,BS p x=some (beh p.2.2.1 x):=fun x hx=>Kd (g2.ok x hx)
   refine B5 (fun k (z:List Int)=>z=(bj.2.1.take k).map (beh p.2.2.1)) (by omega) rfl (fun i z hi hz=> ?_) fun z hz=> ?_
   ·subst hz
    have hx:=List.getElem?_eq_getElem hi
    have hxm:=List.getElem_mem hi
    refine AX hx (AI (hbehs _ hxm) (Bg (by simp; omega) ?_))
    refine AM (Q:=fun c=>c=false) (Ah (fun hc=> ?_) fun _=>AD rfl) fun c hc=> ?_
    ·have hc:=of_decide_eq_true hc
     have hi':i - 1<bj.2.1.length:=by omega
     have hy:=List.getElem?_eq_getElem hi'
     have hlt:=Lt.at g2.up hy hx (by omega)
     have e:IntKind.wrap .i64 ((i:Int) - 1)=((i - 1:Nat):Int):=by rw [wr (by omega)]; omega
     rw [e]
     unfold Lt at hlt
     refine AX hy (AX hx (AT (decide_eq_false (by omega)) (AX hy (AX hx (Ah (fun h=> ?_) fun _=>AD rfl)))))
     have h:=eq_of_beq h
     exact AX hy (AX hx (AD (decide_eq_false (by omega))))
    ·subst hc
     refine AT rfl (CA ?_)
     rw [List.take_add_one,hx,List.map_append]
     rfl
   subst hz
   rw [List.take_of_length_le (Nat.le_refl _)]
   have hvl:(bj.2.1.map (beh p.2.2.1)).length≤10100:=by rw [List.length_map]; exact g5
   refine B5 (fun _ _=>True) (by omega) trivial (fun k _ hk _=> ?_) fun _ _=> ?_
   ·have hr:=List.getElem?_eq_getElem hk
    refine AM (Q:=fun c=>c=false) (AX hr (AI (M9 (by omega)) (Ah (fun hc=> ?_) fun _=>AD rfl))) fun c hc=>by
     subst hc
     exact AT rfl (CA trivial)
    have hc:=of_decide_eq_true hc
    obtain ⟨y,hy,hye⟩:=List.mem_map.1 hc
    have hm:((k:Int),(0:Int)) ∈ bj.2.1:=(g3.mem _).2 (.step ((g3.mem _).1 hy) hr hye.symm)
    refine AI (JK (by omega)) (AD ?_)
    rw [decide_eq_true hm]
    rfl
   refine B5 (fun _ _=>True) (by omega) trivial (fun i _ hi _=> ?_) fun _ _=> ?_
   ·have hx:=List.getElem?_eq_getElem hi
    have hxm:=List.getElem_mem hi
    generalize bj.2.1[i] =x at *
    refine AM (Q:=fun c=>c=false) (AX hx (AI (JK (by omega)) (Ah (fun hc=> ?_) fun _=>AD rfl))) fun c hc=>by
     subst hc
     exact AT rfl (CA trivial)
    have hno:x ∉ bj.1:=by simpa using hc
    rcases ((g3.mem x).1 hxm).new with h | ⟨h2,y,r,hy,hr,hre⟩
    ·exact absurd h hno
    refine AX hx (AT (by rw [h2]; rfl) (AX hx (CY (g2.ok x hxm).1 hr (AI (M9 (by omega)) (AD ?_)))))
    have:r.1 ∈ bj.2.1.map (beh p.2.2.1):=List.mem_map.2 ⟨y,(g3.mem y).2 hy,hre.symm⟩
    rw [decide_eq_true this]
    rfl
   refine B5 (fun _ _=>True) (by omega) trivial (fun i _ hi _=> ?_) fun _ _=> ?_
   ·have hx:=List.getElem?_eq_getElem hi
    have hxm:=List.getElem_mem hi
    refine AX hx (AI (JK (by omega)) (AT ?_ (CA trivial)))
    have:bj.1[i] ∈ bj.2.1:=(g3.mem _).2 (.base hxm)
    rw [decide_eq_true (show (bj.1[i].1,bj.1[i].2) ∈ bj.2.1 from this)]
    rfl
   ·subst z2
    rw [wr (show -1000000≤(j:Int) +1∧(j:Int) +1≤1000000 by omega)]
    refine DV ⟨⟨by dsimp only; omega,by dsimp only; omega,?_⟩,by dsimp only; omega⟩
    dsimp only
    rw [Int.toNat_natCast,show ((j:Int) +1).toNat=j+1 by omega,htk,wr (by omega)]
    omega
  ·have hc:=of_decide_eq_false hc
   rw [z2,List.take_of_length_le (by omega)]
 ·subst he
  exact AM (Q:=fun x=>x=true) (As rfl (AI rfl (AI rfl (As (beq_self_eq_true _) (AI (Ew H) (AD (decide_eq_true (by omega)))))))) fun x hx=>AD hx
def Jy (R:Rl) (k:List Item):Int:=match k with
 | [] =>0
 | x::_=>beh R (x.1,x.2 - 1)
theorem MY {R:Rl} {l:List Item} {s:Int} (h: ∃x ∈ l,beh R x=s):Jy R (nx R l s)=s:=by
 obtain ⟨x,hx,hs⟩:=h
 have hm:(x.1,x.2+1) ∈ nx R l s:=HY.2 ⟨x,hx,hs,rfl⟩
 cases hk:nx R l s with
 | nil=>rw [hk] at hm; cases hm
 | cons y k=>
  have:y ∈ nx R l s:=by rw [hk]; simp
  obtain ⟨z,h1,h2,rfl⟩:=HY.1 this
  unfold Jy
  dsimp only
  rw [show z.2+1 - 1=z.2 by omega]
  exact h2
set_option maxHeartbeats 1000000 in
theorem Lb (G:SmG s):Bd s=some true:=by
 refine Ok.eq ?_
 unfold Bd
 refine AI GJ (AM (IP G 12 5) fun b hb=>Ah (fun _=>AD rfl) fun hb'=> ?_)
 refine AM (HO G (hb (by simpa using hb'))) fun p ⟨nt,nl,hp⟩=> ?_
 have ha:=HP hp
 refine AM ha fun r hr=> ?_
 clear ha
 rcases hr with rfl | ⟨n,hn,hF,rfl⟩
 ·exact As rfl (AM (Q:=fun x=>x=true) (As rfl (AD rfl)) fun x hx=>AD hx)
 have H:=IX hp.vp hp.pos hn
 have V:=hp.vp
 have h1:=H.pos
 have hF1:=hF.1
 generalize hB:(stM p n).1=B at *
 generalize hE:(stM p n).2=E at *
 refine AT rfl (AI rfl (AI (Ew H) ?_))
 refine AI (x:=List.replicate B.length (0:Int)) (by unfold Jg; rw [if_pos ⟨by omega,by omega⟩]; rfl) ?_
 refine B5 (fun _ (w:List Int)=>w.length=B.length∧ ∀(t:Nat) b v,B[t]? =some b→w[t]? =some v→v=0∨v=Jy p.2.2.1 b.1) (by omega) ⟨by simp,fun t b v hb hv=> ?_⟩ (fun j w hj hw=> ?_) fun w hw=> ?_
 ·have:=List.mem_of_getElem? hv
  exact .inl (List.eq_of_mem_replicate this)
 ·have hbj:=List.getElem?_eq_getElem hj
  obtain ⟨g1,g2,g3,g4,g5⟩:=H.good V hbj
  obtain ⟨e,he⟩:=H.edge hbj
  have hed:=H.done j _ e hbj he
  have hel:=H.edges_len V hbj he
  generalize B[j] =bj at *
  refine AI (Ha V H hbj) ?_
  refine B5 (fun _ _=>True) (by omega) trivial (fun i _ hi _=> ?_) fun _ _=> ?_
  ·have hbi:=List.getElem?_eq_getElem (show i<B.length by omega)
   have hk4:=(H.good V hbi).2.2.2.1
   refine AI (Ha V H hbi) (AI (MX (by omega)) (AT (decide_eq_false fun e=> ?_) (CA trivial)))
   have:=H.apart i j _ _ hbi hbj e
   omega
  ·have hne:bj.1 ≠ [] :=by
    rcases Nat.eq_zero_or_pos j with rfl | h0
    ·rw [H.zero] at hbj
     cases hbj
     simp
    ·obtain ⟨f,bf,ef,_,_,q3,q4,q5,_,_⟩:=H.from_ j bj h0 hbj
     obtain ⟨_,x,hx,hxe⟩:=IT.1 q5
     intro h
     have:(x.1,x.2+1) ∈ bj.1:=by rw [q4]; exact HY.2 ⟨x,hx,hxe,rfl⟩
     rw [h] at this
     cases this
   refine AM (Q:=fun c=>c=false) (AT (beq_eq_false_iff_ne.2 (by have:=List.length_pos_iff.2 hne; omega)) (AM (My V H (by omega) hj) fun l hl=>AM (GX (j:=0) V H (by omega) hl.2) fun t ht=>AD ?_)) fun c hc=> ?_
   ·have:=Walk.unique H ht.1 hl.1
    subst this
    simp
   subst hc
   refine AT rfl (AI (MT V H hbj he) ?_)
   refine B5 (fun _ (w:List Int)=>w.length=B.length∧ ∀(t:Nat) b v,B[t]? =some b→w[t]? =some v→v=0∨v=Jy p.2.2.1 b.1) (by omega) hw (fun i w hi hw=> ?_) fun w hw=>CA hw
   have hx:=List.getElem?_eq_getElem hi
   have hxm:=List.getElem_mem hi
   have hprev: ∀y,0<i→e[i - 1]? =some y→y.1<e[i].1:=fun y h0 hy=>by
    have h1:=Ct hy
    have hup:=Nt p.2.2.1 bj.2.1
    rw [← hed.1] at hup
    have:=List.pairwise_iff_getElem.1 hup (i - 1) i (by simpa using h1) (by simpa using hi) (by omega)
    rw [List.getElem_map,List.getElem_map] at this
    rw [List.getElem?_eq_getElem h1] at hy
    cases hy
    exact this
   obtain ⟨q,bt,q1,q2,q3,q4⟩:=hed.2 _ hxm
   have hql:=Ct q3
   have hsy:e[i].1 ∈ sy p.2.2.1 bj.2.1:=by rw [← hed.1]; exact List.mem_map.2 ⟨_,hxm,rfl⟩
   have hent:Jy p.2.2.1 bt.1=e[i].1:=by rw [q4]; exact MY (IT.1 hsy).2
   have hgoes:Hb p.2.2.1 B bj e e[i].1 e[i].2:= .inl ⟨hsy,q,bt,q1,q2,q3,q4,hxm⟩
   generalize e[i] =x at *
   have hgo: ∀ {P:Bool→Prop} (k:Int→Option Bool),Ok (k x.2) P→Ok ((A2 (FG p B E ((tot B:Nat):Int)) (j:Int) x.1).bind k) P:=fun k hk=>AM (MU V H hbj he x.1) fun t ht=>by
    rw [Hb.unique H ht hgoes]; exact hk
   refine AM (Q:=fun c=>c=false) (AX hx (AT (decide_eq_false (by omega)) (AX hx (AT (decide_eq_false (by omega)) (Ah (fun h0=> ?_) fun _=> ?_))))) fun c hc=> ?_
   ·have h0:=of_decide_eq_true h0
    have hy:=List.getElem?_eq_getElem (show i - 1<e.length by omega)
    have hlt:=hprev _ (by omega) hy
    rw [show IntKind.wrap .i64 ((i:Int) - 1)=((i - 1:Nat):Int) by rw [wr (by omega)]; omega]
    exact AX hy (AX hx (AT (decide_eq_false (by omega)) (AX hx (AX hx (hgo _ (AD (by simp)))))))
   ·exact AX hx (AX hx (hgo _ (AD (by simp))))
   subst hc
   obtain ⟨w1,w2⟩:=hw
   have hwq:w[x.2.toNat]? =some (w[q]'(by omega)):=by rw [q1,Int.toNat_natCast]; exact List.getElem?_eq_getElem (by omega)
   have hv:=w2 q bt _ q3 (List.getElem?_eq_getElem (show q<w.length by omega))
   rw [hent] at hv
   refine AT rfl (AM (Q:=fun c=>c=false) (AX hx (CY (by omega) hwq (Ah (fun h=>AX hx (CY (by omega) hwq (AX hx (AD ?_)))) fun _=>AD rfl))) fun c hc=> ?_)
   ·rcases hv with h' | h'
    ·rw [h'] at h; simp at h
    ·rw [h']; simp
   subst hc
   refine AT rfl (AX hx (AX hx (HM (by omega) (by omega) (CA ⟨by simp [w1],fun t b v hb hv=> ?_⟩))))
   rw [q1,Int.toNat_natCast] at hv
   by_cases htq:t=q
   ·subst htq
    rw [List.getElem?_set_self (by omega)] at hv
    rw [q3] at hb
    cases hb; cases hv
    exact .inr hent.symm
   ·rw [List.getElem?_set_ne (fun h=>htq h.symm)] at hv
    exact w2 t b v hb hv
 ·exact AM (Q:=fun x=>x=true) (As rfl (AD (decide_eq_true (by omega)))) fun x hx=>AD hx
end
end Go.Proofs.YtnkmpgldbddnkaaDoor
namespace Go.Eng
open Go Go.RowKit
def Cb (P:Program) (h:AF):Nat→TypeId→List Value→Prop
 | 0,_,_=>False
 | n+1,t,cs=>match P.underlying t with
  | some .bool=> ∃b,cs= [.bool b]
  | some (.int k)=> ∃x,cs= [.int k x] ∧(Lit.int k x).wf=true
  | some .string=> ∃s,cs= [.string s] ∧s.size≤maxLen
  | some (.slice e)=> ∃p len cap,cs= [.slice p len cap] ∧len≤cap∧cap≤maxLen∧(p=none→len=0∧cap=0)∧
   ∀i,i<len→ ∃cs',cs'.length=P.cellsOf e∧(∀j v,cs'[j]? =some v→ ∃a,p=some a∧Bh h (a.add (i * P.cellsOf e+j))=some v)∧Cb P h n e cs'
  | some (.struct fs)=>cs.length=P.cellsOf t∧ ∀f ∈ fs.toList,Cb P h n f.type ((cs.drop f.offset).take (P.cellsOf f.type))
  | _=>True
theorem Ii {α β:Type} {f:α→Option β} : ∀ {l:List α} {r:List β},l.mapM f=some r→ ∀a ∈ l,∃b,f a=some b:=by
 intro l
 induction l with
 | nil=>intro r _ a ha; cases ha
 | cons x l ih=>
  intro r h a ha
  rw [List.mapM_cons] at h
  cases hx:f x with
  | none=>simp [hx] at h
  | some b=>
   cases hl:l.mapM f with
   | none=>simp [hx,hl] at h
   | some bs=>
    rcases List.mem_cons.1 ha with rfl | ha
    ·exact ⟨b,hx⟩
    ·exact ih hl a ha
theorem Ij {H:Type} {enc:TypeId×Value→H} {P:Program} {w:World} {base:Nat} {spare:Nat→Bool} {C6:Bool} : ∀(fuel:Nat) (t:TypeId) (cs:List Value) (x:DataW H×List MemPlace),
 DataW.trod enc P w base spare C6 fuel t cs=some x→Cb P w.heap fuel t cs:=by
 intro fuel
 induction fuel with
 | zero=>intro t cs x h; simp [DataW.trod] at h
 | succ n ih=>
  intro t cs x h
  have h0:=h
  rw [DataW.trod_step] at h
  unfold DataW.trodStep at h
  unfold Cb
  split<;>rename_i hd<;>try trivial
  ·rw [hd] at h
   split at h<;>first | cases h | skip
   all_goals rename_i h1; first | cases h1 | skip
   all_goals first | exact ⟨_,rfl⟩ | skip
  ·rw [hd] at h
   split at h<;>first | cases h | skip
   all_goals rename_i h1; first | cases h1 | skip
   split at h
   ·rename_i hk; obtain ⟨rfl,hw⟩:=hk; exact ⟨_,rfl,hw⟩
   ·cases h
  ·rw [hd] at h
   split at h<;>first | cases h | skip
   all_goals rename_i h1; first | cases h1 | skip
   split at h
   ·rename_i hs; exact ⟨_,rfl,hs⟩
   ·cases h
  ·rename_i e
   rcases DataW.trod_slice hd h0 with ⟨rfl,_⟩ | ⟨a,len,cap,elems,rest,m,hm,rfl,_,_,hl,hc,hlen,hel,_⟩
   ·exact ⟨none,0,0,rfl,Nat.le_refl _,Nat.zero_le _,fun _=>⟨rfl,rfl⟩,fun i hi=>by omega⟩
   ·cases hm
    refine ⟨some a,len,cap,rfl,hl,hc,(fun h=>by cases h),fun i hi=> ?_⟩
    have h2:=hel i hi
    rw [List.getElem?_eq_getElem (by omega),Option.bind_eq_some_iff] at h2
    obtain ⟨cs',h3,h4⟩:=h2
    obtain ⟨_,h5,h6⟩:=World.cells?_some h3
    refine ⟨cs',h5,fun j v hj=>⟨a,rfl,?_⟩,ih _ _ _ h4⟩
    have hjl:j<P.cellsOf e:=by
     rcases Nat.lt_or_ge j cs'.length with g | g
     ·omega
     ·rw [List.getElem?_eq_none g] at hj; cases hj
    have:=h6 j hjl
    rw [hj,AV] at this
    exact this
  ·rename_i fs
   rw [hd] at h
   dsimp only at h
   by_cases hlen:cs.length=P.cellsOf t
   ·rw [if_pos hlen,Option.map_eq_some_iff] at h
    obtain ⟨xs,h2,_⟩:=h
    refine ⟨hlen,fun f hf=> ?_⟩
    obtain ⟨y,hy⟩:=Ii h2 f hf
    exact ih _ _ _ hy
   ·rw [if_neg hlen] at h; cases h
theorem reads_of_Trod {H:Type} {enc:TypeId×Value→H} {P:Program} {w:World} {base:Nat} {spare:Nat→Bool} {C6:Bool} {t:TypeId} {v:Value} {d:DataW H} {ps:List MemPlace}
 (h:DataW.Trod enc P w base spare C6 t v d ps): ∃n,Cb P w.heap n t v.cells.toList:=by
 obtain ⟨fuel,hf⟩:=h
 exact ⟨fuel,Ij fuel t _ _ hf⟩
def Ia (h:AF) (v:Value) (h':AF):Prop:=v= .bool true∧DI [] h h'
theorem law_walk {P:Program} {f:FuncId} {args:Array Value} {w:World} (H:CallsH P f args.toList w.heap (BO (Ia w.heap))):
 Calls P f args w fun e w'=>e= .returned (.bool true)∧Below w.heap.size w w':=by
 have:=H w rfl
 rw [Array.toArray_toList] at this
 refine this.mono fun e w' he=> ?_
 obtain ⟨hs,he⟩:=he
 cases e with
 | returned v=>
  obtain ⟨v',hv,rfl,hk⟩:=he
  cases hv
  exact ⟨rfl,hs.os,hs.tape,hs.output,hk.1,fun k hk'=>hk.2 k hk' (by simp)⟩
 | panicked c=>obtain ⟨v',hv,_⟩:=he; cases hv
 | outgrown=>exact he.elim
section
variable {P:Program} {h:AF}
theorem Hc {n:Nat} {t:TypeId} {k:IntKind} {cs:List Value} (ht:P.underlying t=some (.int k)) (H:Cb P h n t cs): ∃x,cs= [.int k x] ∧(Lit.int k x).wf=true:=by
 cases n with
 | zero=>exact H.elim
 | succ n=>unfold Cb at H; rw [ht] at H; exact H
theorem Jz {n:Nat} {t e:TypeId} {cs:List Value} (ht:P.underlying t=some (.slice e)) (H:Cb P h n t cs):
 ∃m p len cap,cs= [.slice p len cap] ∧len≤cap∧cap≤maxLen∧(p=none→len=0∧cap=0)∧
  ∀i,i<len→ ∃cs',cs'.length=P.cellsOf e∧(∀j v,cs'[j]? =some v→ ∃a,p=some a∧Bh h (a.add (i * P.cellsOf e+j))=some v)∧Cb P h m e cs':=by
 cases n with
 | zero=>exact H.elim
 | succ n=>
  unfold Cb at H
  rw [ht] at H
  obtain ⟨p,len,cap,h1,h2⟩:=H
  exact ⟨n,p,len,cap,h1,h2⟩
theorem J0 {α:Type} {p:Nat→α→Prop} : ∀(n:Nat),(∀i,i<n→ ∃x,p i x)→ ∃l:List α,l.length=n∧ ∀i x,l[i]? =some x→p i x:=by
 intro n
 induction n with
 | zero=>intro _; exact ⟨[],rfl,fun i x hx=>by simp at hx⟩
 | succ n ih=>
  intro H
  obtain ⟨l,hl,hp⟩:=ih fun i hi=>H i (by omega)
  obtain ⟨x,hx⟩:=H n (by omega)
  refine ⟨l++ [x],by simp [hl],fun i y hy=> ?_⟩
  rcases Nat.lt_trichotomy i l.length with g | g | g
  ·rw [List.getElem?_append_left g] at hy; exact hp i y hy
  ·subst g; simp at hy; subst hy; rw [hl]; exact hx
  ·rw [List.getElem?_eq_none (by simp; omega)] at hy; cases hy
end
end Go.Eng
namespace Go.Eng
open Go
def ReadsTo {α:Type} (P:Program) (h:AF) (t:TypeId) (r:Ro α) (G:α→Prop):Prop:= ∀n cs,Cb P h n t cs→ ∃x,r.is (BT h) cs x∧G x
theorem GK {P:Program} {h:AF} {t:TypeId} {k:IntKind} (ht:P.underlying t=some (.int k)):ReadsTo P h t (Ro.int k) fun x=>(Lit.int k x).wf=true:=fun n cs H=>by
 obtain ⟨x,rfl,hx⟩:=Hc ht H
 exact ⟨x,rfl,hx⟩
theorem Dj {α:Type} {P:Program} {h:AF} {t e:TypeId} {r:Ro α} {G:α→Prop} (ht:P.underlying t=some (.slice e)) (hc:P.cellsOf e=r.sz) (he:ReadsTo P h e r G):
 ReadsTo P h t (Ro.list r) fun l=>l.length≤maxLen∧ ∀x ∈ l,G x:=fun n cs H=>by
 obtain ⟨m,p,len,cap,rfl,h1,h2,h3,h4⟩:=Jz ht H
 obtain ⟨l,hl,hp⟩:=J0 (p:=fun i (x:List Value×α)=>r.is (BT h) x.1 x.2∧G x.2∧ ∀j v,x.1[j]? =some v→ ∃a,p=some a∧Bh h (a.add (i * r.sz+j))=some v) len (fun i hi=>by
  obtain ⟨cs',g1,g2,g3⟩:=h4 i hi
  obtain ⟨x,hx,hG⟩:=he m cs' g3
  exact ⟨(cs',x),hx,hG,fun j v hv=>by have:=g2 j v hv; rw [hc] at this; exact this⟩)
 have key: ∀k,k≤len→ ∃vs,r.All (BT h) vs ((l.take k).map (·.2))∧vs.length=k * r.sz∧D3 (BT h) p vs:=fun k=>by
  induction k with
  | zero=>intro _; exact ⟨[], .nil,by simp,fun i v hv=>by simp at hv⟩
  | succ k ih=>
   intro hk
   obtain ⟨vs,a1,a2,a3⟩:=ih (by omega)
   have hkl:k<l.length:=by omega
   obtain ⟨b1,b2,b3⟩:=hp k l[k] (List.getElem?_eq_getElem hkl)
   refine ⟨vs++l[k].1,?_,by rw [List.length_append,a2,r.len b1,Nat.add_mul,Nat.one_mul],fun i v hv=> ?_⟩
   ·rw [List.take_add_one,List.getElem?_eq_getElem hkl,List.map_append]
    exact a1.append (.one b1)
   ·rcases Nat.lt_or_ge i vs.length with g | g
    ·rw [List.getElem?_append_left g] at hv; exact a3 i v hv
    ·rw [List.getElem?_append_right g] at hv
     obtain ⟨a,ha,hcell⟩:=b3 _ v hv
     refine ⟨a,ha,?_⟩
     rw [Gn,show i=k * r.sz+(i - vs.length) by omega]
     exact hcell
 obtain ⟨vs,a1,a2,a3⟩:=key len (Nat.le_refl _)
 rw [List.take_of_length_le (by omega)] at a1
 refine ⟨l.map (·.2),⟨(p,len,cap),rfl,by simp [hl],h1,h2,fun hp0=> ?_,vs,a1,a3⟩,by simp; omega,fun x hx=> ?_⟩
 ·have:=(h3 hp0).1
  have:l= [] :=List.eq_nil_of_length_eq_zero (by omega)
  rw [this]; rfl
 ·obtain ⟨y,hy,rfl⟩:=List.mem_map.1 hx
  obtain ⟨i,hi⟩:=List.getElem?_of_mem hy
  exact (hp i y hi).2.1
theorem MZ {α:Type} {P:Program} {h:AF} {t:TypeId} {r:Ro α} {G:List α→Prop} (H:ReadsTo P h t (Ro.list r) G) {n:Nat} {p:Option Addr} {len cap:Nat} (hr:Cb P h n t [.slice p len cap]): ∃l,Ro.SliceIs r (BT h) (p,len,cap) l∧G l:=by
 obtain ⟨l,⟨t',e,hs⟩,hG⟩:=H n _ hr
 obtain ⟨p',n',c'⟩:=t'
 simp only [List.cons.injEq,Value.slice.injEq,and_true] at e
 obtain ⟨rfl,rfl,rfl⟩:=e
 exact ⟨l,hs,hG⟩
theorem St.start (h:AF):St (BT h) [] h:=Sub.refl _
theorem GL {P:Program} {f:FuncId} {args:List Value} {h:AF}
 (H:CallsH P f args h (BO fun v h'=> ∃ψ:AE,∃y:Bool,Sub (BT h) ψ∧v=((.one (.atom .bool)):Sh).val y∧y=true∧St ψ [] h')):CallsH P f args h (BO (Ia h)):=by
 refine H.mono fun e h' he=> ?_
 obtain ⟨v,hv,ψ,y,hs,hv2,hy,s1⟩:=he
 subst hy
 refine ⟨v,hv,hv2,?_⟩
 have hs':=hs.trans s1.sub
 refine ⟨?_,fun i hi _=> ?_⟩
 ·rcases Nat.lt_or_ge h'.size h.size with g | g
  ·have h1:BT h h'.size=some h[h'.size] :=Array.getElem?_eq_getElem g
   have:=A8 (hs' _ _ h1)
   omega
  ·exact g
 ·have h1:BT h i=some h[i] :=Array.getElem?_eq_getElem hi
  have h2:h'[i]? =some h[i] :=hs' _ _ h1
  rw [h2,Array.getElem?_eq_getElem hi]
end Go.Eng
