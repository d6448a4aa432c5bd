/-
  C4, put together.
  Conditions: none; each part tells its own.
-/
import Derived.Test.YteolcjbobmpdiaaGreatDoorKh5
open List renaming append_assoc → bR
open Nat renaming lt_or_eq_of_le → bT
namespace Go.Proofs.YteolcjbobmpdiaaGreatDoor
open Go Go.Eng Dg
set_option linter.unusedVariables false
set_option maxRecDepth 100000
def K5 (a n go:Int) (rs:List Int):Bool:=
 (a==1 && (n==go && decide (go≥0))) || ((a==2 && (decide (n∈rs) && decide (n>0))) || (a==3 && decide ((0:Int)∈rs)))
theorem Of {go:Int}{rs:List Int}{k:Int}(hk:k∈rs) (h0:0≤k):K5 (red k).1 (red k).2 go rs=true:=by
 unfold red;by_cases h:k=0
 ·subst h;rw [if_pos rfl];unfold K5;simp [hk]
 ·rw [if_neg h];unfold K5;simp [hk];omega
theorem Ua {p:dtP}{t go:Int}{rs:List Int}{r:Int×Int×Bool}(h:Pb p t go rs r) (hr:∀k∈rs,0≤k):K5 r.1 r.2.1 go rs=true∨(r=(0,0,false)∧(two rs go=true∨(rs= [] ∧go<0))):=by
 have sh:∀(b:Bool),0≤go→K5 1 go go rs=true:=fun b h0=>by unfold K5;simp [h0]
 have hred2:∀k,(red k).2=k:=fun k=>by unfold red;split<;>simp_all
 rcases h with ⟨h1,h2,rfl⟩|⟨h1,h2,rfl⟩|⟨k,rfl,h2,rfl⟩|⟨k,rfl,h2,rfl⟩|⟨h1,h2,rfl⟩|⟨h1,h2,m,hm,rfl⟩
 ·exact .inr ⟨rfl,.inr ⟨h1,h2⟩⟩
 ·exact .inl (sh true h2)
 ·exact .inl (Of (by simp) (hr k (by simp)))
 ·unfold byF;split
  ·exact .inl (sh true h2)
  ·split
   ·refine .inr ⟨rfl,.inl ?_⟩;unfold two;simp [h2]
   ·split
    ·have:=Of (go:=go) (rs:=[k]) (k:=k) (by simp) (hr k (by simp))
     rw [hred2]at this;exact .inl this
    ·exact .inl (sh true h2)
 ·exact .inl (sh true h2)
 ·exact .inl (Of hm.mem (hr m hm.mem))
section
variable {p:dtP}{B:List dtK}{E:List (List Edge)}{d:LkD}{tt:Int}{A:dtA}
theorem KF (i:Nat):clA p A d B (i+1)=clA p A d B i++clS p A d (dlB p B i) i p.1.length:=rfl
theorem Xi (dl:List Int) (i:Nat) {n m:Nat}(h:n≤m):∃r,clS p A d dl i m=clS p A d dl i n++r:=by
 induction m with
 |zero=>
  obtain rfl:n=0:=by omega
  exact ⟨[],by simp⟩
 |succ m ih=>
  rcases bT h with g | rfl
  ·obtain ⟨r,hr⟩:=ih (by omega);exact ⟨r++DH p A d dl (i:Int) (m:Int),by rw [←bR,←hr];rfl⟩
  ·exact ⟨[],by simp⟩
theorem Xj {n m:Nat}(h:n≤m):∃r,clA p A d B m=clA p A d B n++r:=by
 induction m with
 |zero=>
  obtain rfl:n=0:=by omega
  exact ⟨[],by simp⟩
 |succ m ih=>
  rcases bT h with g | rfl
  ·obtain ⟨r,hr⟩:=ih (by omega);exact ⟨r++clS p A d (dlB p B m) m p.1.length,by rw [←bR,←hr];rfl⟩
  ·exact ⟨[],by simp⟩
theorem WX {i t:Nat}(hi:i<B.length) (ht:t<p.1.length) (h:two (rsL d (dlB p B i) (i:Int) (t:Int)) (goV A (i:Int) (t:Int))=true):
 ∃x,DH p A d (dlB p B i) (i:Int) (t:Int)= [x] ∧(clA p A d B B.length)[(clA p A d B i++clS p A d (dlB p B i) i t).length]? =some x:=by
 obtain ⟨r1,h1⟩:=Xj (p:=p) (A:=A) (d:=d) (B:=B) (n:=i+1) (m:=B.length) hi;obtain ⟨r2,h2⟩:=Xi (p:=p) (A:=A) (d:=d) (dlB p B i) i (n:=t+1) (m:=p.1.length) ht;obtain ⟨x,hx⟩:∃x,DH p A d (dlB p B i) (i:Int) (t:Int)= [x]:=by unfold DH;rw [if_pos h];exact ⟨_,rfl⟩
 refine ⟨x,hx,?_⟩;rw [h1,KF,h2];have e:clS p A d (dlB p B i) i (t+1)=clS p A d (dlB p B i) i t++ [x]:=by rw [←hx];rfl
 rw [e];have e2:clA p A d B i++(clS p A d (dlB p B i) i t++ [x] ++r2) ++r1=(clA p A d B i++clS p A d (dlB p B i) i t) ++(x::(r2++r1)):=by simp [bR]
 rw [e2,List.getElem?_append_right (Nat.le_refl _),Nat.sub_self];rfl
theorem Xk {g:Ce}(G:Gd p A d B g) {i t:Nat}(hi:i<B.length) (ht:t<p.1.length):CH g (i:Int) (t:Int)=some (Rf p A d (dlB p B i) (i:Int) (t:Int)):=by
 obtain ⟨rows,gos,rfl,h1,h2⟩:=G;obtain ⟨row,h3,h4⟩:=h2 i hi;have h5:row[t]? =some (Rf p A d (dlB p B i) (i:Int) (t:Int)):=by
  rw [h4,List.getElem?_map,List.getElem?_range ht];rfl
 unfold CH;refine Ok.eq (AP (Q:=fun c=>c=false) (AP (Q:=fun c=>c=true) ?_ fun c hc=> ?_) fun c hc=>AU hc (AW h3 (AW h5 (AD rfl))))
 ·unfold Ds;exact AP (Q:=fun c=>c=true) (Bd (by simp) (AD (decide_eq_true (by dsimp only;omega)))) fun c hc=>AD hc
 ·subst hc;exact AU rfl (AL (HV _ _) (AD (by simp;omega)))
theorem LX {g:Ce}(G:Gd p A d B g) (hl:(clA p A d B B.length).length≤1000000) (hc:∀x∈clA p A d B B.length,x.2.2.2.1.length≤1000000):BH g=some (clA p A d B B.length):=by
 obtain ⟨rows,gos,rfl,h1,h2⟩:=G;unfold BH;refine Ok.eq (CN (fun j (z:List Ef)=>z=(clA p A d B B.length).take j) (by dsimp only;omega) rfl (fun j z hj hz=> ?_) fun z hz=>AD (by rw [hz];exact List.take_of_length_le (Nat.le_refl _)));have hx:=List.getElem?_eq_getElem hj;subst hz;have hm:=hc _ (List.mem_of_getElem? hx);refine AW hx (AL (x:=((clA p A d B B.length)[j]).2.2.2.1) (by unfold Dg.cloneD;rw [if_pos (by omega)]) (Bk (by simp;omega) (AD ?_)));rw [List.take_add_one,hx];rfl
end
end Go.Proofs.YteolcjbobmpdiaaGreatDoor
