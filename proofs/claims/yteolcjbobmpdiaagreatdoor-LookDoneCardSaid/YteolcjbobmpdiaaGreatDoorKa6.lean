/-
  Build, DenR, DenW, SimR, M1, M2, SimUa, Aw, M3, SimUb, M6, LawsB, put together.
  Conditions: none; each part tells its own.
-/
import Derived.Test.YteolcjbobmpdiaaGreatDoorKa4
import Derived.Test.YteolcjbobmpdiaaGreatDoorKa1
import Derived.Test.YteolcjbobmpdiaaGreatDoorProg
import Derived.KernelRfl
import Derived.Test.YteolcjbobmpdiaaGreatDoorKa2
import Derived.Test.YteolcjbobmpdiaaGreatDoorKa3
import Derived.Test.YteolcjbobmpdiaaGreatDoorKa5
namespace Go.Proofs.YteolcjbobmpdiaaGreatDoor
open Go Go.Eng
set_option linter.unusedVariables false
set_option maxRecDepth 100000
theorem Q8 {φ:AC} {S S':List Slc} {E:List (List Edge)} {B B':List dtK} {c i:Nat} (hS:S.length=B.length) (hE:E.length=B.length) (H:DG φ S E c) (hf:HC S E i) (h:(B'=B∧S'=S)∨ ∃x,B'=B++ [x] ∧S'=S++ [FF]):
 S'.length=B'.length∧(FG E B.length B'.length).length=B'.length∧DG φ S' (FG E B.length B'.length) c∧HC S' (FG E B.length B'.length) i∧(∀(j:Nat) s,S[j]? =some s→S'[j]? =some s)∧(∀(j:Nat) e,E[j]? =some e→(FG E B.length B'.length)[j]? =some e)∧ ∀(j:Nat) b,B[j]? =some b→B'[j]? =some b:=by
 rcases h with ⟨rfl,rfl⟩ | ⟨x,rfl,rfl⟩
 ·unfold FG
  rw [if_pos rfl]
  exact ⟨hS,hE,H,hf,fun _ _ h=>h,fun _ _ h=>h,fun _ _ h=>h⟩
 ·unfold FG
  rw [if_neg (by simp)]
  have ap: ∀ {α:Type} {l:List α} {x y:α} {j:Nat},l[j]? =some y→(l++ [x])[j]? =some y:=fun {α l x y j} h=>by
   rw [List.getElem?_append_left (List.getElem?_eq_some_iff.1 h).1]; exact h
  exact ⟨by simp [hS],by simp [hE],H.snoc (by omega),hf.snoc,fun _ _ h=>ap h,fun _ _ h=>ap h,fun _ _ h=>ap h⟩
theorem T2 {S:List Slc} {E:List (List Edge)} {i:Nat} (H:HC S E i) (h1:i<S.length) (h2:i<E.length):S[i]? =some FF∧E[i]? =some [] :=by
 have a:=List.getElem?_eq_getElem h1
 have b:=List.getElem?_eq_getElem h2
 exact ⟨by rw [a,(H i (Nat.le_refl _)).1 _ a],by rw [b,(H i (Nat.le_refl _)).2 _ b]⟩
theorem HC.mono {S:List Slc} {E:List (List Edge)} {i i':Nat} (H:HC S E i) (h:i≤i'):HC S E i':=fun j hj=>H j (Nat.le_trans h hj)
theorem WB {φ:AC} {S:List Slc} {E:List (List Edge)} {i:Nat} {s:Slc} {e:List Edge} (H:DG φ S E i) (hf:HC S E (i+1)):DG φ (S.set i s) (E.set i e) i∧HC (S.set i s) (E.set i e) (i+1):=by
 refine ⟨fun j s' e' hj h1 h2=> ?_,fun j hj=>⟨fun s' h=> ?_,fun e' h=> ?_⟩⟩
 ·rw [List.getElem?_set_ne (by omega)] at h1 h2
  exact H j s' e' hj h1 h2
 ·rw [List.getElem?_set_ne (by omega)] at h
  exact (hf j hj).1 s' h
 ·rw [List.getElem?_set_ne (by omega)] at h
  exact (hf j hj).2 e' h
theorem WC {φ:AC} {S:List Slc} {E:List (List Edge)} {i:Nat} {s:Slc} {e:List Edge} (H:DG φ S E i) (hs:S[i]? =some s) (he:E[i]? =some e) (k:Ro.SliceIs Fe φ s e):DG φ S E (i+1):=by
 intro j s' e' hj h1 h2
 by_cases hji:j=i
 ·subst hji
  rw [hs] at h1; rw [he] at h2
  cases h1; cases h2
  exact k
 ·exact H j s' e' hji h1 h2
theorem St.to9' {φ:AC} {h:AE} {F:List Chk} {e a0 a1 a2 a3 a4 a5 a6 a7 a8:Chk} (H:St φ (e::a4::a0::a1::a2::a3::a5::a6::a7::a8::F) h):St φ (a0::a1::a2::a3::a4::a5::a6::a7::a8::e::F) h:=
 H.at9.at9.at9.at9.at5.at9.at9.at9.at9
def VI (φ:AC) (c3 c4 c5 c6 m a r1 r2:Nat) (p:Ax) (G:List Chk) (i:Nat) (y:BSt) (w:AE):Prop:= ∃(ψ:AC) (ls:Slc) (S:List Slc),Sub φ ψ∧S.length=y.2.1.length∧y.2.2.1.length=y.2.1.length∧DG ψ S y.2.2.1 i∧HC S y.2.2.1 i∧St ψ (bC c3 c4 c5 c6 m a r1 r2 y.1 p ls 0 (D9 y.2.1 S) y.2.2.2.1 y.2.2.2.2 G) w
def Wb (φ:AC) (c3 c4 c5 c6 m a r1 r2:Nat) (p:Ax) (G:List Chk) (i:Nat) (b:dtK) (y:BSt) (w:AE):Prop:= ∃(ψ:AC) (ls:Slc) (S:List Slc) (s:Slc) (e:List Edge),Sub φ ψ∧S.length=y.2.1.length∧y.2.2.1.length=y.2.1.length∧DG ψ S y.2.2.1 i∧HC S y.2.2.1 (i+1)∧S[i]? =some s∧y.2.2.1[i]? =some e∧y.2.1[i]? =some b∧St ψ (bC c3 c4 c5 c6 m a r1 r2 y.1 p ls 0 (D9 y.2.1 S) y.2.2.2.1 y.2.2.2.2 (cR 73 Fe s e::G)) w
set_option maxHeartbeats 4000000 in
theorem R0 {φ:AC} {h:AE} {F:List Chk} {p_0:Slc×Slc×Slc×Slc×Slc×Slc×Unit} {d0:List ByteArray} {d1:List ByteArray} {d2:List BA} {d3:List Int} {d4:List Int} {d5:List ByteArray} {st it:Int}
 (gk:Glob φ) (k0:Ro.SliceIs Ro.str φ p_0.1 d0) (k1:Ro.SliceIs Ro.str φ p_0.2.1 d1) (k2:Ro.SliceIs CA φ p_0.2.2.1 d2) (k3:Ro.SliceIs (Ro.int .i64) φ p_0.2.2.2.1 d3) (k4:Ro.SliceIs (Ro.int .i64) φ p_0.2.2.2.2.1 d4) (k5:Ro.SliceIs Ro.str φ p_0.2.2.2.2.2.1 d5) (s0:St φ F h) {r:Option DN×Int} (hd:MQ (d0,d1,d2,d3,d4,d5) st it=some r):
 CallsH Tryz.prog 68 [(.agg #[.slice p_0.1.1 p_0.1.2.1 p_0.1.2.2, .slice p_0.2.1.1 p_0.2.1.2.1 p_0.2.1.2.2, .slice p_0.2.2.1.1 p_0.2.2.1.2.1 p_0.2.2.1.2.2, .slice p_0.2.2.2.1.1 p_0.2.2.2.1.2.1 p_0.2.2.2.1.2.2, .slice p_0.2.2.2.2.1.1 p_0.2.2.2.2.1.2.1 p_0.2.2.2.2.1.2.2, .slice p_0.2.2.2.2.2.1.1 p_0.2.2.2.2.2.1.2.1 p_0.2.2.2.2.2.1.2.2]), .int .i64 st, .int .i64 it] h (Aq fun v h'=> ∃ψ:AC,∃y:Option Addr×Int×Unit,∃l1:Option DN,Sub φ ψ∧v=((.tuple [.atom .pointer, .atom (.int .i64)]):Sh).val y∧(l1,y.2.1)=r∧Np Fu ψ y.1 l1∧St ψ F h'):=by
 refine AQ mixed Tryz.func68 ?_
 rw [Kz]
 unfold IY
 unfold MQ at hd
 obtain ⟨rm,hrm,hd1⟩:=bS hd
 clear hd
 obtain ⟨cl,hcl,hd2⟩:=bS hd1
 clear hd1
 obtain ⟨ra,hra,hd⟩:=bS hd2
 clear hd2
 refine AU (vs:= [sv p_0.1,sv p_0.2.1,sv p_0.2.2.1,sv p_0.2.2.2.1,sv p_0.2.2.2.2.1,sv p_0.2.2.2.2.2.1]) s0 fun b1 h1 s1=> ?_
 refine AA (x:=p_0.1) s1 rfl ?_
 refine AA (x:=p_0.2.1) s1 rfl ?_
 refine AA (x:=p_0.2.2.1) s1 rfl ?_
 refine AA (x:=p_0.2.2.2.1) s1 rfl ?_
 refine AA (x:=p_0.2.2.2.2.1) s1 rfl ?_
 refine AA (x:=p_0.2.2.2.2.2.1) s1 rfl ?_
 refine AU (vs:= [sv p_0.1,sv p_0.2.1,sv p_0.2.2.1,sv p_0.2.2.2.1,sv p_0.2.2.2.2.1,sv p_0.2.2.2.2.2.1, .slice none 0 0, .int .i64 (0:Int)]) s1 fun a h2 s2=> ?_
 refine AU (vs:= [.pointer none]) s2 fun c4 h3 s3=> ?_
 refine AP s3 rfl rfl fun h4 s4=> ?_
 refine AI (Jl s4 hrm) ?_
 rintro _ h5 ⟨ψ1,y10,_,le1,rfl,rfl,s5⟩
 refine ⟨y10,rfl,?_⟩
 refine AI (Jl s5 hcl) ?_
 rintro _ h6 ⟨ψ2,y11,_,le2,rfl,rfl,s6⟩
 refine ⟨y11,rfl,?_⟩
 obtain ⟨r2,vs2,rfl,q2,s6⟩:=St.openR s6
 have s6:=(St.shutR s6 q2).at1
 obtain ⟨r1,vs1,rfl,q1,s6⟩:=St.openR s6
 have s6:=(St.shutR s6 q1).at1
 refine AU (vs:= [.pointer none]) s6 fun c5 h7 s7=> ?_
 refine AU (vs:= [.pointer none]) s7 fun c6 h8 s8=> ?_
 refine AP s8.at1 rfl rfl fun h9 s9=> ?_
 refine AP s9.at1 rfl rfl fun h10 s10=> ?_
 refine C3 kyS (Ro.int .i64) s10 fun m h11 s11=> ?_
 refine AU (vs:= [.map none]) s11 fun c3 h12 s12=> ?_
 refine AP s12 rfl rfl fun h13 s13=> ?_
 refine AU (vs:= [.int .i64 (0:Int), .int .i64 (0:Int)]) s13 fun k16 h14 s14=> ?_
 have s15:=St.lit (r:=CR) (l:= [((0:Int),(0:Int))]) (n:=1) s14 (.cons (a:= [_,_]) ⟨[_],_,rfl,rfl,rfl⟩ .nil) rfl (by decide)
 obtain ⟨ψ3,le3,kk,s16⟩:=St.freezeRow (t:=(some ⟨k16,0,none⟩,1,1)) s15
 have le13:=(le1.trans le2).trans le3
 have s17:=St.shutR (r:=Bz) (x:=qA (d0,d1,d2,d3,d4,d5) FF 0) s16.at7 ⟨[_],_,rfl,⟨_,rfl,k0.mono le13⟩, [_],_,rfl,⟨_,rfl,k1.mono le13⟩, [_],_,rfl,⟨_,rfl,k2.mono le13⟩, [_],_,rfl,⟨_,rfl,k3.mono le13⟩, [_],_,rfl,⟨_,rfl,k4.mono le13⟩, [_],_,rfl,⟨_,rfl,k5.mono le13⟩, [_],_,rfl,rfl,rfl⟩
 have s18:=(s17.nil 150 roB).at6.at5.at7.at7.at4.at5.at8.at8.at8
 refine AI (Qp (B:= []) (S:= []) (ls:=FF) (gk.mono le13) kk rfl s18 hra) ?_
 rintro _ h15 ⟨ψ4,y17,ls0,S0,le4,rfl,e1,e2,hG0,s19⟩
 refine ⟨y17,rfl,?_⟩
 have le14:=le13.trans le4
 refine AK hd (by rw [e2]) (fun _ hd=> ?_) (fun _ hd=> ?_)
 ·obtain rfl:=iS hd
  exact AB ⟨ψ4,(none,y17.2.1,()),none,le14,rfl,by rw [e2],rfl,(St.tail9 s19).tail⟩
 obtain ⟨g,hg,hd⟩:=bS hd
 refine AV (fun (z:Int×Int×Option Addr×Unit) w (g:AW BSt Int)=> ∃y i,g=AW.next y∧y.2.1.length≤i∧VI φ c3 c4 c5 c6 m a r1 r2 (d0,d1,d2,d3,d4,d5) (cW 32 b1 [sv p_0.1,sv p_0.2.1,sv p_0.2.2.1,sv p_0.2.2.2.1,sv p_0.2.2.2.2.1,sv p_0.2.2.2.2.2.1] ::F) i y w) (g:=g) ?_ ?_
 ·unfold Ln at hg
  refine EM hg (fun (z:Int×Int×Option Addr×Unit) w (x:Int×BSt)=>z.1=x.1∧0≤x.1∧VI φ c3 c4 c5 c6 m a r1 r2 (d0,d1,d2,d3,d4,d5) (cW 32 b1 [sv p_0.1,sv p_0.2.1,sv p_0.2.2.1,sv p_0.2.2.2.1,sv p_0.2.2.2.2.1,sv p_0.2.2.2.2.2.1] ::F) x.1.toNat x.2 w) ((0:Int),(0:Int),none,()) rfl ⟨rfl,Int.le_refl _,?_⟩ ?_
  ·obtain ⟨g1,g2,g3,g4,_⟩:=Q8 (E:= []) (c:=0) (i:=0) (φ:=ψ4) (S:= []) (B:= []) rfl rfl (fun j s e _ h _=>by simp at h) (fun j _=>⟨fun s h=>by simp at h,fun e h=>by simp at h⟩) hG0
   exact ⟨ψ4,ls0,S0,le14,g1,g2,g3,g4,s19⟩
  rintro ⟨i,z2,z3,_⟩ w ⟨_,fd,B,E,rm',cl'⟩ eo ⟨rfl,hi0,ψ,ls,S,le,hS,hE,hok,hfr,s⟩ hd' hbo
  dsimp only at hi0 hS hE hok hfr s hd' ⊢
  have nL:=St.rowLen s.at4
  have nM:=St.rowMax s.at4
  rw [Dx hS] at nL nM
  refine AA (x:=some ⟨a,0,none⟩) s.at2 rfl ?_
  refine AF _ rfl ?_
  refine Kx ls (QB s) ?_
  refine AK hd' (by rw [nL]) (fun hlt hd'=> ?_) (fun hge hd'=> ?_)
  ·have hlt:=of_decide_eq_true hlt
   obtain ⟨b,hb,hd1⟩:=bS hd'
   clear hd'
   obtain ⟨es,hes,hd'⟩:=bS hd1
   clear hd1
   refine AA (x:=some ⟨a,0,none⟩) s.at2 rfl ?_
   refine AF _ rfl ?_
   refine Kx ls (QB s) ?_
   obtain ⟨f1,f2⟩:=T2 hfr (by omega) (by omega)
   obtain ⟨a26,cs26,ea26,hi26,q26,cl26⟩:=St.get s.at4 (MR hb f1)
   refine AF _ ea26 (Ac hi26 ?_)
   obtain ⟨_,_,rfl,⟨t0,rfl,q0⟩,_,_,rfl,⟨t1,rfl,q1⟩,_,_,rfl,rfl,_,_,rfl,rfl,rfl⟩:=q26
   refine AH (x:=t1) (by rw [Ad]; exact cl26 1 _ rfl) rfl ?_
   refine AA (x:=some ⟨a,0,none⟩) s.at2 rfl ?_
   unfold N3 at hes
   obtain ⟨syms,hsy,hes1⟩:=bS hes
   clear hes
   have hes:=hes1
   clear hes1
   refine AI (HA q1 s.at3 (by rw [O1]; exact hsy)) ?_
   rintro _ w2 ⟨ψ5,y29,_,le5,rfl,rfl,k29,s20⟩
   refine ⟨y29,rfl,?_⟩
   have n29:=k29.length
   have s20:=(St.back3 s20)
   have s21:=St.to9 (s20.nil 73 Fe)
   refine AV (fun (z:Int×Int×Option Addr×Unit) w (g:AW BSt Int)=> ∃y,g=AW.next y∧Wb ψ5 c3 c4 c5 c6 m a r1 r2 (d0,d1,d2,d3,d4,d5) (cW 32 b1 [sv p_0.1,sv p_0.2.1,sv p_0.2.2.1,sv p_0.2.2.2.1,sv p_0.2.2.2.2.1,sv p_0.2.2.2.2.2.1] ::F) i.toNat b y w) (g:=es) ?_ ?_
   ·refine Bq hes (fun j (z:Int×Int×Option Addr×Unit) w (y:BSt)=>z.1=j∧Wb ψ5 c3 c4 c5 c6 m a r1 r2 (d0,d1,d2,d3,d4,d5) (cW 32 b1 [sv p_0.1,sv p_0.2.1,sv p_0.2.2.1,sv p_0.2.2.2.1,sv p_0.2.2.2.2.1,sv p_0.2.2.2.2.2.1] ::F) i.toNat b y w) ((0:Int),z2,z3,()) rfl ⟨rfl,ψ5,ls,S,FF, [],Sub.refl _,hS,hE,hok.mono le5,hfr.mono (by omega),f1,f2,(Ct hb).2.2,s21⟩ ?_ ?_
    ·rintro _ ⟨j,u2,u3,_⟩ w3 ⟨fd3,B3,E3,rm3,cl3⟩ e3 ⟨rfl,ψ6,ls3,S3,s_,e_,le6,hS3,hE3,hok3,hfr3,hs3,he3,hb3,s22⟩ hd3 hj1 hj2 hw hbi
     dsimp only at hS3 hE3 hok3 hfr3 he3 hb3 s22 hd3 hj1 hj2 hw ⊢
     refine Ag (by rw [n29]; exact decide_eq_true hj2) ?_
     obtain ⟨sym,hsym,hd31⟩:=bS hd3
     clear hd3
     unfold Qq at hd31
     obtain ⟨kn,hkn,hd32⟩:=bS hd31
     clear hd31
     obtain ⟨r3,hr3,hd3⟩:=bS hd32
     clear hd32
     dsimp only at hd3 hr3
     obtain ⟨a32,cs32,ea32,hi32,q32,cl32⟩:=(k29.mono le6).get hsym
     refine AF _ ea32 (Ac hi32 ?_)
     obtain rfl:=q32
     refine AH (x:=sym) (AD s22.sub (cl32 0 _ rfl)) rfl ?_
     refine AA (x:=some ⟨a,0,none⟩) s22.at2 rfl ?_
     refine AI (Is (q1.mono (le5.trans le6)) s22.at3 (by rw [TF]; exact hkn)) ?_
     rintro _ w4 ⟨ψ7,y35,_,le7,rfl,rfl,k35,s23⟩
     refine ⟨y35,rfl,?_⟩
     refine AI (Qp (gk.mono (((le.trans le5).trans le6).trans le7)) k35 hS3 (St.back3 s23) hr3) ?_
     rintro _ w5 ⟨ψ8,y36,ls4,S4,le8,rfl,e31,e32,hG,s24⟩
     refine ⟨y36,rfl,?_⟩
     refine AK hd3 (by rw [e32]) (fun _ hd3=> ?_) (fun _ hd3=> ?_)
     ·obtain rfl:=iS hd3
      obtain rfl:=hbi _ rfl
      obtain rfl:=iS hd'
      obtain rfl:=hbo _ rfl
      obtain rfl:=iS hd
      exact Ah (An (Ah (An (AB ⟨ψ8,(none,y36.2.1,()),none,((((le.trans le5).trans le6).trans le7).trans le8),rfl,by rw [e32],rfl,(St.tail9 s24).tail.tail⟩))))
     obtain ⟨el,hel,hd34⟩:=bS hd3
     clear hd3
     obtain ⟨el',hel',hd35⟩:=bS hd34
     clear hd34
     obtain ⟨E',hE',hd3⟩:=bS hd35
     clear hd35
     obtain rfl:=iS hd3
     obtain ⟨g1,g2,g3,g4,g5,g6,g7⟩:=Q8 hS3 hE3 ((hok3.mono le7).mono le8) hfr3 hG
     have hs4:=g5 _ _ hs3
     have he4:=g6 _ _ he3
     have hb4:=g7 _ _ hb3
     obtain ⟨_,hlE,helx⟩:=Ct hel
     rw [he4] at helx
     obtain rfl:=Option.some.inj helx
     rw [← e31] at hel'
     have hbi4:idx r3.2.2.2.1 i=some b:=by unfold idx; rw [if_pos hi0]; exact hb4
     refine AA (x:=some ⟨a,0,none⟩) s24.at2 rfl ?_
     refine AF _ rfl ?_
     refine Kx ls4 (QB s24) ?_
     refine AA (x:=some ⟨a,0,none⟩) s24.at2 rfl ?_
     refine AF _ rfl ?_
     refine Kx ls4 (QB s24) ?_
     obtain ⟨a43,cs43,ea43,hi43,q43,cl43⟩:=St.get s24.at4 (MR hbi4 hs4)
     refine AF _ ea43 (Ac hi43 ?_)
     obtain ⟨_,_,rfl,⟨v0,rfl,p0⟩,_,_,rfl,⟨v1,rfl,p1⟩,_,_,rfl,rfl,_,_,rfl,rfl,rfl⟩:=q43
     refine AH (x:=s_) (by rw [Ad]; exact cl43 2 _ rfl) rfl ?_
     refine Jy (vs:= [.int .i64 sym, .int .i64 y36.1]) s24 fun r45 w6 keep s25=> ?_
     refine AL (keep _ _ (by rw [Ad]; exact cl43 2 _ rfl)) ?_
     refine AL (QB s25.tail) ?_
     refine AL (St.cell s25.tail.at2 rfl) ?_
     refine AL (QB s25.tail) ?_
     refine AL (St.cell s25.tail.at2 rfl) ?_
     refine Am (r:=Fe) (ms:= [(sym,y36.1)]) WR s25.tail.at9 rfl (St.cells s25) (.cons (a:= [_,_]) ⟨[_],_,rfl,rfl,rfl⟩ .nil) rfl hel' fun s46 w7 s26=> ?_
     refine AL (QB s26.tail) ?_
     refine AL (St.cell s26.tail.at2 rfl) ?_
     refine AF _ ea43 (Ac hi43 ?_)
     have hset:Dm (D9 r3.2.2.2.1 S4) i (Kj b s46)=some (D9 r3.2.2.2.1 (S4.set i.toNat s46)):=by
      unfold Dm
      rw [if_pos ⟨hi0,by rw [Dx g1]; omega⟩,TG _ hb4]
     refine Nq (j:=2) s26.at5 (MR hbi4 hs4) hset (fun cs hq=> ?_) rfl rfl ea43 (Ad _ _ _) fun w8 s27=> ?_
     ·obtain ⟨_,_,rfl,⟨x0,rfl,o0⟩,_,_,rfl,⟨x1,rfl,o1⟩,_,_,rfl,rfl,_,_,rfl,rfl,rfl⟩:=hq
      exact ⟨[_],_,rfl,⟨x0,rfl,o0⟩, [_],_,rfl,⟨x1,rfl,o1⟩, [_],_,rfl,rfl, [_],_,rfl,rfl,rfl⟩
     obtain ⟨_,_,rfl⟩:=Dc hE'
     obtain ⟨w1,w2⟩:=WB (s:=s46) (e:=el') g3 g4
     have s28:=St.to9' s27.at1
     exact Af ((IntKind.wrap .i64 (j+(1:Int))),u2,u3,()) _ rfl rfl ⟨hw,ψ8,ls4,S4.set i.toNat s46,s46,el',(le6.trans le7).trans le8,by rw [List.length_set]; exact g1,by rw [List.length_set]; exact g2,w1,w2,by rw [List.getElem?_set_self (by omega)],by rw [List.getElem?_set_self (by omega)],hb4,s28⟩
    ·rintro _ ⟨j,u2,u3,_⟩ w3 y3 ⟨rfl,hI⟩ hge hr3
     refine AY (by rw [n29]; exact decide_eq_false (Int.not_lt.2 hge)) ?_
     exact AJ (AM (j,u2,u3,()) rfl ⟨y3,hr3,hI⟩)
   rintro ⟨z1,u2,u3,_⟩ w3 ⟨⟨fd3,B3,E3,rm3,cl3⟩,rfl,ψ6,ls3,S3,s_,e_,le6,hS3,hE3,hok3,hfr3,hs3,he3,hb3,s22⟩
   dsimp only at hS3 hE3 hok3 hfr3 he3 hb3 s22
   obtain rfl:=iS hd'
   obtain ⟨ψ7,le7,kE,s23⟩:=St.freezeRow s22.at9
   have hw:IntKind.wrap .i64 (i+1)=i+1:=w64 (by omega) (by unfold maxLen at nM; omega)
   have hi1:(i+1).toNat=i.toNat+1:=by omega
   refine Af ((IntKind.wrap .i64 (i+(1:Int))),u2,u3,()) _ rfl rfl ⟨rfl,by rw [hw]; omega,ψ7,ls3,S3,((le.trans le5).trans le6).trans le7,hS3,hE3,?_,?_,s23⟩
   ·rw [hw,hi1]; exact WC (hok3.mono le7) hs3 he3 kE
   ·rw [hw,hi1]; exact hfr3
  ·have hge:=of_decide_eq_false hge
   obtain rfl:=iS hd'
   obtain rfl:=hbo _ rfl
   exact AJ (AM (i,z2,z3,()) rfl ⟨_,i.toNat,rfl,by dsimp only; omega,ψ,ls,S,le,hS,hE,hok,hfr,s⟩)
 rintro ⟨z1,z2,z3,_⟩ w ⟨⟨fd,B,E,rm',cl'⟩,i,rfl,hi,ψ,ls,S,le,hS,hE,hok,hfr,s⟩
 dsimp only at hd hi hS hE hok hfr s
 obtain ⟨tot,ht,hd⟩:=bS hd
 obtain rfl:=iS hd
 refine AA (x:=some ⟨a,0,none⟩) s.at2 rfl ?_
 refine AA (x:=some ⟨r2,0,none⟩) s.at7 rfl ?_
 refine AI (Ij s.at8 ht) ?_
 rintro _ w1 ⟨ψ5,y50,le5,rfl,rfl,s20⟩
 refine ⟨y50,rfl,?_⟩
 refine AL (St.cell s20.at3 rfl) ?_
 refine AF _ rfl ?_
 obtain ⟨b,vs,e,⟨_,_,rfl,⟨u0,rfl,kk0⟩,_,_,rfl,⟨u1,rfl,kk1⟩,_,_,rfl,⟨u2,rfl,kk2⟩,_,_,rfl,⟨u3,rfl,kk3⟩,_,_,rfl,⟨u4,rfl,kk4⟩,_,_,rfl,⟨u5,rfl,kk5⟩,_,_,rfl,rfl,rfl⟩,s21⟩:=St.openR s20.at4
 obtain rfl:a=b:=by simpa using e
 refine AP s21 rfl rfl fun w2 s22=> ?_
 refine AA (x:=some ⟨a,0,none⟩) s22.at4 rfl ?_
 obtain ⟨ψ6,le6,kR,s23⟩:=St.freezeRow s22.at5
 have kS:=Rj hS hE (fun j s e h1 h2=>(hok j s e (by have:=(List.getElem?_eq_some_iff.1 h1).1; omega) h1 h2).mono (le5.trans le6)) kR
 have s24:=St.shutR (r:=Fu) (x:=(d0,d1,d2,d3,d4,d5,D9 B E,y50)) s23 ⟨[_],_,rfl,⟨u0,rfl,kk0.mono le6⟩, [_],_,rfl,⟨u1,rfl,kk1.mono le6⟩, [_],_,rfl,⟨u2,rfl,kk2.mono le6⟩, [_],_,rfl,⟨u3,rfl,kk3.mono le6⟩, [_],_,rfl,⟨u4,rfl,kk4.mono le6⟩, [_],_,rfl,⟨u5,rfl,kk5.mono le6⟩, [_],_,rfl,⟨ls,rfl,kS⟩,rfl⟩
 obtain ⟨ψ7,le7,kP,s25⟩:=St.freezeR (VY _) s24
 exact AB ⟨ψ7,(some ⟨a,0,none⟩,(0:Int),()),some _,(((le.trans le5).trans le6).trans le7),rfl,rfl,kP,s25.tail.tail.tail.tail.tail.tail.tail.tail⟩
noncomputable def FX (a_0_p:Option Addr) (a_0_n a_0_c:Nat) (b_1_p:Option Addr) (b_1_n b_1_c:Nat):T:=
 cond (((a_0_n:Nat):Int) !=((b_1_n:Nat):Int))
 (T.ret (.bool false))
 (T.block 0 [aI,aB]
 (T.loop [aI,aB] [(.int .i64 (0:Int)),(.bool false)] fun (z2:Int×Bool×Unit)=>
 cond (decide (z2.1< ((a_0_n:Nat):Int)))
 (deref a_0_p fun a3=>
 chk (0≤z2.1∧z2.1< (a_0_n:Nat)) <|
 T.load (.int .i64) (a3.add (Int.toNat z2.1 * 1)) fun (t4:Int)=>
 deref b_1_p fun a5=>
 chk (0≤z2.1∧z2.1< (b_1_n:Nat)) <|
 T.load (.int .i64) (a5.add (Int.toNat z2.1 * 1)) fun (t6:Int)=>
 cond (t4 !=t6)
 (T.ret (.bool false))
 (T.out [(.int .i64 (wN z2.1)),(.bool z2.2.1)]))
 (T.brk 0 [(.int .i64 z2.1),(.bool z2.2.1)])) fun (z1:Int×Bool×Unit)=>
 T.ret (.bool true))
theorem ID (a_0_p:Option Addr) (a_0_n a_0_c:Nat) (b_1_p:Option Addr) (b_1_n b_1_c:Nat):Ab Tryz.prog Tryz.f21 [(.slice a_0_p a_0_n a_0_c),(.slice b_1_p b_1_n b_1_c)] =FX a_0_p a_0_n a_0_c b_1_p b_1_n b_1_c:=by kernel_rfl
noncomputable def FJ (p_0:Slc×Slc×Slc×Slc×Slc×Slc×Unit):T:=
 T.new (.cells #[(sv p_0.1),(sv p_0.2.1),(sv p_0.2.2.1),(sv p_0.2.2.2.1),(sv p_0.2.2.2.2.1),(sv p_0.2.2.2.2.2.1)] 32 (0,0)) fun r1=>
 T.load .slice ⟨r1,0,none⟩ fun (t2:Slc)=>
 T.load .slice ⟨r1,1,none⟩ fun (t3:Slc)=>
 T.load .slice ⟨r1,2,none⟩ fun (t4:Slc)=>
 T.load .slice ⟨r1,3,none⟩ fun (t5:Slc)=>
 T.load .slice ⟨r1,4,none⟩ fun (t6:Slc)=>
 T.load .slice ⟨r1,5,none⟩ fun (t7:Slc)=>
 T.call 57 [(.agg #[(sv t2),(sv t3),(sv t4),(sv t5),(sv t6),(sv t7)])] (.one aS) fun (t8:Slc)=>
 T.load .slice ⟨r1,0,none⟩ fun (t9:Slc)=>
 T.load .slice ⟨r1,1,none⟩ fun (t10:Slc)=>
 T.load .slice ⟨r1,2,none⟩ fun (t11:Slc)=>
 T.load .slice ⟨r1,3,none⟩ fun (t12:Slc)=>
 T.load .slice ⟨r1,4,none⟩ fun (t13:Slc)=>
 T.load .slice ⟨r1,5,none⟩ fun (t14:Slc)=>
 T.call 58 [(.agg #[(sv t9),(sv t10),(sv t11),(sv t12),(sv t13),(sv t14)])] (.one aS) fun (t15:Slc)=>
 T.load .slice ⟨r1,0,none⟩ fun (t16:Slc)=>
 T.block 0 [aI,aI,aI]
 (T.loop [aI,aI,aI] [(.int .i64 ((t16.2.1:Nat):Int)),(.int .i64 (0:Int)),(.int .i64 (0:Int))] fun (z18:Int×Int×Int×Unit)=>
 T.load .slice ⟨r1,0,none⟩ fun (t19:Slc)=>
 T.load .slice ⟨r1,1,none⟩ fun (t20:Slc)=>
 T.load .slice ⟨r1,2,none⟩ fun (t21:Slc)=>
 T.load .slice ⟨r1,3,none⟩ fun (t22:Slc)=>
 T.load .slice ⟨r1,4,none⟩ fun (t23:Slc)=>
 T.load .slice ⟨r1,5,none⟩ fun (t24:Slc)=>
 T.call 59 [(.agg #[(sv t19),(sv t20),(sv t21),(sv t22),(sv t23),(sv t24)])] (.one aI) fun (t25:Int)=>
 cond (decide (z18.1< (IntKind.wrap .i64 (t25 - (1:Int)))))
 (deref t8.1 fun a26=>
 chk (0≤z18.1∧z18.1< (t8.2.1:Nat)) <|
 T.load .bool (a26.add (Int.toNat z18.1 * 1)) fun (t27:Bool)=>
 cond (!t27)
 (T.ret (.tuple #[(.int .i64 z18.1),(.int .i64 (18:Int))]))
 (T.out [(.int .i64 (wN z18.1)),(.int .i64 z18.2.1),(.int .i64 z18.2.2.1)]))
 (T.brk 0 [(.int .i64 z18.1),(.int .i64 z18.2.1),(.int .i64 z18.2.2.1)])) fun (z17:Int×Int×Int×Unit)=>
 T.load .slice ⟨r1,0,none⟩ fun (t28:Slc)=>
 T.block 2 [aI,aI,aI]
 (T.loop [aI,aI,aI] [(.int .i64 ((t28.2.1:Nat):Int)),(.int .i64 z17.2.1),(.int .i64 z17.2.2.1)] fun (z30:Int×Int×Int×Unit)=>
 T.load .slice ⟨r1,0,none⟩ fun (t31:Slc)=>
 T.load .slice ⟨r1,1,none⟩ fun (t32:Slc)=>
 T.load .slice ⟨r1,2,none⟩ fun (t33:Slc)=>
 T.load .slice ⟨r1,3,none⟩ fun (t34:Slc)=>
 T.load .slice ⟨r1,4,none⟩ fun (t35:Slc)=>
 T.load .slice ⟨r1,5,none⟩ fun (t36:Slc)=>
 T.call 59 [(.agg #[(sv t31),(sv t32),(sv t33),(sv t34),(sv t35),(sv t36)])] (.one aI) fun (t37:Int)=>
 cond (decide (z30.1< (IntKind.wrap .i64 (t37 - (1:Int)))))
 (deref t15.1 fun a38=>
 chk (0≤z30.1∧z30.1< (t15.2.1:Nat)) <|
 T.load .bool (a38.add (Int.toNat z30.1 * 1)) fun (t39:Bool)=>
 cond (!t39)
 (T.ret (.tuple #[(.int .i64 z30.1),(.int .i64 (17:Int))]))
 (T.out [(.int .i64 (wN z30.1)),(.int .i64 z30.2.1),(.int .i64 z30.2.2.1)]))
 (T.brk 2 [(.int .i64 z30.1),(.int .i64 z30.2.1),(.int .i64 z30.2.2.1)])) fun (z29:Int×Int×Int×Unit)=>
 T.ret (.tuple #[(.int .i64 (0:Int)),(.int .i64 (0:Int))])
theorem Hi (p_0:Slc×Slc×Slc×Slc×Slc×Slc×Unit):Ab Tryz.prog Tryz.f16 [(.agg #[(sv p_0.1),(sv p_0.2.1),(sv p_0.2.2.1),(sv p_0.2.2.2.1),(sv p_0.2.2.2.2.1),(sv p_0.2.2.2.2.2.1)])] =FJ p_0:=by kernel_rfl
noncomputable def FK (p_0:Slc×Slc×Slc×Slc×Slc×Slc×Unit):T:=
 T.new (.cells #[(sv p_0.1),(sv p_0.2.1),(sv p_0.2.2.1),(sv p_0.2.2.2.1),(sv p_0.2.2.2.2.1),(sv p_0.2.2.2.2.2.1)] 32 (0,0)) fun r1=>
 T.load .slice ⟨r1,0,none⟩ fun (t2:Slc)=>
 T.load .slice ⟨r1,1,none⟩ fun (t3:Slc)=>
 T.load .slice ⟨r1,2,none⟩ fun (t4:Slc)=>
 T.load .slice ⟨r1,3,none⟩ fun (t5:Slc)=>
 T.load .slice ⟨r1,4,none⟩ fun (t6:Slc)=>
 T.load .slice ⟨r1,5,none⟩ fun (t7:Slc)=>
 T.call 59 [(.agg #[(sv t2),(sv t3),(sv t4),(sv t5),(sv t6),(sv t7)])] (.one aI) fun (t8:Int)=>
 T.sem (Instr.makeSlice 60 (.int .i64 t8) (.int .i64 t8)) (.one aS) fun (t9:Slc)=>
 T.block 0 [aI]
 (T.loop [aI] [(.int .i64 (0:Int))] fun (z11:Int×Unit)=>
 T.load .slice ⟨r1,0,none⟩ fun (t12:Slc)=>
 cond (decide (z11.1< ((t12.2.1:Nat):Int)))
 (deref t9.1 fun a13=>
 chk (0≤z11.1∧z11.1< (t9.2.1:Nat)) <|
 T.store (a13.add (Int.toNat z11.1 * 1)) (.bool true) <|
 T.out [(.int .i64 (wN z11.1))])
 (T.brk 0 [(.int .i64 z11.1)])) fun (z10:Int×Unit)=>
 T.block 2 [aB]
 (T.loop [aB] [(.bool true)] fun (z15:Bool×Unit)=>
 cond z15.1
 (T.block 4 [aI,aB]
 (T.loop [aI,aB] [(.int .i64 (0:Int)),(.bool false)] fun (z17:Int×Bool×Unit)=>
 T.load .slice ⟨r1,2,none⟩ fun (t18:Slc)=>
 cond (decide (z17.1< ((t18.2.1:Nat):Int)))
 (T.block 6 [aI,aB]
 (T.loop [aI,aB] [(.int .i64 (0:Int)),(.bool true)] fun (z20:Int×Bool×Unit)=>
 T.load .slice ⟨r1,2,none⟩ fun (t21:Slc)=>
 deref t21.1 fun a22=>
 chk (0≤z17.1∧z17.1< (t21.2.1:Nat)) <|
 T.load .slice ((a22.add (Int.toNat z17.1 * 3)).add 1) fun (t23:Slc)=>
 cond (decide (z20.1< ((t23.2.1:Nat):Int)))
 (T.join [aB]
 (cond z20.2.1
 (T.load .slice ⟨r1,2,none⟩ fun (t25:Slc)=>
 deref t25.1 fun a26=>
 chk (0≤z17.1∧z17.1< (t25.2.1:Nat)) <|
 T.load .slice ((a26.add (Int.toNat z17.1 * 3)).add 1) fun (t27:Slc)=>
 deref t27.1 fun a28=>
 chk (0≤z20.1∧z20.1< (t27.2.1:Nat)) <|
 T.load (.int .i64) (a28.add (Int.toNat z20.1 * 1)) fun (t29:Int)=>
 deref t9.1 fun a30=>
 chk (0≤t29∧t29< (t9.2.1:Nat)) <|
 T.load .bool (a30.add (Int.toNat t29 * 1)) fun (t31:Bool)=>
 T.out [(.bool t31)])
 (T.out [(.bool false)])) fun (z24:Bool×Unit)=>
 T.out [(.int .i64 (wN z20.1)),(.bool z24.1)])
 (T.brk 6 [(.int .i64 z20.1),(.bool z20.2.1)])) fun (z19:Int×Bool×Unit)=>
 T.join [aB]
 (cond z19.2.1
 (T.load .slice ⟨r1,2,none⟩ fun (t33:Slc)=>
 deref t33.1 fun a34=>
 chk (0≤z17.1∧z17.1< (t33.2.1:Nat)) <|
 T.load (.int .i64) (a34.add (Int.toNat z17.1 * 3)) fun (t35:Int)=>
 deref t9.1 fun a36=>
 chk (0≤t35∧t35< (t9.2.1:Nat)) <|
 T.load .bool (a36.add (Int.toNat t35 * 1)) fun (t37:Bool)=>
 T.out [(.bool (!t37))])
 (T.out [(.bool false)])) fun (z32:Bool×Unit)=>
 T.join [aB]
 (cond z32.1
 (T.load .slice ⟨r1,2,none⟩ fun (t39:Slc)=>
 deref t39.1 fun a40=>
 chk (0≤z17.1∧z17.1< (t39.2.1:Nat)) <|
 T.load (.int .i64) (a40.add (Int.toNat z17.1 * 3)) fun (t41:Int)=>
 deref t9.1 fun a42=>
 chk (0≤t41∧t41< (t9.2.1:Nat)) <|
 T.store (a42.add (Int.toNat t41 * 1)) (.bool true) <|
 T.out [(.bool true)])
 (T.out [(.bool z17.2.1)])) fun (z38:Bool×Unit)=>
 T.out [(.int .i64 (wN z17.1)),(.bool z38.1)])
 (T.brk 4 [(.int .i64 z17.1),(.bool z17.2.1)])) fun (z16:Int×Bool×Unit)=>
 T.out [(.bool z16.2.1)])
 (T.brk 2 [(.bool z15.1)])) fun (z14:Bool×Unit)=>
 T.ret (sv t9)
theorem Hk (p_0:Slc×Slc×Slc×Slc×Slc×Slc×Unit):Ab Tryz.prog Tryz.f57 [(.agg #[(sv p_0.1),(sv p_0.2.1),(sv p_0.2.2.1),(sv p_0.2.2.2.1),(sv p_0.2.2.2.2.1),(sv p_0.2.2.2.2.2.1)])] =FK p_0:=by kernel_rfl
noncomputable def FY (p_0:Slc×Slc×Slc×Slc×Slc×Slc×Unit):T:=
 T.new (.cells #[(sv p_0.1),(sv p_0.2.1),(sv p_0.2.2.1),(sv p_0.2.2.2.1),(sv p_0.2.2.2.2.1),(sv p_0.2.2.2.2.2.1)] 32 (0,0)) fun r1=>
 T.load .slice ⟨r1,0,none⟩ fun (t2:Slc)=>
 T.load .slice ⟨r1,1,none⟩ fun (t3:Slc)=>
 T.load .slice ⟨r1,2,none⟩ fun (t4:Slc)=>
 T.load .slice ⟨r1,3,none⟩ fun (t5:Slc)=>
 T.load .slice ⟨r1,4,none⟩ fun (t6:Slc)=>
 T.load .slice ⟨r1,5,none⟩ fun (t7:Slc)=>
 T.call 59 [(.agg #[(sv t2),(sv t3),(sv t4),(sv t5),(sv t6),(sv t7)])] (.one aI) fun (t8:Int)=>
 T.sem (Instr.makeSlice 60 (.int .i64 t8) (.int .i64 t8)) (.one aS) fun (t9:Slc)=>
 T.load .slice ⟨r1,0,none⟩ fun (t10:Slc)=>
 T.load .slice ⟨r1,1,none⟩ fun (t11:Slc)=>
 T.load .slice ⟨r1,2,none⟩ fun (t12:Slc)=>
 T.load .slice ⟨r1,3,none⟩ fun (t13:Slc)=>
 T.load .slice ⟨r1,4,none⟩ fun (t14:Slc)=>
 T.load .slice ⟨r1,5,none⟩ fun (t15:Slc)=>
 T.call 59 [(.agg #[(sv t10),(sv t11),(sv t12),(sv t13),(sv t14),(sv t15)])] (.one aI) fun (t16:Int)=>
 deref t9.1 fun a17=>
 chk (0≤(IntKind.wrap .i64 (t16 - (1:Int)))∧(IntKind.wrap .i64 (t16 - (1:Int))) < (t9.2.1:Nat)) <|
 T.store (a17.add (Int.toNat (IntKind.wrap .i64 (t16 - (1:Int))) * 1)) (.bool true) <|
 T.block 0 [aB]
 (T.loop [aB] [(.bool true)] fun (z19:Bool×Unit)=>
 cond z19.1
 (T.block 2 [aI,aB]
 (T.loop [aI,aB] [(.int .i64 (0:Int)),(.bool false)] fun (z21:Int×Bool×Unit)=>
 T.load .slice ⟨r1,2,none⟩ fun (t22:Slc)=>
 cond (decide (z21.1< ((t22.2.1:Nat):Int)))
 (T.block 4 [aI,aB]
 (T.loop [aI,aB] [(.int .i64 (0:Int)),(.bool z21.2.1)] fun (z24:Int×Bool×Unit)=>
 T.load .slice ⟨r1,2,none⟩ fun (t25:Slc)=>
 deref t25.1 fun a26=>
 chk (0≤z21.1∧z21.1< (t25.2.1:Nat)) <|
 T.load .slice ((a26.add (Int.toNat z21.1 * 3)).add 1) fun (t27:Slc)=>
 cond (decide (z24.1< ((t27.2.1:Nat):Int)))
 (T.join [aB]
 (T.load .slice ⟨r1,2,none⟩ fun (t29:Slc)=>
 deref t29.1 fun a30=>
 chk (0≤z21.1∧z21.1< (t29.2.1:Nat)) <|
 T.load (.int .i64) (a30.add (Int.toNat z21.1 * 3)) fun (t31:Int)=>
 deref t9.1 fun a32=>
 chk (0≤t31∧t31< (t9.2.1:Nat)) <|
 T.load .bool (a32.add (Int.toNat t31 * 1)) fun (t33:Bool)=>
 cond t33
 (T.load .slice ⟨r1,2,none⟩ fun (t34:Slc)=>
 deref t34.1 fun a35=>
 chk (0≤z21.1∧z21.1< (t34.2.1:Nat)) <|
 T.load .slice ((a35.add (Int.toNat z21.1 * 3)).add 1) fun (t36:Slc)=>
 deref t36.1 fun a37=>
 chk (0≤z24.1∧z24.1< (t36.2.1:Nat)) <|
 T.load (.int .i64) (a37.add (Int.toNat z24.1 * 1)) fun (t38:Int)=>
 deref t9.1 fun a39=>
 chk (0≤t38∧t38< (t9.2.1:Nat)) <|
 T.load .bool (a39.add (Int.toNat t38 * 1)) fun (t40:Bool)=>
 T.out [(.bool (!t40))])
 (T.out [(.bool false)])) fun (z28:Bool×Unit)=>
 T.join [aB]
 (cond z28.1
 (T.load .slice ⟨r1,2,none⟩ fun (t42:Slc)=>
 deref t42.1 fun a43=>
 chk (0≤z21.1∧z21.1< (t42.2.1:Nat)) <|
 T.load .slice ((a43.add (Int.toNat z21.1 * 3)).add 1) fun (t44:Slc)=>
 deref t44.1 fun a45=>
 chk (0≤z24.1∧z24.1< (t44.2.1:Nat)) <|
 T.load (.int .i64) (a45.add (Int.toNat z24.1 * 1)) fun (t46:Int)=>
 deref t9.1 fun a47=>
 chk (0≤t46∧t46< (t9.2.1:Nat)) <|
 T.store (a47.add (Int.toNat t46 * 1)) (.bool true) <|
 T.out [(.bool true)])
 (T.out [(.bool z24.2.1)])) fun (z41:Bool×Unit)=>
 T.out [(.int .i64 (wN z24.1)),(.bool z41.1)])
 (T.brk 4 [(.int .i64 z24.1),(.bool z24.2.1)])) fun (z23:Int×Bool×Unit)=>
 T.out [(.int .i64 (wN z21.1)),(.bool z23.2.1)])
 (T.brk 2 [(.int .i64 z21.1),(.bool z21.2.1)])) fun (z20:Int×Bool×Unit)=>
 T.out [(.bool z20.2.1)])
 (T.brk 0 [(.bool z19.1)])) fun (z18:Bool×Unit)=>
 T.ret (sv t9)
theorem IE (p_0:Slc×Slc×Slc×Slc×Slc×Slc×Unit):Ab Tryz.prog Tryz.f58 [(.agg #[(sv p_0.1),(sv p_0.2.1),(sv p_0.2.2.1),(sv p_0.2.2.2.1),(sv p_0.2.2.2.2.1),(sv p_0.2.2.2.2.2.1)])] =FY p_0:=by kernel_rfl
noncomputable def FL (p_0:Slc×Slc×Slc×Slc×Slc×Slc×Unit):T:=
 T.new (.cells #[(sv p_0.1),(sv p_0.2.1),(sv p_0.2.2.1),(sv p_0.2.2.2.1),(sv p_0.2.2.2.2.1),(sv p_0.2.2.2.2.2.1)] 32 (0,0)) fun r1=>
 T.load .slice ⟨r1,0,none⟩ fun (t2:Slc)=>
 T.load .slice ⟨r1,1,none⟩ fun (t3:Slc)=>
 T.ret (.int .i64 (IntKind.wrap .i64 ((IntKind.wrap .i64 (((t2.2.1:Nat):Int) +((t3.2.1:Nat):Int))) +(1:Int))))
theorem Hl (p_0:Slc×Slc×Slc×Slc×Slc×Slc×Unit):Ab Tryz.prog Tryz.f59 [(.agg #[(sv p_0.1),(sv p_0.2.1),(sv p_0.2.2.1),(sv p_0.2.2.2.1),(sv p_0.2.2.2.2.1),(sv p_0.2.2.2.2.2.1)])] =FL p_0:=by kernel_rfl
noncomputable def EF (small_0:Int×Int×Slc×Slc×Slc×Slc×Slc×Unit):T:=
 T.new (.cells #[(.int .u8 small_0.1),(.int .u8 small_0.2.1),(sv small_0.2.2.1),(sv small_0.2.2.2.1),(sv small_0.2.2.2.2.1),(sv small_0.2.2.2.2.2.1),(sv small_0.2.2.2.2.2.2.1)] 25 (0,0)) fun r1=>
 T.call 13 [] (.one aB) fun (t2:Bool)=>
 T.load (.int .u8) ⟨r1,0,none⟩ fun (t3:Int)=>
 T.load (.int .u8) ⟨r1,1,none⟩ fun (t4:Int)=>
 T.load .slice ⟨r1,2,none⟩ fun (t5:Slc)=>
 T.load .slice ⟨r1,3,none⟩ fun (t6:Slc)=>
 T.load .slice ⟨r1,4,none⟩ fun (t7:Slc)=>
 T.load .slice ⟨r1,5,none⟩ fun (t8:Slc)=>
 T.load .slice ⟨r1,6,none⟩ fun (t9:Slc)=>
 T.call 14 [(.agg #[(.int .u8 t3),(.int .u8 t4),(sv t5),(sv t6),(sv t7),(sv t8),(sv t9)]),(.int .i64 (12:Int)),(.int .i64 (5:Int))] (.one aB) fun (t10:Bool)=>
 cond (!t10)
 (T.ret (.bool t2))
 (T.load (.int .u8) ⟨r1,0,none⟩ fun (t11:Int)=>
 T.load (.int .u8) ⟨r1,1,none⟩ fun (t12:Int)=>
 T.load .slice ⟨r1,2,none⟩ fun (t13:Slc)=>
 T.load .slice ⟨r1,3,none⟩ fun (t14:Slc)=>
 T.load .slice ⟨r1,4,none⟩ fun (t15:Slc)=>
 T.load .slice ⟨r1,5,none⟩ fun (t16:Slc)=>
 T.load .slice ⟨r1,6,none⟩ fun (t17:Slc)=>
 T.call 19 [(.agg #[(.int .u8 t11),(.int .u8 t12),(sv t13),(sv t14),(sv t15),(sv t16),(sv t17)])] (.tuple [(.agg [.slice, .slice, .slice, .slice, .slice, .slice]),aP,aP,aB]) fun (t18:(Slc×Slc×Slc×Slc×Slc×Slc×Unit)×(Option Addr)×(Option Addr)×Bool×Unit)=>
 T.new (.cells #[(.slice none 0 0),(.slice none 0 0),(.slice none 0 0),(.slice none 0 0),(.slice none 0 0),(.slice none 0 0)] 32 (0,0)) fun r19=>
 T.store ⟨r19,0,none⟩ (sv t18.1.1) <|
 T.store ⟨r19,1,none⟩ (sv t18.1.2.1) <|
 T.store ⟨r19,2,none⟩ (sv t18.1.2.2.1) <|
 T.store ⟨r19,3,none⟩ (sv t18.1.2.2.2.1) <|
 T.store ⟨r19,4,none⟩ (sv t18.1.2.2.2.2.1) <|
 T.store ⟨r19,5,none⟩ (sv t18.1.2.2.2.2.2.1) <|
 cond (!t18.2.2.2.1)
 (T.ret (.bool t2))
 (T.block 0 [aI,aB]
 (T.loop [aI,aB] [(.int .i64 (0:Int)),(.bool false)] fun (z21:Int×Bool×Unit)=>
 T.call 20 [(.pointer t18.2.1)] (.one aI) fun (t22:Int)=>
 cond (decide (z21.1<t22))
 (T.call 22 [(.pointer t18.2.2.1),(.int .i64 z21.1)] (.one aS) fun (t23:Slc)=>
 T.call 32 [(.pointer t18.2.1),(.int .i64 z21.1)] (.one aS) fun (t24:Slc)=>
 T.block 2 [aI,aI,aB]
 (T.loop [aI,aI,aB] [(.int .i64 (0:Int)),(.int .i64 (0:Int)),(.bool z21.2.1)] fun (z26:Int×Int×Bool×Unit)=>
 cond (decide (z26.1< ((t24.2.1:Nat):Int)))
 (T.join [aB]
 (deref t24.1 fun a28=>
 chk (0≤z26.1∧z26.1< (t24.2.1:Nat)) <|
 T.load (.int .i64) (a28.add (Int.toNat z26.1 * 2)) fun (t29:Int)=>
 cond (decide (t29≥ (0:Int)))
 (deref t24.1 fun a30=>
 chk (0≤z26.1∧z26.1< (t24.2.1:Nat)) <|
 T.load (.int .i64) (a30.add (Int.toNat z26.1 * 2)) fun (t31:Int)=>
 T.load .slice ⟨r19,2,none⟩ fun (t32:Slc)=>
 cond (decide (t31< ((t32.2.1:Nat):Int)))
 (deref t24.1 fun a33=>
 chk (0≤z26.1∧z26.1< (t24.2.1:Nat)) <|
 T.load (.int .i64) ((a33.add (Int.toNat z26.1 * 2)).add 1) fun (t34:Int)=>
 T.load .slice ⟨r19,2,none⟩ fun (t35:Slc)=>
 deref t24.1 fun a36=>
 chk (0≤z26.1∧z26.1< (t24.2.1:Nat)) <|
 T.load (.int .i64) (a36.add (Int.toNat z26.1 * 2)) fun (t37:Int)=>
 deref t35.1 fun a38=>
 chk (0≤t37∧t37< (t35.2.1:Nat)) <|
 T.load .slice ((a38.add (Int.toNat t37 * 3)).add 1) fun (t39:Slc)=>
 T.out [(.bool (t34==((t39.2.1:Nat):Int)))])
 (T.out [(.bool false)]))
 (T.out [(.bool false)])) fun (z27:Bool×Unit)=>
 T.join [aI,aB]
 (cond z27.1
 (T.join [aB]
 (cond (decide (z26.2.1≥ ((t23.2.1:Nat):Int)))
 (T.out [(.bool true)])
 (deref t23.1 fun a42=>
 chk (0≤z26.2.1∧z26.2.1< (t23.2.1:Nat)) <|
 T.load (.int .i64) (a42.add (Int.toNat z26.2.1 * 1)) fun (t43:Int)=>
 deref t24.1 fun a44=>
 chk (0≤z26.1∧z26.1< (t24.2.1:Nat)) <|
 T.load (.int .i64) (a44.add (Int.toNat z26.1 * 2)) fun (t45:Int)=>
 T.out [(.bool (t43 !=t45))])) fun (z41:Bool×Unit)=>
 cond z41.1
 (T.ret (.bool false))
 (T.out [(.int .i64 (wN z26.2.1)),(.bool z26.2.2.1)]))
 (T.out [(.int .i64 z26.2.1),(.bool z26.2.2.1)])) fun (z40:Int×Bool×Unit)=>
 T.out [(.int .i64 (wN z26.1)),(.int .i64 z40.1),(.bool z40.2.1)])
 (T.brk 2 [(.int .i64 z26.1),(.int .i64 z26.2.1),(.bool z26.2.2.1)])) fun (z25:Int×Int×Bool×Unit)=>
 cond (z25.2.1 !=((t23.2.1:Nat):Int))
 (T.ret (.bool false))
 (T.block 4 [aI,aB]
 (T.loop [aI,aB] [(.int .i64 (0:Int)),(.bool z25.2.2.1)] fun (z47:Int×Bool×Unit)=>
 T.load .slice ⟨r19,2,none⟩ fun (t48:Slc)=>
 cond (decide (z47.1< ((t48.2.1:Nat):Int)))
 (T.call 31 [(sv t23),(.int .i64 z47.1)] (.one aB) fun (t49:Bool)=>
 T.join [aB]
 (T.call 24 [(.pointer t18.2.2.1),(.int .i64 z21.1),(.int .i64 z47.1)] (.one aS) fun (t51:Slc)=>
 cond (!((decide (((t51.2.1:Nat):Int) >(0:Int)))==t49))
 (T.out [(.bool true)])
 (T.call 27 [(.pointer t18.2.2.1),(.int .i64 z21.1),(.int .i64 z47.1)] (.one aS) fun (t52:Slc)=>
 cond t49
 (T.out [(.bool (!((decide (((t52.2.1:Nat):Int) >(0:Int)))==(decide (z47.1>(0:Int))))))])
 (T.out [(.bool (!((decide (((t52.2.1:Nat):Int) >(0:Int)))==false)))]))) fun (z50:Bool×Unit)=>
 cond z50.1
 (T.ret (.bool false))
 (T.out [(.int .i64 (wN z47.1)),(.bool z47.2.1)]))
 (T.brk 4 [(.int .i64 z47.1),(.bool z47.2.1)])) fun (z46:Int×Bool×Unit)=>
 T.out [(.int .i64 (wN z21.1)),(.bool z46.2.1)]))
 (T.brk 0 [(.int .i64 z21.1),(.bool z21.2.1)])) fun (z20:Int×Bool×Unit)=>
 T.ret (.bool t2)))
theorem GL (small_0:Int×Int×Slc×Slc×Slc×Slc×Slc×Unit):Ab Tryz.prog Tryz.f5 [(.agg #[(.int .u8 small_0.1),(.int .u8 small_0.2.1),(sv small_0.2.2.1),(sv small_0.2.2.2.1),(sv small_0.2.2.2.2.1),(sv small_0.2.2.2.2.2.1),(sv small_0.2.2.2.2.2.2.1)])] =EF small_0:=by kernel_rfl
noncomputable def FM:T:=
 T.call 54 [] (.one (.agg [(.int .u8),(.int .u8), .slice, .slice, .slice, .slice, .slice])) fun (t1:Int×Int×Slc×Slc×Slc×Slc×Slc×Unit)=>
 T.call 19 [(.agg #[(.int .u8 t1.1),(.int .u8 t1.2.1),(sv t1.2.2.1),(sv t1.2.2.2.1),(sv t1.2.2.2.2.1),(sv t1.2.2.2.2.2.1),(sv t1.2.2.2.2.2.2.1)])] (.tuple [(.agg [.slice, .slice, .slice, .slice, .slice, .slice]),aP,aP,aB]) fun (t2:(Slc×Slc×Slc×Slc×Slc×Slc×Unit)×(Option Addr)×(Option Addr)×Bool×Unit)=>
 T.new (.cells #[(.slice none 0 0),(.slice none 0 0),(.slice none 0 0),(.slice none 0 0),(.slice none 0 0),(.slice none 0 0)] 32 (0,0)) fun r3=>
 T.store ⟨r3,0,none⟩ (sv t2.1.1) <|
 T.store ⟨r3,1,none⟩ (sv t2.1.2.1) <|
 T.store ⟨r3,2,none⟩ (sv t2.1.2.2.1) <|
 T.store ⟨r3,3,none⟩ (sv t2.1.2.2.2.1) <|
 T.store ⟨r3,4,none⟩ (sv t2.1.2.2.2.2.1) <|
 T.store ⟨r3,5,none⟩ (sv t2.1.2.2.2.2.2.1) <|
 T.join [aB]
 (cond (!t2.2.2.2.1)
 (T.out [(.bool true)])
 (T.load .slice ⟨r3,2,none⟩ fun (t5:Slc)=>
 T.out [(.bool (((t5.2.1:Nat):Int) !=(6:Int)))])) fun (z4:Bool×Unit)=>
 cond z4.1
 (T.ret (.bool false))
 (T.call 41 [(.pointer t2.2.1),(.int .i64 (0:Int)),(.int .i64 (5:Int))] (.one aI) fun (t6:Int)=>
 T.join [aB]
 (cond (decide (t6>(0:Int)))
 (T.call 22 [(.pointer t2.2.2.1),(.int .i64 t6)] (.one aS) fun (t8:Slc)=>
 T.new (.cells #[(.int .i64 (5:Int))] 3 (0,0)) fun r9=>
 T.call 21 [(sv t8),(.slice (some ⟨r9,0,none⟩) 1 1)] (.one aB) fun (t10:Bool)=>
 cond t10
 (T.call 24 [(.pointer t2.2.2.1),(.int .i64 t6),(.int .i64 (5:Int))] (.one aS) fun (t11:Slc)=>
 T.new (.cells #[(.int .i64 (0:Int))] 3 (0,0)) fun r12=>
 T.call 21 [(sv t11),(.slice (some ⟨r12,0,none⟩) 1 1)] (.one aB) fun (t13:Bool)=>
 cond t13
 (T.call 27 [(.pointer t2.2.2.1),(.int .i64 t6),(.int .i64 (5:Int))] (.one aS) fun (t14:Slc)=>
 T.out [(.bool (((t14.2.1:Nat):Int)==(1:Int)))])
 (T.out [(.bool false)]))
 (T.out [(.bool false)]))
 (T.out [(.bool false)])) fun (z7:Bool×Unit)=>
 T.ret (.bool z7.1))
theorem Hm:Ab Tryz.prog Tryz.f13 [] =FM:=by kernel_rfl
noncomputable def FZ (small_0:Int×Int×Slc×Slc×Slc×Slc×Slc×Unit):T:=
 T.new (.cells #[(.int .u8 small_0.1),(.int .u8 small_0.2.1),(sv small_0.2.2.1),(sv small_0.2.2.2.1),(sv small_0.2.2.2.2.1),(sv small_0.2.2.2.2.2.1),(sv small_0.2.2.2.2.2.2.1)] 25 (0,0)) fun r1=>
 T.new (.cells #[(.slice none 0 0),(.slice none 0 0),(.slice none 0 0),(.slice none 0 0),(.slice none 0 0),(.slice none 0 0)] 32 (0,0)) fun r2=>
 T.load (.int .u8) ⟨r1,0,none⟩ fun (t3:Int)=>
 T.load (.int .u8) ⟨r1,1,none⟩ fun (t4:Int)=>
 T.load .slice ⟨r1,2,none⟩ fun (t5:Slc)=>
 T.load .slice ⟨r1,3,none⟩ fun (t6:Slc)=>
 T.load .slice ⟨r1,4,none⟩ fun (t7:Slc)=>
 T.load .slice ⟨r1,5,none⟩ fun (t8:Slc)=>
 T.load .slice ⟨r1,6,none⟩ fun (t9:Slc)=>
 T.call 15 [(.agg #[(.int .u8 t3),(.int .u8 t4),(sv t5),(sv t6),(sv t7),(sv t8),(sv t9)])] (.one (.agg [.slice, .slice, .slice, .slice, .slice, .slice])) fun (t10:Slc×Slc×Slc×Slc×Slc×Slc×Unit)=>
 T.new (.cells #[(.slice none 0 0),(.slice none 0 0),(.slice none 0 0),(.slice none 0 0),(.slice none 0 0),(.slice none 0 0)] 32 (0,0)) fun r11=>
 T.store ⟨r11,0,none⟩ (sv t10.1) <|
 T.store ⟨r11,1,none⟩ (sv t10.2.1) <|
 T.store ⟨r11,2,none⟩ (sv t10.2.2.1) <|
 T.store ⟨r11,3,none⟩ (sv t10.2.2.2.1) <|
 T.store ⟨r11,4,none⟩ (sv t10.2.2.2.2.1) <|
 T.store ⟨r11,5,none⟩ (sv t10.2.2.2.2.2.1) <|
 T.load .slice ⟨r11,0,none⟩ fun (t12:Slc)=>
 T.load .slice ⟨r11,1,none⟩ fun (t13:Slc)=>
 T.load .slice ⟨r11,2,none⟩ fun (t14:Slc)=>
 T.load .slice ⟨r11,3,none⟩ fun (t15:Slc)=>
 T.load .slice ⟨r11,4,none⟩ fun (t16:Slc)=>
 T.load .slice ⟨r11,5,none⟩ fun (t17:Slc)=>
 T.call 16 [(.agg #[(sv t12),(sv t13),(sv t14),(sv t15),(sv t16),(sv t17)])] (.tuple [aI,aI]) fun (t18:Int×Int×Unit)=>
 cond (t18.2.1 !=(0:Int))
 (T.load .slice ⟨r11,0,none⟩ fun (t19:Slc)=>
 T.load .slice ⟨r11,1,none⟩ fun (t20:Slc)=>
 T.load .slice ⟨r11,2,none⟩ fun (t21:Slc)=>
 T.load .slice ⟨r11,3,none⟩ fun (t22:Slc)=>
 T.load .slice ⟨r11,4,none⟩ fun (t23:Slc)=>
 T.load .slice ⟨r11,5,none⟩ fun (t24:Slc)=>
 T.store ⟨r2,0,none⟩ (sv t19) <|
 T.store ⟨r2,1,none⟩ (sv t20) <|
 T.store ⟨r2,2,none⟩ (sv t21) <|
 T.store ⟨r2,3,none⟩ (sv t22) <|
 T.store ⟨r2,4,none⟩ (sv t23) <|
 T.store ⟨r2,5,none⟩ (sv t24) <|
 T.load .slice ⟨r2,0,none⟩ fun (res25:Slc)=>
 T.load .slice ⟨r2,1,none⟩ fun (res26:Slc)=>
 T.load .slice ⟨r2,2,none⟩ fun (res27:Slc)=>
 T.load .slice ⟨r2,3,none⟩ fun (res28:Slc)=>
 T.load .slice ⟨r2,4,none⟩ fun (res29:Slc)=>
 T.load .slice ⟨r2,5,none⟩ fun (res30:Slc)=>
 T.ret (.tuple #[(.agg #[(sv res25),(sv res26),(sv res27),(sv res28),(sv res29),(sv res30)]),(.pointer none),(.pointer none),(.bool false)]))
 (T.load .slice ⟨r11,0,none⟩ fun (t31:Slc)=>
 T.load .slice ⟨r11,1,none⟩ fun (t32:Slc)=>
 T.load .slice ⟨r11,2,none⟩ fun (t33:Slc)=>
 T.load .slice ⟨r11,3,none⟩ fun (t34:Slc)=>
 T.load .slice ⟨r11,4,none⟩ fun (t35:Slc)=>
 T.load .slice ⟨r11,5,none⟩ fun (t36:Slc)=>
 T.call 68 [(.agg #[(sv t31),(sv t32),(sv t33),(sv t34),(sv t35),(sv t36)]),(.int .i64 (300:Int)),(.int .i64 (9000:Int))] (.tuple [aP,aI]) fun (t37:(Option Addr)×Int×Unit)=>
 T.join [aB]
 (cond (Option.isNone t37.1)
 (T.out [(.bool true)])
 (T.call 20 [(.pointer t37.1)] (.one aI) fun (t39:Int)=>
 T.out [(.bool (t39==(0:Int)))])) fun (z38:Bool×Unit)=>
 cond z38.1
 (T.load .slice ⟨r11,0,none⟩ fun (t40:Slc)=>
 T.load .slice ⟨r11,1,none⟩ fun (t41:Slc)=>
 T.load .slice ⟨r11,2,none⟩ fun (t42:Slc)=>
 T.load .slice ⟨r11,3,none⟩ fun (t43:Slc)=>
 T.load .slice ⟨r11,4,none⟩ fun (t44:Slc)=>
 T.load .slice ⟨r11,5,none⟩ fun (t45:Slc)=>
 T.store ⟨r2,0,none⟩ (sv t40) <|
 T.store ⟨r2,1,none⟩ (sv t41) <|
 T.store ⟨r2,2,none⟩ (sv t42) <|
 T.store ⟨r2,3,none⟩ (sv t43) <|
 T.store ⟨r2,4,none⟩ (sv t44) <|
 T.store ⟨r2,5,none⟩ (sv t45) <|
 T.load .slice ⟨r2,0,none⟩ fun (res46:Slc)=>
 T.load .slice ⟨r2,1,none⟩ fun (res47:Slc)=>
 T.load .slice ⟨r2,2,none⟩ fun (res48:Slc)=>
 T.load .slice ⟨r2,3,none⟩ fun (res49:Slc)=>
 T.load .slice ⟨r2,4,none⟩ fun (res50:Slc)=>
 T.load .slice ⟨r2,5,none⟩ fun (res51:Slc)=>
 T.ret (.tuple #[(.agg #[(sv res46),(sv res47),(sv res48),(sv res49),(sv res50),(sv res51)]),(.pointer none),(.pointer none),(.bool false)]))
 (T.load .slice ⟨r11,0,none⟩ fun (t52:Slc)=>
 T.load .slice ⟨r11,1,none⟩ fun (t53:Slc)=>
 T.load .slice ⟨r11,2,none⟩ fun (t54:Slc)=>
 T.load .slice ⟨r11,3,none⟩ fun (t55:Slc)=>
 T.load .slice ⟨r11,4,none⟩ fun (t56:Slc)=>
 T.load .slice ⟨r11,5,none⟩ fun (t57:Slc)=>
 T.call 69 [(.agg #[(sv t52),(sv t53),(sv t54),(sv t55),(sv t56),(sv t57)]),(.pointer t37.1)] (.one aP) fun (t58:Option Addr)=>
 T.load .slice ⟨r11,0,none⟩ fun (t59:Slc)=>
 T.load .slice ⟨r11,1,none⟩ fun (t60:Slc)=>
 T.load .slice ⟨r11,2,none⟩ fun (t61:Slc)=>
 T.load .slice ⟨r11,3,none⟩ fun (t62:Slc)=>
 T.load .slice ⟨r11,4,none⟩ fun (t63:Slc)=>
 T.load .slice ⟨r11,5,none⟩ fun (t64:Slc)=>
 T.store ⟨r2,0,none⟩ (sv t59) <|
 T.store ⟨r2,1,none⟩ (sv t60) <|
 T.store ⟨r2,2,none⟩ (sv t61) <|
 T.store ⟨r2,3,none⟩ (sv t62) <|
 T.store ⟨r2,4,none⟩ (sv t63) <|
 T.store ⟨r2,5,none⟩ (sv t64) <|
 T.load .slice ⟨r2,0,none⟩ fun (res65:Slc)=>
 T.load .slice ⟨r2,1,none⟩ fun (res66:Slc)=>
 T.load .slice ⟨r2,2,none⟩ fun (res67:Slc)=>
 T.load .slice ⟨r2,3,none⟩ fun (res68:Slc)=>
 T.load .slice ⟨r2,4,none⟩ fun (res69:Slc)=>
 T.load .slice ⟨r2,5,none⟩ fun (res70:Slc)=>
 T.ret (.tuple #[(.agg #[(sv res65),(sv res66),(sv res67),(sv res68),(sv res69),(sv res70)]),(.pointer t37.1),(.pointer t58),(.bool (!(Option.isNone t58)))])))
theorem IF (small_0:Int×Int×Slc×Slc×Slc×Slc×Slc×Unit):Ab Tryz.prog Tryz.f19 [(.agg #[(.int .u8 small_0.1),(.int .u8 small_0.2.1),(sv small_0.2.2.1),(sv small_0.2.2.2.1),(sv small_0.2.2.2.2.1),(sv small_0.2.2.2.2.2.1),(sv small_0.2.2.2.2.2.2.1)])] =FZ small_0:=by kernel_rfl
noncomputable def FN:T:=
 T.new (.cells #[(.int .u8 (0:Int)),(.int .u8 (0:Int)),(.slice none 0 0),(.slice none 0 0),(.slice none 0 0),(.slice none 0 0),(.slice none 0 0)] 25 (0,0)) fun r1=>
 T.new (.cells #[(.int .u8 (0:Int)),(.int .u8 (0:Int)),(.int .u8 (1:Int)),(.int .u8 (1:Int)),(.int .u8 (2:Int))] 5 (0,0)) fun r2=>
 T.new (.cells #[(.int .u8 (4:Int)),(.int .u8 (0:Int)),(.int .u8 (5:Int))] 5 (0,0)) fun r3=>
 T.new (.cells #[(.int .u8 (5:Int))] 5 (0,0)) fun r4=>
 T.new (.cells #[(.int .u8 (1:Int)),(.int .u8 (5:Int))] 5 (0,0)) fun r5=>
 T.new (.cells #[(.int .u8 (2:Int))] 5 (0,0)) fun r6=>
 T.new (.cells #[(.int .u8 (4:Int))] 5 (0,0)) fun r7=>
 T.new (.cells #[(.slice (some ⟨r3,0,none⟩) 3 3),(.slice (some ⟨r4,0,none⟩) 1 1),(.slice (some ⟨r5,0,none⟩) 2 2),(.slice (some ⟨r6,0,none⟩) 1 1),(.slice (some ⟨r7,0,none⟩) 1 1)] 22 (0,0)) fun r8=>
 T.store ⟨r1,0,none⟩ (.int .u8 (2:Int)) <|
 T.store ⟨r1,1,none⟩ (.int .u8 (2:Int)) <|
 T.store ⟨r1,2,none⟩ (.slice (some ⟨r2,0,none⟩) 5 5) <|
 T.store ⟨r1,3,none⟩ (.slice (some ⟨r8,0,none⟩) 5 5) <|
 T.store ⟨r1,4,none⟩ (.slice none 0 0) <|
 T.store ⟨r1,5,none⟩ (.slice none 0 0) <|
 T.store ⟨r1,6,none⟩ (.slice none 0 0) <|
 T.load (.int .u8) ⟨r1,0,none⟩ fun (res9:Int)=>
 T.load (.int .u8) ⟨r1,1,none⟩ fun (res10:Int)=>
 T.load .slice ⟨r1,2,none⟩ fun (res11:Slc)=>
 T.load .slice ⟨r1,3,none⟩ fun (res12:Slc)=>
 T.load .slice ⟨r1,4,none⟩ fun (res13:Slc)=>
 T.load .slice ⟨r1,5,none⟩ fun (res14:Slc)=>
 T.load .slice ⟨r1,6,none⟩ fun (res15:Slc)=>
 T.ret (.agg #[(.int .u8 res9),(.int .u8 res10),(sv res11),(sv res12),(sv res13),(sv res14),(sv res15)])
theorem Hn:Ab Tryz.prog Tryz.f54 [] =FN:=by kernel_rfl
theorem PP:NA Tryz.prog 60 4 (.bool false):=⟨Tryz.underlying60,⟨Tryz.t4,by kernel_rfl,rfl,⟨_,rfl,rfl⟩,by decide⟩⟩
noncomputable def BD (p_0:Ax):Option Int:=
 some (IntKind.wrap .i64 ((IntKind.wrap .i64 ((((List.length p_0.1):Nat):Int) +(((List.length p_0.2.1):Nat):Int))) +(1:Int)))
theorem Bu {φ:AC} {h:AE} {F:List Chk} {p_0:Slc×Slc×Slc×Slc×Slc×Slc×Unit} {a:List ByteArray} {b:List ByteArray} {d:List BA} {e:List Int} {f:List Int} {g:List ByteArray} (i:Ro.SliceIs Ro.str φ p_0.1 a) (j:Ro.SliceIs Ro.str φ p_0.2.1 b) (n:Ro.SliceIs CA φ p_0.2.2.1 d) (o:Ro.SliceIs (Ro.int .i64) φ p_0.2.2.2.1 e) (p:Ro.SliceIs (Ro.int .i64) φ p_0.2.2.2.2.1 f) (q:Ro.SliceIs Ro.str φ p_0.2.2.2.2.2.1 g) (s0:St φ (F) h) {r:Int} (hd:BD (a,b,d,e,f,g)=some r):
 CallsH Tryz.prog 59 [(.agg #[(sv p_0.1),(sv p_0.2.1),(sv p_0.2.2.1),(sv p_0.2.2.2.1),(sv p_0.2.2.2.2.1),(sv p_0.2.2.2.2.2.1)])] h (Aq fun v h'=> ∃ψ:AC,∃y:Int,Sub φ ψ∧v=((.one aI):Sh).val y∧y=r∧St ψ (F) h'):=by
 refine AQ mixed Tryz.func59 ?_
 rw [Hl]
 unfold FL
 unfold BD at hd
 have k:p_0.1.2.1=List.length a:=i.length
 have l:p_0.2.1.2.1=List.length b:=j.length
 refine AU (vs:= [sv p_0.1,sv p_0.2.1,sv p_0.2.2.1,sv p_0.2.2.2.1,sv p_0.2.2.2.2.1,sv p_0.2.2.2.2.2.1]) s0 fun r1 s c=> ?_
 refine AA (x:=p_0.1) c rfl ?_
 refine AA (x:=p_0.2.1) c rfl ?_
 obtain rfl:=iS hd
 have m:=c.tail
 exact AB ⟨φ,(IntKind.wrap .i64 ((IntKind.wrap .i64 (((p_0.1.2.1:Nat):Int) +((p_0.2.1.2.1:Nat):Int))) +(1:Int))),(Sub.refl _),rfl,(by rw [k,l]),m⟩
noncomputable def CC (p_0:Ax):Option (List Bool):=
 (BD (p_0.1,p_0.2.1,p_0.2.2.1,p_0.2.2.2.1,p_0.2.2.2.2.1,p_0.2.2.2.2.2)).bind fun t8=>
 (E0 t8 false).bind fun t9=>
 (forS (σ:=List Bool) (0:Int) (((List.length p_0.1):Nat):Int) t9 fun i_z11 z11=>
  (Dm z11 i_z11 true).bind fun m57=>
  some m57).bind fun z10=>
 (loop (σ:=(Bool×List Bool)) (β:=List Bool) (true,z10) fun z15=>
  cond z15.1
  ((forS (σ:=(Bool×List Bool)) (0:Int) (((List.length p_0.2.2.1):Nat):Int) (false,z15.2) fun i_z17 z17=>
   (loop (σ:=(Int×Bool)) (β:=Bool) ((0:Int),true) fun z20=>
    (idx p_0.2.2.1 i_z17).bind fun e128=>
    cond (decide (z20.1< (((List.length e128.2.1):Nat):Int)))
    ((cond z20.2
     ((idx p_0.2.2.1 i_z17).bind fun e146=>
      (idx e146.2.1 z20.1).bind fun e156=>
      (idx z17.2 e156).bind fun e159=>
      some e159)
     (some false)).bind fun z24=>
     some (AW.next ((IntKind.wrap .i64 (z20.1+(1:Int))),z24)))
    (some (AW.done z20.2))).bind fun z19=>
   (cond z19
   ((idx p_0.2.2.1 i_z17).bind fun e189=>
    (idx z17.2 e189.1).bind fun e199=>
    some (!e199))
   (some false)).bind fun z32=>
   (cond z32
   ((idx p_0.2.2.1 i_z17).bind fun e220=>
    (Dm z17.2 e220.1 true).bind fun m240=>
    some (true,m240))
   (some (z17.1,z17.2))).bind fun z38=>
   some (z38.1,z38.2)).bind fun z16=>
   some (AW.next (z16.1,z16.2)))
  (some (AW.done z15.2))).bind fun z14=>
 some z14
theorem Ho {φ:AC} {h:AE} {F:List Chk} {p_0:Slc×Slc×Slc×Slc×Slc×Slc×Unit} {a1:List ByteArray} {aa:List ByteArray} {a2:List BA} {ab:List Int} {ac:List Int} {ad:List ByteArray} (ae:Ro.SliceIs Ro.str φ p_0.1 a1) (b5:Ro.SliceIs Ro.str φ p_0.2.1 aa) (k:Ro.SliceIs CA φ p_0.2.2.1 a2) (b6:Ro.SliceIs (Ro.int .i64) φ p_0.2.2.2.1 ab) (b7:Ro.SliceIs (Ro.int .i64) φ p_0.2.2.2.2.1 ac) (b8:Ro.SliceIs Ro.str φ p_0.2.2.2.2.2.1 ad) (s0:St φ (F) h) {r:(List Bool)} (hd:CC (a1,aa,a2,ab,ac,ad)=some r):
 CallsH Tryz.prog 57 [(.agg #[(sv p_0.1),(sv p_0.2.1),(sv p_0.2.2.1),(sv p_0.2.2.2.1),(sv p_0.2.2.2.2.1),(sv p_0.2.2.2.2.2.1)])] h (Aq fun v h'=> ∃ψ:AC,∃y:Slc,∃af:List Bool,Sub φ ψ∧v=((.one aS):Sh).val y∧af=r∧Ro.SliceIs Ro.bool ψ y af∧St ψ (F) h'):=by
 refine AQ mixed Tryz.func57 ?_
 rw [Hk]
 unfold FK
 unfold CC at hd
 have ag:p_0.1.2.1=List.length a1:=ae.length
 have ah:p_0.2.2.1.2.1=List.length a2:=k.length
 refine AU (vs:= [sv p_0.1,sv p_0.2.1,sv p_0.2.2.1,sv p_0.2.2.2.1,sv p_0.2.2.2.2.1,sv p_0.2.2.2.2.2.1]) s0 fun r1 ea j=> ?_
 refine AA (x:=p_0.1) j rfl ?_
 refine AA (x:=p_0.2.1) j rfl ?_
 refine AA (x:=p_0.2.2.1) j rfl ?_
 refine AA (x:=p_0.2.2.2.1) j rfl ?_
 refine AA (x:=p_0.2.2.2.2.1) j rfl ?_
 refine AA (x:=p_0.2.2.2.2.2.1) j rfl ?_
 obtain ⟨eb,b9,hd⟩:=bS hd
 refine AI (Bu (p_0:=(p_0.1,p_0.2.1,p_0.2.2.1,p_0.2.2.2.1,p_0.2.2.2.2.1,p_0.2.2.2.2.2.1,())) ae b5 k b6 b7 b8 j b9) ?_
 rintro _ ec ⟨a3,t8,m,rfl,rfl,ba⟩
 refine ⟨t8,rfl,?_⟩
 obtain ⟨bb,bc,hd⟩:=bS hd
 refine IW (r:=Ro.bool) (x:=false) PP ba rfl rfl bc ?_
 intro t9 ed bd
 obtain ⟨be,bf,hd⟩:=bS hd
 refine AV (fun (y:Int×Unit) w_ g=> ∃ψ:AC,∃ai:List Bool,Sub a3 ψ∧ai=g∧St ψ (cR 4 Ro.bool t9 ai::cW 32 r1 [sv p_0.1,sv p_0.2.1,sv p_0.2.2.1,sv p_0.2.2.2.1,sv p_0.2.2.2.2.1,sv p_0.2.2.2.2.2.1] ::F) w_) (g:=be) ?_ ?_
 ·refine BL bf (fun bg (y:Int×Unit) w_ g=> ∃ψ:AC,∃aj:List Bool,Sub a3 ψ∧y.1=bg∧aj=g∧St ψ (cR 4 Ro.bool t9 aj::cW 32 r1 [sv p_0.1,sv p_0.2.1,sv p_0.2.2.1,sv p_0.2.2.2.1,sv p_0.2.2.2.2.1,sv p_0.2.2.2.2.2.1] ::F) w_) ((0:Int),()) rfl ⟨a3,bb,(Sub.refl _),rfl,rfl,bd.at1.at1⟩ ?_ ?_
  ·rintro _ z11 ee _ _ ⟨bh,ef,bi,rfl,rfl,a4⟩ u bj ak al
   try dsimp only at u bj ak al
   refine AA (x:=p_0.1) a4.at1 rfl ?_
   refine Ag (dT ag ak) ?_
   obtain ⟨bk,am,u⟩:=bS u
   obtain ⟨eg,an,bl⟩:=a4.there am
   refine AF _ an (Ac bl (Ht a4 am rfl an ?_))
   intro eh bm
   obtain rfl:=iS u
   exact Af ((wN z11.1),()) _ rfl rfl ⟨bh,bk,bi,al,rfl,bm.at1.at1⟩
  ·rintro _ z11 ei ⟨bn,bo,bp,rfl,rfl,ao⟩ bq
   refine AA (x:=p_0.1) ao.at1 rfl ?_
   refine AY (dF ag bq) ?_
   exact AJ (AM (z11.1,()) rfl ⟨bn,bo,bp,rfl,ao.at1.at1⟩)
 rintro z10 ej ⟨a5,br,n,rfl,bs⟩
 try dsimp only at hd
 obtain ⟨bt,bu,hd⟩:=bS hd
 refine AV (fun (y:Bool×Unit) w_ g=> ∃ψ:AC,∃ap:List Bool,Sub a5 ψ∧ap=g∧St ψ (cR 4 Ro.bool t9 ap::cW 32 r1 [sv p_0.1,sv p_0.2.1,sv p_0.2.2.1,sv p_0.2.2.2.1,sv p_0.2.2.2.2.1,sv p_0.2.2.2.2.2.1] ::F) w_) (g:=bt) ?_ ?_
 ·refine EM bu (fun (y:Bool×Unit) w_ g=> ∃ψ:AC,∃aq:List Bool,Sub a5 ψ∧(y.1,aq)=g∧St ψ (cR 4 Ro.bool t9 aq::cW 32 r1 [sv p_0.1,sv p_0.2.1,sv p_0.2.2.1,sv p_0.2.2.2.1,sv p_0.2.2.2.2.1,sv p_0.2.2.2.2.2.1] ::F) w_) (true,()) rfl ⟨a5,br,(Sub.refl _),rfl,bs.at1.at1⟩ ?_
  ·rintro z15 ek _ _ ⟨w,ar,l,rfl,au⟩ d bv
   try dsimp only at d
   refine AK d rfl (fun _ d=> ?_) (fun _ d=> ?_)
   ·have bw:=au.at1
    obtain ⟨bx,bz,d⟩:=bS d
    refine AV (fun (y:Int×Bool×Unit) w_ g=> ∃ψ:AC,∃av:List Bool,Sub w ψ∧(y.2.1,av)=g∧St ψ (cR 4 Ro.bool t9 av::cW 32 r1 [sv p_0.1,sv p_0.2.1,sv p_0.2.2.1,sv p_0.2.2.2.1,sv p_0.2.2.2.2.1,sv p_0.2.2.2.2.2.1] ::F) w_) (g:=bx) ?_ ?_
    ·refine BL bz (fun c0 (y:Int×Bool×Unit) w_ g=> ∃ψ:AC,∃aw:List Bool,Sub w ψ∧y.1=c0∧(y.2.1,aw)=g∧St ψ (cR 4 Ro.bool t9 aw::cW 32 r1 [sv p_0.1,sv p_0.2.1,sv p_0.2.2.1,sv p_0.2.2.2.1,sv p_0.2.2.2.2.1,sv p_0.2.2.2.2.2.1] ::F) w_) ((0:Int),false,()) rfl ⟨w,ar,(Sub.refl _),rfl,rfl,bw.at1⟩ ?_ ?_
     ·rintro _ z17 el _ _ ⟨a6,o,p,rfl,rfl,ax⟩ a c1 ay az
      try dsimp only at a c1 ay az
      refine AA (x:=p_0.2.2.1) ax.at1 rfl ?_
      refine Ag (dT ah ay) ?_
      obtain ⟨c2,c3,a⟩:=bS a
      refine AV (fun (y:Int×Bool×Unit) w_ g=> ∃ψ:AC,Sub a6 ψ∧y.2.1=g∧St ψ (cR 4 Ro.bool t9 o::cW 32 r1 [sv p_0.1,sv p_0.2.1,sv p_0.2.2.1,sv p_0.2.2.2.1,sv p_0.2.2.2.2.1,sv p_0.2.2.2.2.2.1] ::F) w_) (g:=c2) ?_ ?_
      ·refine EM c3 (fun (y:Int×Bool×Unit) w_ g=> ∃ψ:AC,Sub a6 ψ∧(y.1,y.2.1)=g∧St ψ (cR 4 Ro.bool t9 o::cW 32 r1 [sv p_0.1,sv p_0.2.1,sv p_0.2.2.1,sv p_0.2.2.2.1,sv p_0.2.2.2.2.1,sv p_0.2.2.2.2.2.1] ::F) w_) ((0:Int),true,()) rfl ⟨a6,(Sub.refl _),rfl,ax.at1.at1⟩ ?_
       ·rintro z20 em _ _ ⟨z,a0,rfl,e⟩ b c4
        try dsimp only at b
        refine AA (x:=p_0.2.2.1) e.at1 rfl ?_
        obtain ⟨en,c5,b⟩:=bS b
        obtain ⟨eo,ep,c6,c7,c8,c9⟩:=(k.mono ((((m.trans n).trans l).trans p).trans a0)).get c5
        refine AF _ c6 (Ac c7 ?_)
        obtain ⟨_,_,rfl,ca,cb⟩:=c8
        obtain rfl:=ca
        obtain ⟨_,_,rfl,cc,cd⟩:=cb
        obtain ⟨ce,rfl,cf⟩:=cc
        have cg:=cf.length
        obtain rfl:=cd
        refine AH (x:=ce) (by rw [Ad]; exact (AD e.sub (c9 1 _ rfl))) rfl ?_
        refine AK b (by rw [cg] <;>rfl) (fun _ b=> ?_) (fun _ b=> ?_)
        ·obtain ⟨ch,c,b⟩:=bS b
         refine Ao (fun (y:Bool×Unit) w_ g=> ∃ψ:AC,Sub z ψ∧y.1=g∧St ψ (cR 4 Ro.bool t9 o::cW 32 r1 [sv p_0.1,sv p_0.2.1,sv p_0.2.2.1,sv p_0.2.2.2.1,sv p_0.2.2.2.2.1,sv p_0.2.2.2.2.2.1] ::F) w_) (g:=ch) ?_ ?_
         ·refine AK c rfl (fun _ c=> ?_) (fun _ c=> ?_)
          ·refine AA (x:=p_0.2.2.1) e.at1 rfl ?_
           obtain ⟨er,ci,c⟩:=bS c
           obtain ⟨es,eu,cj,ck,cl,cm⟩:=(k.mono ((((m.trans n).trans l).trans p).trans a0)).get ci
           refine AF _ cj (Ac ck ?_)
           obtain ⟨_,_,rfl,cn,co⟩:=cl
           obtain rfl:=cn
           obtain ⟨_,_,rfl,cp,cq⟩:=co
           obtain ⟨cr,rfl,cs⟩:=cp
           obtain rfl:=cq
           refine AH (x:=cr) (by rw [Ad]; exact (AD e.sub (cm 1 _ rfl))) rfl ?_
           obtain ⟨ev,ct,c⟩:=bS c
           refine DM cs ct e.sub ?_
           obtain ⟨cu,cv,c⟩:=bS c
           refine IX e cv ?_
           obtain rfl:=iS c
           exact AS (cu,()) rfl ⟨z,(Sub.refl _),rfl,e.at1.at1⟩
          obtain rfl:=iS c
          exact AS (false,()) rfl ⟨z,(Sub.refl _),rfl,e.at1.at1⟩
         rintro z24 ew ⟨cw,cx,rfl,cy⟩
         try dsimp only at b
         obtain rfl:=iS b
         exact Af ((wN z20.1),z24.1,()) _ rfl rfl ⟨cw,(a0.trans cx),rfl,cy.at1.at1⟩
        obtain rfl:=iS b
        obtain rfl:=c4 _ rfl
        exact AJ (AM (z20.1,z20.2.1,()) rfl ⟨z,a0,rfl,e.at1.at1⟩)
      rintro z19 ex ⟨a7,a8,rfl,q⟩
      try dsimp only at a
      obtain ⟨cz,f,a⟩:=bS a
      refine Ao (fun (y:Bool×Unit) w_ g=> ∃ψ:AC,Sub a7 ψ∧y.1=g∧St ψ (cR 4 Ro.bool t9 o::cW 32 r1 [sv p_0.1,sv p_0.2.1,sv p_0.2.2.1,sv p_0.2.2.2.1,sv p_0.2.2.2.2.1,sv p_0.2.2.2.2.2.1] ::F) w_) (g:=cz) ?_ ?_
      ·refine AK f rfl (fun _ f=> ?_) (fun _ f=> ?_)
       ·refine AA (x:=p_0.2.2.1) q.at1 rfl ?_
        obtain ⟨d0,d1,f⟩:=bS f
        obtain ⟨ey,ez,d2,d3,d4,d5⟩:=(k.mono ((((m.trans n).trans l).trans p).trans a8)).get d1
        refine AF _ d2 (Ac d3 ?_)
        obtain ⟨_,_,rfl,d6,d7⟩:=d4
        obtain rfl:=d6
        obtain ⟨_,_,rfl,d8,d9⟩:=d7
        obtain ⟨f0,rfl,f1⟩:=d8
        obtain rfl:=d9
        refine AH (x:=d0.1) (AD q.sub (d5 0 _ rfl)) rfl ?_
        obtain ⟨da,db,f⟩:=bS f
        refine IX q db ?_
        obtain rfl:=iS f
        exact AS ((!da),()) rfl ⟨a7,(Sub.refl _),rfl,q.at1.at1⟩
       obtain rfl:=iS f
       exact AS (false,()) rfl ⟨a7,(Sub.refl _),rfl,q.at1.at1⟩
      rintro z32 f2 ⟨a9,b0,rfl,s⟩
      try dsimp only at a
      obtain ⟨dc,i,a⟩:=bS a
      refine Ao (fun (y:Bool×Unit) w_ g=> ∃ψ:AC,∃b1:List Bool,Sub a9 ψ∧(y.1,b1)=g∧St ψ (cR 4 Ro.bool t9 b1::cW 32 r1 [sv p_0.1,sv p_0.2.1,sv p_0.2.2.1,sv p_0.2.2.2.1,sv p_0.2.2.2.2.1,sv p_0.2.2.2.2.2.1] ::F) w_) (g:=dc) ?_ ?_
      ·refine AK i rfl (fun _ i=> ?_) (fun _ i=> ?_)
       ·refine AA (x:=p_0.2.2.1) s.at1 rfl ?_
        obtain ⟨dd,de,i⟩:=bS i
        obtain ⟨f3,f4,df,dg,dh,di⟩:=(k.mono (((((m.trans n).trans l).trans p).trans a8).trans b0)).get de
        refine AF _ df (Ac dg ?_)
        obtain ⟨_,_,rfl,dj,dk⟩:=dh
        obtain rfl:=dj
        obtain ⟨_,_,rfl,dl,dm⟩:=dk
        obtain ⟨f5,rfl,f6⟩:=dl
        obtain rfl:=dm
        refine AH (x:=dd.1) (AD s.sub (di 0 _ rfl)) rfl ?_
        obtain ⟨dn,b2,i⟩:=bS i
        obtain ⟨f7,b3,dp⟩:=s.there b2
        refine AF _ b3 (Ac dp (Ht s b2 rfl b3 ?_))
        intro f8 dq
        obtain rfl:=iS i
        exact AS (true,()) rfl ⟨a9,dn,(Sub.refl _),rfl,dq.at1.at1⟩
       obtain rfl:=iS i
       exact AS (z17.2.1,()) rfl ⟨a9,o,(Sub.refl _),rfl,s.at1.at1⟩
      rintro z38 f9 ⟨dr,ds,dt,rfl,du⟩
      try dsimp only at a
      obtain rfl:=iS a
      exact Af ((wN z17.1),z38.1,()) _ rfl rfl ⟨dr,ds,(((p.trans a8).trans b0).trans dt),az,rfl,du.at1.at1⟩
     ·rintro _ z17 fa ⟨dv,dw,dx,rfl,rfl,b4⟩ dy
      refine AA (x:=p_0.2.2.1) b4.at1 rfl ?_
      refine AY (dF ah dy) ?_
      exact AJ (AM (z17.1,z17.2.1,()) rfl ⟨dv,dw,dx,rfl,b4.at1.at1⟩)
    rintro z16 fb ⟨dz,e0,e1,rfl,e2⟩
    try dsimp only at d
    obtain rfl:=iS d
    exact Af (z16.2.1,()) _ rfl rfl ⟨dz,e0,(l.trans e1),rfl,e2.at1.at1⟩
   obtain rfl:=iS d
   obtain rfl:=bv _ rfl
   exact AJ (AM (z15.1,()) rfl ⟨w,ar,l,rfl,au.at1.at1⟩)
 rintro z14 fc ⟨fd,e3,e4,rfl,e5⟩
 try dsimp only at hd
 obtain ⟨e6,e7,e8,e9⟩:=St.freezeRow (t:=t9) e5
 obtain rfl:=iS hd
 exact AB ⟨e6,t9,e3,(((m.trans n).trans e4).trans e7),rfl,rfl,e8,e9.tail⟩
noncomputable def CL (p_0:Ax):Option (List Bool):=
 (BD (p_0.1,p_0.2.1,p_0.2.2.1,p_0.2.2.2.1,p_0.2.2.2.2.1,p_0.2.2.2.2.2)).bind fun t8=>
 (E0 t8 false).bind fun t9=>
 (BD (p_0.1,p_0.2.1,p_0.2.2.1,p_0.2.2.2.1,p_0.2.2.2.2.1,p_0.2.2.2.2.2)).bind fun t16=>
 (Dm t9 (IntKind.wrap .i64 (t16 - (1:Int))) true).bind fun m45=>
 (loop (σ:=(Bool×List Bool)) (β:=List Bool) (true,m45) fun z19=>
  cond z19.1
  ((forS (σ:=(Bool×List Bool)) (0:Int) (((List.length p_0.2.2.1):Nat):Int) (false,z19.2) fun i_z21 z21=>
   (loop (σ:=(Int×Bool×List Bool)) (β:=(Bool×List Bool)) ((0:Int),z21.1,z21.2) fun z24=>
    (idx p_0.2.2.1 i_z21).bind fun e101=>
    cond (decide (z24.1< (((List.length e101.2.1):Nat):Int)))
    (((idx p_0.2.2.1 i_z21).bind fun e119=>
     (idx z24.2.2 e119.1).bind fun e129=>
     cond e129
     ((idx p_0.2.2.1 i_z21).bind fun e138=>
      (idx e138.2.1 z24.1).bind fun e148=>
      (idx z24.2.2 e148).bind fun e151=>
      some (!e151))
     (some false)).bind fun z28=>
     (cond z28
     ((idx p_0.2.2.1 i_z21).bind fun e172=>
      (idx e172.2.1 z24.1).bind fun e182=>
      (Dm z24.2.2 e182 true).bind fun m195=>
      some (true,m195))
     (some (z24.2.1,z24.2.2))).bind fun z41=>
     some (AW.next ((IntKind.wrap .i64 (z24.1+(1:Int))),z41.1,z41.2)))
    (some (AW.done (z24.2.1,z24.2.2)))).bind fun z23=>
   some (z23.1,z23.2)).bind fun z20=>
   some (AW.next (z20.1,z20.2)))
  (some (AW.done z19.2))).bind fun z18=>
 some z18
theorem IG {φ:AC} {h:AE} {F:List Chk} {p_0:Slc×Slc×Slc×Slc×Slc×Slc×Unit} {a3:List ByteArray} {a4:List ByteArray} {w:List BA} {a5:List Int} {a6:List Int} {a7:List ByteArray} (a8:Ro.SliceIs Ro.str φ p_0.1 a3) (a9:Ro.SliceIs Ro.str φ p_0.2.1 a4) (i:Ro.SliceIs CA φ p_0.2.2.1 w) (aa:Ro.SliceIs (Ro.int .i64) φ p_0.2.2.2.1 a5) (ab:Ro.SliceIs (Ro.int .i64) φ p_0.2.2.2.2.1 a6) (ac:Ro.SliceIs Ro.str φ p_0.2.2.2.2.2.1 a7) (s0:St φ (F) h) {r:(List Bool)} (hd:CL (a3,a4,w,a5,a6,a7)=some r):
 CallsH Tryz.prog 58 [(.agg #[(sv p_0.1),(sv p_0.2.1),(sv p_0.2.2.1),(sv p_0.2.2.2.1),(sv p_0.2.2.2.2.1),(sv p_0.2.2.2.2.2.1)])] h (Aq fun v h'=> ∃ψ:AC,∃y:Slc,∃ad:List Bool,Sub φ ψ∧v=((.one aS):Sh).val y∧ad=r∧Ro.SliceIs Ro.bool ψ y ad∧St ψ (F) h'):=by
 refine AQ mixed Tryz.func58 ?_
 rw [IE]
 unfold FY
 unfold CL at hd
 have ae:p_0.2.2.1.2.1=List.length w:=i.length
 refine AU (vs:= [sv p_0.1,sv p_0.2.1,sv p_0.2.2.1,sv p_0.2.2.2.1,sv p_0.2.2.2.2.1,sv p_0.2.2.2.2.2.1]) s0 fun r1 dq j=> ?_
 refine AA (x:=p_0.1) j rfl ?_
 refine AA (x:=p_0.2.1) j rfl ?_
 refine AA (x:=p_0.2.2.1) j rfl ?_
 refine AA (x:=p_0.2.2.2.1) j rfl ?_
 refine AA (x:=p_0.2.2.2.2.1) j rfl ?_
 refine AA (x:=p_0.2.2.2.2.2.1) j rfl ?_
 obtain ⟨dr,b0,hd⟩:=bS hd
 refine AI (Bu (p_0:=(p_0.1,p_0.2.1,p_0.2.2.1,p_0.2.2.2.1,p_0.2.2.2.2.1,p_0.2.2.2.2.2.1,())) a8 a9 i aa ab ac j b0) ?_
 rintro _ ds ⟨dt,t8,d,rfl,rfl,b1⟩
 refine ⟨t8,rfl,?_⟩
 obtain ⟨du,b2,hd⟩:=bS hd
 refine IW (r:=Ro.bool) (x:=false) PP b1 rfl rfl b2 ?_
 intro t9 dv k
 refine AA (x:=p_0.1) k.at1 rfl ?_
 refine AA (x:=p_0.2.1) k.at1 rfl ?_
 refine AA (x:=p_0.2.2.1) k.at1 rfl ?_
 refine AA (x:=p_0.2.2.2.1) k.at1 rfl ?_
 refine AA (x:=p_0.2.2.2.2.1) k.at1 rfl ?_
 refine AA (x:=p_0.2.2.2.2.2.1) k.at1 rfl ?_
 obtain ⟨dw,b3,hd⟩:=bS hd
 refine AI (Bu (p_0:=(p_0.1,p_0.2.1,p_0.2.2.1,p_0.2.2.2.1,p_0.2.2.2.2.1,p_0.2.2.2.2.2.1,())) (a8.mono d) (a9.mono d) (i.mono d) (aa.mono d) (ab.mono d) (ac.mono d) k b3) ?_
 rintro _ dx ⟨z,t16,o,rfl,rfl,af⟩
 refine ⟨t16,rfl,?_⟩
 obtain ⟨b4,ag,hd⟩:=bS hd
 obtain ⟨dy,ah,b5⟩:=af.there ag
 refine AF _ ah (Ac b5 (Ht af ag rfl ah ?_))
 intro dz b6
 obtain ⟨b7,b8,hd⟩:=bS hd
 refine AV (fun (y:Bool×Unit) w_ g=> ∃ψ:AC,∃ai:List Bool,Sub z ψ∧ai=g∧St ψ (cR 4 Ro.bool t9 ai::cW 32 r1 [sv p_0.1,sv p_0.2.1,sv p_0.2.2.1,sv p_0.2.2.2.1,sv p_0.2.2.2.2.1,sv p_0.2.2.2.2.2.1] ::F) w_) (g:=b7) ?_ ?_
 ·refine EM b8 (fun (y:Bool×Unit) w_ g=> ∃ψ:AC,∃aj:List Bool,Sub z ψ∧(y.1,aj)=g∧St ψ (cR 4 Ro.bool t9 aj::cW 32 r1 [sv p_0.1,sv p_0.2.1,sv p_0.2.2.1,sv p_0.2.2.2.1,sv p_0.2.2.2.2.1,sv p_0.2.2.2.2.2.1] ::F) w_) (true,()) rfl ⟨z,b4,(Sub.refl _),rfl,b6.at1.at1⟩ ?_
  ·rintro z19 e0 _ _ ⟨s,ak,l,rfl,al⟩ f b9
   try dsimp only at f
   refine AK f rfl (fun _ f=> ?_) (fun _ f=> ?_)
   ·have ba:=al.at1
    obtain ⟨bb,bc,f⟩:=bS f
    refine AV (fun (y:Int×Bool×Unit) w_ g=> ∃ψ:AC,∃am:List Bool,Sub s ψ∧(y.2.1,am)=g∧St ψ (cR 4 Ro.bool t9 am::cW 32 r1 [sv p_0.1,sv p_0.2.1,sv p_0.2.2.1,sv p_0.2.2.2.1,sv p_0.2.2.2.2.1,sv p_0.2.2.2.2.2.1] ::F) w_) (g:=bb) ?_ ?_
    ·refine BL bc (fun bd (y:Int×Bool×Unit) w_ g=> ∃ψ:AC,∃an:List Bool,Sub s ψ∧y.1=bd∧(y.2.1,an)=g∧St ψ (cR 4 Ro.bool t9 an::cW 32 r1 [sv p_0.1,sv p_0.2.1,sv p_0.2.2.1,sv p_0.2.2.2.1,sv p_0.2.2.2.2.1,sv p_0.2.2.2.2.2.1] ::F) w_) ((0:Int),false,()) rfl ⟨s,ak,(Sub.refl _),rfl,rfl,ba.at1⟩ ?_ ?_
     ·rintro _ z21 e1 _ _ ⟨a0,be,p,rfl,rfl,ao⟩ q bf ap aq
      try dsimp only at q bf ap aq
      refine AA (x:=p_0.2.2.1) ao.at1 rfl ?_
      refine Ag (dT ae ap) ?_
      obtain ⟨bg,bh,q⟩:=bS q
      refine AV (fun (y:Int×Bool×Unit) w_ g=> ∃ψ:AC,∃ar:List Bool,Sub a0 ψ∧(y.2.1,ar)=g∧St ψ (cR 4 Ro.bool t9 ar::cW 32 r1 [sv p_0.1,sv p_0.2.1,sv p_0.2.2.1,sv p_0.2.2.2.1,sv p_0.2.2.2.2.1,sv p_0.2.2.2.2.2.1] ::F) w_) (g:=bg) ?_ ?_
      ·refine EM bh (fun (y:Int×Bool×Unit) w_ g=> ∃ψ:AC,∃au:List Bool,Sub a0 ψ∧(y.1,y.2.1,au)=g∧St ψ (cR 4 Ro.bool t9 au::cW 32 r1 [sv p_0.1,sv p_0.2.1,sv p_0.2.2.1,sv p_0.2.2.2.1,sv p_0.2.2.2.2.1,sv p_0.2.2.2.2.2.1] ::F) w_) ((0:Int),z21.2.1,()) rfl ⟨a0,be,(Sub.refl _),rfl,ao.at1.at1⟩ ?_
       ·rintro z24 e2 _ _ ⟨u,a1,m,rfl,c⟩ b bi
        try dsimp only at b
        refine AA (x:=p_0.2.2.1) c.at1 rfl ?_
        obtain ⟨e3,bj,b⟩:=bS b
        obtain ⟨e4,e5,bk,bl,bm,bn⟩:=(i.mono ((((d.trans o).trans l).trans p).trans m)).get bj
        refine AF _ bk (Ac bl ?_)
        obtain ⟨_,_,rfl,bo,bp⟩:=bm
        obtain rfl:=bo
        obtain ⟨_,_,rfl,bq,br⟩:=bp
        obtain ⟨bs,rfl,bt⟩:=bq
        have bu:=bt.length
        obtain rfl:=br
        refine AH (x:=bs) (by rw [Ad]; exact (AD c.sub (bn 1 _ rfl))) rfl ?_
        refine AK b (by rw [bu] <;>rfl) (fun _ b=> ?_) (fun _ b=> ?_)
        ·obtain ⟨bv,a,b⟩:=bS b
         refine Ao (fun (y:Bool×Unit) w_ g=> ∃ψ:AC,Sub u ψ∧y.1=g∧St ψ (cR 4 Ro.bool t9 a1::cW 32 r1 [sv p_0.1,sv p_0.2.1,sv p_0.2.2.1,sv p_0.2.2.2.1,sv p_0.2.2.2.2.1,sv p_0.2.2.2.2.2.1] ::F) w_) (g:=bv) ?_ ?_
         ·refine AA (x:=p_0.2.2.1) c.at1 rfl ?_
          obtain ⟨bw,bx,a⟩:=bS a
          obtain ⟨e6,e7,bz,c0,c1,c2⟩:=(i.mono ((((d.trans o).trans l).trans p).trans m)).get bx
          refine AF _ bz (Ac c0 ?_)
          obtain ⟨_,_,rfl,c3,c4⟩:=c1
          obtain rfl:=c3
          obtain ⟨_,_,rfl,c5,c6⟩:=c4
          obtain ⟨e8,rfl,e9⟩:=c5
          obtain rfl:=c6
          refine AH (x:=bw.1) (AD c.sub (c2 0 _ rfl)) rfl ?_
          obtain ⟨ea,c7,a⟩:=bS a
          refine IX c c7 ?_
          refine AK a rfl (fun _ a=> ?_) (fun _ a=> ?_)
          ·refine AA (x:=p_0.2.2.1) c.at1 rfl ?_
           obtain ⟨eb,c8,a⟩:=bS a
           obtain ⟨ec,ed,c9,ca,cb,cc⟩:=(i.mono ((((d.trans o).trans l).trans p).trans m)).get c8
           refine AF _ c9 (Ac ca ?_)
           obtain ⟨_,_,rfl,cd,ce⟩:=cb
           obtain rfl:=cd
           obtain ⟨_,_,rfl,cf,cg⟩:=ce
           obtain ⟨ch,rfl,ci⟩:=cf
           obtain rfl:=cg
           refine AH (x:=ch) (by rw [Ad]; exact (AD c.sub (cc 1 _ rfl))) rfl ?_
           obtain ⟨ee,cj,a⟩:=bS a
           refine DM ci cj c.sub ?_
           obtain ⟨ck,cl,a⟩:=bS a
           refine IX c cl ?_
           obtain rfl:=iS a
           exact AS ((!ck),()) rfl ⟨u,(Sub.refl _),rfl,c.at1.at1⟩
          obtain rfl:=iS a
          exact AS (false,()) rfl ⟨u,(Sub.refl _),rfl,c.at1.at1⟩
         rintro z28 ef ⟨a2,av,rfl,n⟩
         try dsimp only at b
         obtain ⟨cm,e,b⟩:=bS b
         refine Ao (fun (y:Bool×Unit) w_ g=> ∃ψ:AC,∃aw:List Bool,Sub a2 ψ∧(y.1,aw)=g∧St ψ (cR 4 Ro.bool t9 aw::cW 32 r1 [sv p_0.1,sv p_0.2.1,sv p_0.2.2.1,sv p_0.2.2.2.1,sv p_0.2.2.2.2.1,sv p_0.2.2.2.2.2.1] ::F) w_) (g:=cm) ?_ ?_
         ·refine AK e rfl (fun _ e=> ?_) (fun _ e=> ?_)
          ·refine AA (x:=p_0.2.2.1) n.at1 rfl ?_
           obtain ⟨eg,cn,e⟩:=bS e
           obtain ⟨eh,ei,co,cp,cq,cr⟩:=(i.mono (((((d.trans o).trans l).trans p).trans m).trans av)).get cn
           refine AF _ co (Ac cp ?_)
           obtain ⟨_,_,rfl,cs,ct⟩:=cq
           obtain rfl:=cs
           obtain ⟨_,_,rfl,cu,cv⟩:=ct
           obtain ⟨cw,rfl,cx⟩:=cu
           obtain rfl:=cv
           refine AH (x:=cw) (by rw [Ad]; exact (AD n.sub (cr 1 _ rfl))) rfl ?_
           obtain ⟨ej,cy,e⟩:=bS e
           refine DM cx cy n.sub ?_
           obtain ⟨cz,ax,e⟩:=bS e
           obtain ⟨ek,ay,d0⟩:=n.there ax
           refine AF _ ay (Ac d0 (Ht n ax rfl ay ?_))
           intro el d1
           obtain rfl:=iS e
           exact AS (true,()) rfl ⟨a2,cz,(Sub.refl _),rfl,d1.at1.at1⟩
          obtain rfl:=iS e
          exact AS (z24.2.1,()) rfl ⟨a2,a1,(Sub.refl _),rfl,n.at1.at1⟩
         rintro z41 em ⟨d2,d3,d4,rfl,d5⟩
         try dsimp only at b
         obtain rfl:=iS b
         exact Af ((wN z24.1),z41.1,()) _ rfl rfl ⟨d2,d3,((m.trans av).trans d4),rfl,d5.at1.at1⟩
        obtain rfl:=iS b
        obtain rfl:=bi _ rfl
        exact AJ (AM (z24.1,z24.2.1,()) rfl ⟨u,a1,m,rfl,c.at1.at1⟩)
      rintro z23 en ⟨d6,d7,d8,rfl,d9⟩
      try dsimp only at q
      obtain rfl:=iS q
      exact Af ((wN z21.1),z23.2.1,()) _ rfl rfl ⟨d6,d7,(p.trans d8),aq,rfl,d9.at1.at1⟩
     ·rintro _ z21 eo ⟨da,db,dc,rfl,rfl,az⟩ dd
      refine AA (x:=p_0.2.2.1) az.at1 rfl ?_
      refine AY (dF ae dd) ?_
      exact AJ (AM (z21.1,z21.2.1,()) rfl ⟨da,db,dc,rfl,az.at1.at1⟩)
    rintro z20 ep ⟨de,df,dg,rfl,dh⟩
    try dsimp only at f
    obtain rfl:=iS f
    exact Af (z20.2.1,()) _ rfl rfl ⟨de,df,(l.trans dg),rfl,dh.at1.at1⟩
   obtain rfl:=iS f
   obtain rfl:=b9 _ rfl
   exact AJ (AM (z19.1,()) rfl ⟨s,ak,l,rfl,al.at1.at1⟩)
 rintro z18 er ⟨es,di,dj,rfl,dk⟩
 try dsimp only at hd
 obtain ⟨dl,dm,dn,dp⟩:=St.freezeRow (t:=t9) dk
 obtain rfl:=iS hd
 exact AB ⟨dl,t9,di,(((d.trans o).trans dj).trans dm),rfl,rfl,dn,dp.tail⟩
noncomputable def CD (p_0:Ax):Option (Int×Int):=
 (CC (p_0.1,p_0.2.1,p_0.2.2.1,p_0.2.2.2.1,p_0.2.2.2.2.1,p_0.2.2.2.2.2)).bind fun t8=>
 (CL (p_0.1,p_0.2.1,p_0.2.2.1,p_0.2.2.2.1,p_0.2.2.2.2.1,p_0.2.2.2.2.2)).bind fun t15=>
 (loop (σ:=Int) (β:=AW Unit (Int×Int)) (((List.length p_0.1):Nat):Int) fun z18=>
  (BD (p_0.1,p_0.2.1,p_0.2.2.1,p_0.2.2.2.1,p_0.2.2.2.2.1,p_0.2.2.2.2.2)).bind fun t25=>
  cond (decide (z18< (IntKind.wrap .i64 (t25 - (1:Int)))))
  ((idx t8 z18).bind fun e49=>
   cond (!e49)
   (some (AW.done (AW.done (z18,(18:Int)))))
   (some (AW.next (IntKind.wrap .i64 (z18+(1:Int))))))
  (some (AW.done (AW.next ())))).bind fun e_z17=>match e_z17 with
 | .next z17=>
  (loop (σ:=Int) (β:=AW Unit (Int×Int)) (((List.length p_0.1):Nat):Int) fun z30=>
   (BD (p_0.1,p_0.2.1,p_0.2.2.1,p_0.2.2.2.1,p_0.2.2.2.2.1,p_0.2.2.2.2.2)).bind fun t37=>
   cond (decide (z30< (IntKind.wrap .i64 (t37 - (1:Int)))))
   ((idx t15 z30).bind fun e74=>
    cond (!e74)
    (some (AW.done (AW.done (z30,(17:Int)))))
    (some (AW.next (IntKind.wrap .i64 (z30+(1:Int))))))
   (some (AW.done (AW.next ())))).bind fun e_z29=>match e_z29 with
  | .next z29=>
   some ((0:Int),(0:Int))
  | .done q84=>some q84
 | .done q85=>some q85
theorem Hp {φ:AC} {h:AE} {F:List Chk} {p_0:Slc×Slc×Slc×Slc×Slc×Slc×Unit} {a1:List ByteArray} {a6:List ByteArray} {a7:List BA} {a8:List Int} {a9:List Int} {aa:List ByteArray} (n:Ro.SliceIs Ro.str φ p_0.1 a1) (o:Ro.SliceIs Ro.str φ p_0.2.1 a6) (p:Ro.SliceIs CA φ p_0.2.2.1 a7) (q:Ro.SliceIs (Ro.int .i64) φ p_0.2.2.2.1 a8) (s:Ro.SliceIs (Ro.int .i64) φ p_0.2.2.2.2.1 a9) (t:Ro.SliceIs Ro.str φ p_0.2.2.2.2.2.1 aa) (s0:St φ (F) h) {r:(Int×Int)} (hd:CD (a1,a6,a7,a8,a9,aa)=some r):
 CallsH Tryz.prog 16 [(.agg #[(sv p_0.1),(sv p_0.2.1),(sv p_0.2.2.1),(sv p_0.2.2.2.1),(sv p_0.2.2.2.2.1),(sv p_0.2.2.2.2.2.1)])] h (Aq fun v h'=> ∃ψ:AC,∃y:Int×Int×Unit,Sub φ ψ∧v=((.tuple [aI,aI]):Sh).val y∧(y.1,y.2.1)=r∧St ψ (F) h'):=by
 refine AQ mixed Tryz.func16 ?_
 rw [Hi]
 unfold FJ
 unfold CD at hd
 have ab:p_0.1.2.1=List.length a1:=n.length
 refine AU (vs:= [sv p_0.1,sv p_0.2.1,sv p_0.2.2.1,sv p_0.2.2.2.1,sv p_0.2.2.2.2.1,sv p_0.2.2.2.2.2.1]) s0 fun r1 ax j=> ?_
 refine AA (x:=p_0.1) j rfl ?_
 refine AA (x:=p_0.2.1) j rfl ?_
 refine AA (x:=p_0.2.2.1) j rfl ?_
 refine AA (x:=p_0.2.2.2.1) j rfl ?_
 refine AA (x:=p_0.2.2.2.2.1) j rfl ?_
 refine AA (x:=p_0.2.2.2.2.2.1) j rfl ?_
 obtain ⟨ay,ag,hd⟩:=bS hd
 refine AI (Ho (p_0:=(p_0.1,p_0.2.1,p_0.2.2.1,p_0.2.2.2.1,p_0.2.2.2.2.1,p_0.2.2.2.2.2.1,())) n o p q s t j ag) ?_
 rintro _ az ⟨b0,t8,b1,a,rfl,rfl,ah,k⟩
 refine ⟨t8,rfl,?_⟩
 refine AA (x:=p_0.1) k rfl ?_
 refine AA (x:=p_0.2.1) k rfl ?_
 refine AA (x:=p_0.2.2.1) k rfl ?_
 refine AA (x:=p_0.2.2.2.1) k rfl ?_
 refine AA (x:=p_0.2.2.2.2.1) k rfl ?_
 refine AA (x:=p_0.2.2.2.2.2.1) k rfl ?_
 obtain ⟨b2,ai,hd⟩:=bS hd
 refine AI (IG (p_0:=(p_0.1,p_0.2.1,p_0.2.2.1,p_0.2.2.2.1,p_0.2.2.2.2.1,p_0.2.2.2.2.2.1,())) (n.mono a) (o.mono a) (p.mono a) (q.mono a) (s.mono a) (t.mono a) k ai) ?_
 rintro _ b3 ⟨a2,t15,b4,b,rfl,rfl,aj,ac⟩
 refine ⟨t15,rfl,?_⟩
 refine AA (x:=p_0.1) ac rfl ?_
 obtain ⟨ak,al,hd⟩:=bS hd
 refine AV (fun (y:Int×Int×Int×Unit) w_ g=> ∃ψ:AC,Sub a2 ψ∧AW.next ()=g∧St ψ (cW 32 r1 [sv p_0.1,sv p_0.2.1,sv p_0.2.2.1,sv p_0.2.2.2.1,sv p_0.2.2.2.2.1,sv p_0.2.2.2.2.2.1] ::F) w_) (g:=ak) ?_ ?_
 ·refine EM al (fun (y:Int×Int×Int×Unit) w_ g=> ∃ψ:AC,Sub a2 ψ∧y.1=g∧St ψ (cW 32 r1 [sv p_0.1,sv p_0.2.1,sv p_0.2.2.1,sv p_0.2.2.2.1,sv p_0.2.2.2.2.1,sv p_0.2.2.2.2.2.1] ::F) w_) (((p_0.1.2.1:Nat):Int),(0:Int),(0:Int),()) rfl ⟨a2,(Sub.refl _),(by rw [ab]),ac⟩ ?_
  ·rintro z18 b5 _ _ ⟨b6,e,rfl,l⟩ c ad
   try dsimp only at c
   refine AA (x:=p_0.1) l rfl ?_
   refine AA (x:=p_0.2.1) l rfl ?_
   refine AA (x:=p_0.2.2.1) l rfl ?_
   refine AA (x:=p_0.2.2.2.1) l rfl ?_
   refine AA (x:=p_0.2.2.2.2.1) l rfl ?_
   refine AA (x:=p_0.2.2.2.2.2.1) l rfl ?_
   obtain ⟨b7,am,c⟩:=bS c
   refine AI (Bu (p_0:=(p_0.1,p_0.2.1,p_0.2.2.1,p_0.2.2.2.1,p_0.2.2.2.2.1,p_0.2.2.2.2.2.1,())) (n.mono ((a.trans b).trans e)) (o.mono ((a.trans b).trans e)) (p.mono ((a.trans b).trans e)) (q.mono ((a.trans b).trans e)) (s.mono ((a.trans b).trans e)) (t.mono ((a.trans b).trans e)) l am) ?_
   rintro _ b8 ⟨a3,t25,u,rfl,rfl,w⟩
   refine ⟨t25,rfl,?_⟩
   refine AK c rfl (fun _ c=> ?_) (fun _ c=> ?_)
   ·obtain ⟨b9,an,c⟩:=bS c
    refine DM ah an (Sub.trans ((b.trans e).trans u) w.sub) ?_
    refine AK c rfl (fun _ c=> ?_) (fun _ c=> ?_)
    ·obtain rfl:=iS c
     obtain rfl:=ad _ rfl
     try dsimp only at hd
     obtain rfl:=iS hd
     exact Ah (An (AB ⟨a3,(z18.1,(18:Int),()),(((a.trans b).trans e).trans u),rfl,rfl,w.tail⟩))
    obtain rfl:=iS c
    exact Af ((wN z18.1),z18.2.1,z18.2.2.1,()) _ rfl rfl ⟨a3,(e.trans u),rfl,w⟩
   obtain rfl:=iS c
   obtain rfl:=ad _ rfl
   exact AJ (AM (z18.1,z18.2.1,z18.2.2.1,()) rfl ⟨a3,(e.trans u),rfl,w⟩)
 rintro z17 ba ⟨a4,i,rfl,ae⟩
 try dsimp only at hd
 refine AA (x:=p_0.1) ae rfl ?_
 obtain ⟨ao,ap,hd⟩:=bS hd
 refine AV (fun (y:Int×Int×Int×Unit) w_ g=> ∃ψ:AC,Sub a4 ψ∧AW.next ()=g∧St ψ (cW 32 r1 [sv p_0.1,sv p_0.2.1,sv p_0.2.2.1,sv p_0.2.2.2.1,sv p_0.2.2.2.2.1,sv p_0.2.2.2.2.2.1] ::F) w_) (g:=ao) ?_ ?_
 ·refine EM ap (fun (y:Int×Int×Int×Unit) w_ g=> ∃ψ:AC,Sub a4 ψ∧y.1=g∧St ψ (cW 32 r1 [sv p_0.1,sv p_0.2.1,sv p_0.2.2.1,sv p_0.2.2.2.1,sv p_0.2.2.2.2.1,sv p_0.2.2.2.2.2.1] ::F) w_) (((p_0.1.2.1:Nat):Int),z17.2.1,z17.2.2.1,()) rfl ⟨a4,(Sub.refl _),(by rw [ab]),ae⟩ ?_
  ·rintro z30 bb _ _ ⟨bc,f,rfl,m⟩ d af
   try dsimp only at d
   refine AA (x:=p_0.1) m rfl ?_
   refine AA (x:=p_0.2.1) m rfl ?_
   refine AA (x:=p_0.2.2.1) m rfl ?_
   refine AA (x:=p_0.2.2.2.1) m rfl ?_
   refine AA (x:=p_0.2.2.2.2.1) m rfl ?_
   refine AA (x:=p_0.2.2.2.2.2.1) m rfl ?_
   obtain ⟨bd,aq,d⟩:=bS d
   refine AI (Bu (p_0:=(p_0.1,p_0.2.1,p_0.2.2.1,p_0.2.2.2.1,p_0.2.2.2.2.1,p_0.2.2.2.2.2.1,())) (n.mono (((a.trans b).trans i).trans f)) (o.mono (((a.trans b).trans i).trans f)) (p.mono (((a.trans b).trans i).trans f)) (q.mono (((a.trans b).trans i).trans f)) (s.mono (((a.trans b).trans i).trans f)) (t.mono (((a.trans b).trans i).trans f)) m aq) ?_
   rintro _ be ⟨a5,t37,z,rfl,rfl,a0⟩
   refine ⟨t37,rfl,?_⟩
   refine AK d rfl (fun _ d=> ?_) (fun _ d=> ?_)
   ·obtain ⟨bf,ar,d⟩:=bS d
    refine DM aj ar (Sub.trans ((i.trans f).trans z) a0.sub) ?_
    refine AK d rfl (fun _ d=> ?_) (fun _ d=> ?_)
    ·obtain rfl:=iS d
     obtain rfl:=af _ rfl
     try dsimp only at hd
     obtain rfl:=iS hd
     exact Ah (An (AB ⟨a5,(z30.1,(17:Int),()),((((a.trans b).trans i).trans f).trans z),rfl,rfl,a0.tail⟩))
    obtain rfl:=iS d
    exact Af ((wN z30.1),z30.2.1,z30.2.2.1,()) _ rfl rfl ⟨a5,(f.trans z),rfl,a0⟩
   obtain rfl:=iS d
   obtain rfl:=af _ rfl
   exact AJ (AM (z30.1,z30.2.1,z30.2.2.1,()) rfl ⟨a5,(f.trans z),rfl,a0⟩)
 rintro z29 bg ⟨au,av,rfl,aw⟩
 try dsimp only at hd
 obtain rfl:=iS hd
 exact AB ⟨au,((0:Int),(0:Int),()),(((a.trans b).trans i).trans av),rfl,rfl,aw.tail⟩
noncomputable def Cr (a_0:List Int) (b_1:List Int):Option Bool:=
 cond ((((List.length a_0):Nat):Int) !=(((List.length b_1):Nat):Int))
 (some false)
 ((Cv (σ:=Unit) (β:=Bool) (0:Int) (((List.length a_0):Nat):Int) () fun i_z2 z2=>
  (idx a_0 i_z2).bind fun e19=>
  (idx b_1 i_z2).bind fun e22=>
  cond (e19 !=e22)
  (some (AW.done false))
  (some (AW.next ()))).bind fun e_z1=>match e_z1 with
  | .next z1=>
   some true
  | .done q35=>some q35)
theorem Ek {φ:AC} {h:AE} {F:List Chk} {a_0:Slc} {d:List Int} {b_1:Slc} {e:List Int} (i:Ro.SliceIs (Ro.int .i64) φ a_0 d) (j:Ro.SliceIs (Ro.int .i64) φ b_1 e) (s0:St φ (F) h) {r:Bool} (hd:Cr d e=some r):
 CallsH Tryz.prog 21 [(sv a_0),(sv b_1)] h (Aq fun v h'=> ∃ψ:AC,∃y:Bool,Sub φ ψ∧v=((.one aB):Sh).val y∧y=r∧St ψ (F) h'):=by
 refine AQ mixed Tryz.func21 ?_
 rw [ID]
 unfold FX
 unfold Cr at hd
 have f:a_0.2.1=List.length d:=i.length
 have n:b_1.2.1=List.length e:=j.length
 refine AK hd (by rw [f,n] <;>rfl) (fun _ hd=> ?_) (fun _ hd=> ?_)
 ·obtain rfl:=iS hd
  exact AB ⟨φ,false,(Sub.refl _),rfl,rfl,s0⟩
 obtain ⟨o,p,hd⟩:=bS hd
 refine AV (fun (y:Int×Bool×Unit) w_ g=> ∃ψ:AC,Sub φ ψ∧AW.next ()=g∧St ψ (F) w_) (g:=o) ?_ ?_
 ·refine Bq p (fun q (y:Int×Bool×Unit) w_ g=> ∃ψ:AC,Sub φ ψ∧y.1=q∧()=g∧St ψ (F) w_) ((0:Int),false,()) rfl ⟨φ,(Sub.refl _),rfl,rfl,s0⟩ ?_ ?_
  ·rintro _ z2 a6 _ _ ⟨k,b,rfl,rfl,c⟩ a s l m t
   try dsimp only at a s l m
   refine Ag (dT f l) ?_
   obtain ⟨a7,u,a⟩:=bS a
   refine DM i u (Sub.trans b c.sub) ?_
   obtain ⟨a8,w,a⟩:=bS a
   refine DM j w (Sub.trans b c.sub) ?_
   refine AK a rfl (fun _ a=> ?_) (fun _ a=> ?_)
   ·obtain rfl:=iS a
    obtain rfl:=t _ rfl
    try dsimp only at hd
    obtain rfl:=iS hd
    exact Ah (An (AB ⟨k,false,b,rfl,rfl,c⟩))
   obtain rfl:=iS a
   exact Af ((wN z2.1),z2.2.1,()) _ rfl rfl ⟨k,b,m,rfl,c⟩
  ·rintro _ z2 a9 _ ⟨x,z,rfl,rfl,a0⟩ a1 a2
   subst a2
   refine AY (dF f a1) ?_
   exact AJ (AM (z2.1,z2.2.1,()) rfl ⟨x,z,rfl,a0⟩)
 rintro z1 aa ⟨a3,a4,rfl,a5⟩
 try dsimp only at hd
 obtain rfl:=iS hd
 exact AB ⟨a3,true,a4,rfl,rfl,a5⟩
noncomputable def Db:Option (Int×Int×List Int×List (List Int)×List Int×List Int×List Int):=
 some ((2:Int),(2:Int),([(0:Int),(0:Int),(1:Int),(1:Int),(2:Int)] :List Int),([([(4:Int),(0:Int),(5:Int)] :List Int),([(5:Int)] :List Int),([(1:Int),(5:Int)] :List Int),([(2:Int)] :List Int),([(4:Int)] :List Int)] :List (List Int)),([] :List Int),([] :List Int),([] :List Int))
theorem Hq {φ:AC} {h:AE} {F:List Chk} (s0:St φ (F) h) {r:(Int×Int×List Int×List (List Int)×List Int×List Int×List Int)} (hd:Db=some r):
 CallsH Tryz.prog 54 [] h (Aq fun v h'=> ∃ψ:AC,∃y:Int×Int×Slc×Slc×Slc×Slc×Slc×Unit,∃i:List Int,∃j:List (List Int),∃k:List Int,∃m:List Int,∃o:List Int,Sub φ ψ∧v=((.one (.agg [(.int .u8),(.int .u8), .slice, .slice, .slice, .slice, .slice])):Sh).val y∧(y.1,y.2.1,i,j,k,m,o)=r∧Ro.SliceIs (Ro.int .u8) ψ y.2.2.1 i∧Ro.SliceIs (Ro.list (Ro.int .u8)) ψ y.2.2.2.1 j∧Ro.SliceIs (Ro.int .u8) ψ y.2.2.2.2.1 k∧Ro.SliceIs (Ro.int .u8) ψ y.2.2.2.2.2.1 m∧Ro.SliceIs (Ro.int .u8) ψ y.2.2.2.2.2.2.1 o∧St ψ (F) h'):=by
 refine AQ mixed Tryz.func54 ?_
 rw [Hn]
 unfold FN
 unfold Db at hd
 refine AU (vs:= [.int .u8 (0:Int), .int .u8 (0:Int), .slice none 0 0, .slice none 0 0, .slice none 0 0, .slice none 0 0, .slice none 0 0]) s0 fun r1 ay s=> ?_
 refine AU (vs:= [.int .u8 (0:Int), .int .u8 (0:Int), .int .u8 (1:Int), .int .u8 (1:Int), .int .u8 (2:Int)]) s fun r2 az u=> ?_
 refine AU (vs:= [.int .u8 (4:Int), .int .u8 (0:Int), .int .u8 (5:Int)]) u fun r3 b0 w=> ?_
 refine AU (vs:= [.int .u8 (5:Int)]) w fun r4 b1 z=> ?_
 refine AU (vs:= [.int .u8 (1:Int), .int .u8 (5:Int)]) z fun r5 b2 a0=> ?_
 refine AU (vs:= [.int .u8 (2:Int)]) a0 fun r6 b3 a1=> ?_
 refine AU (vs:= [.int .u8 (4:Int)]) a1 fun r7 b4 a2=> ?_
 refine AU (vs:= [.slice (some ⟨r3,0,none⟩) 3 3, .slice (some ⟨r4,0,none⟩) 1 1, .slice (some ⟨r5,0,none⟩) 2 2, .slice (some ⟨r6,0,none⟩) 1 1, .slice (some ⟨r7,0,none⟩) 1 1]) a2 fun r8 b5 a3=> ?_
 refine AP a3.at7 rfl rfl fun b6 a4=> ?_
 refine AP a4 rfl rfl fun b7 a5=> ?_
 refine AP a5 rfl rfl fun b8 a6=> ?_
 refine AP a6 rfl rfl fun b9 a7=> ?_
 refine AP a7 rfl rfl fun ba a8=> ?_
 refine AP a8 rfl rfl fun bb a9=> ?_
 refine AP a9 rfl rfl fun bc b=> ?_
 refine AA (x:=(2:Int)) b rfl ?_
 refine AA (x:=(2:Int)) b rfl ?_
 refine AA (x:=((some ⟨r2,0,none⟩,5,5):Slc)) b rfl ?_
 refine AA (x:=((some ⟨r8,0,none⟩,5,5):Slc)) b rfl ?_
 refine AA (x:=((none,0,0):Slc)) b rfl ?_
 refine AA (x:=((none,0,0):Slc)) b rfl ?_
 refine AA (x:=((none,0,0):Slc)) b rfl ?_
 have aa:=St.lit (r:=(Ro.int .u8)) (l:=([(0:Int),(0:Int),(1:Int),(1:Int),(2:Int)] :List Int)) (n:=5) b.at7 (.cons (a:= [_]) rfl (.cons (a:= [_]) rfl (.cons (a:= [_]) rfl (.cons (a:= [_]) rfl (.cons (a:= [_]) rfl .nil))))) rfl (by decide)
 obtain ⟨bd,ab,ac,ad⟩:=St.freezeRow (t:=((some ⟨r2,0,none⟩,5,5):Slc)) aa
 have ae:=St.lit (r:=(Ro.int .u8)) (l:=([(4:Int),(0:Int),(5:Int)] :List Int)) (n:=3) ad.at6 (.cons (a:= [_]) rfl (.cons (a:= [_]) rfl (.cons (a:= [_]) rfl .nil))) rfl (by decide)
 obtain ⟨be,p,af,ag⟩:=St.freezeRow (t:=((some ⟨r3,0,none⟩,3,3):Slc)) ae
 have ah:=St.lit (r:=(Ro.int .u8)) (l:=([(5:Int)] :List Int)) (n:=1) ag.at5 (.cons (a:= [_]) rfl .nil) rfl (by decide)
 obtain ⟨bf,g,ai,aj⟩:=St.freezeRow (t:=((some ⟨r4,0,none⟩,1,1):Slc)) ah
 have ak:=St.lit (r:=(Ro.int .u8)) (l:=([(1:Int),(5:Int)] :List Int)) (n:=2) aj.at4 (.cons (a:= [_]) rfl (.cons (a:= [_]) rfl .nil)) rfl (by decide)
 obtain ⟨bg,e,al,am⟩:=St.freezeRow (t:=((some ⟨r5,0,none⟩,2,2):Slc)) ak
 have an:=St.lit (r:=(Ro.int .u8)) (l:=([(2:Int)] :List Int)) (n:=1) am.at3 (.cons (a:= [_]) rfl .nil) rfl (by decide)
 obtain ⟨bh,d,ao,ap⟩:=St.freezeRow (t:=((some ⟨r6,0,none⟩,1,1):Slc)) an
 have aq:=St.lit (r:=(Ro.int .u8)) (l:=([(4:Int)] :List Int)) (n:=1) ap.at2 (.cons (a:= [_]) rfl .nil) rfl (by decide)
 obtain ⟨bi,c,ar,au⟩:=St.freezeRow (t:=((some ⟨r7,0,none⟩,1,1):Slc)) aq
 have av:=St.lit (r:=(Ro.list (Ro.int .u8))) (l:=([([(4:Int),(0:Int),(5:Int)] :List Int),([(5:Int)] :List Int),([(1:Int),(5:Int)] :List Int),([(2:Int)] :List Int),([(4:Int)] :List Int)] :List (List Int))) (n:=5) au.at1 (.cons (a:= [_]) ⟨((some ⟨r3,0,none⟩,3,3):Slc),rfl,(af.mono (((g.trans e).trans d).trans c))⟩ (.cons (a:= [_]) ⟨((some ⟨r4,0,none⟩,1,1):Slc),rfl,(ai.mono ((e.trans d).trans c))⟩ (.cons (a:= [_]) ⟨((some ⟨r5,0,none⟩,2,2):Slc),rfl,(al.mono (d.trans c))⟩ (.cons (a:= [_]) ⟨((some ⟨r6,0,none⟩,1,1):Slc),rfl,(ao.mono c)⟩ (.cons (a:= [_]) ⟨((some ⟨r7,0,none⟩,1,1):Slc),rfl,ar⟩ .nil))))) rfl (by decide)
 obtain ⟨f,q,aw,ax⟩:=St.freezeRow (t:=((some ⟨r8,0,none⟩,5,5):Slc)) av
 obtain rfl:=iS hd
 exact AB ⟨f,((2:Int),(2:Int),((some ⟨r2,0,none⟩,5,5):Slc),((some ⟨r8,0,none⟩,5,5):Slc),((none,0,0):Slc),((none,0,0):Slc),((none,0,0):Slc),()),([(0:Int),(0:Int),(1:Int),(1:Int),(2:Int)] :List Int),([([(4:Int),(0:Int),(5:Int)] :List Int),([(5:Int)] :List Int),([(1:Int),(5:Int)] :List Int),([(2:Int)] :List Int),([(4:Int)] :List Int)] :List (List Int)),([] :List Int),([] :List Int),([] :List Int),((((((ab.trans p).trans g).trans e).trans d).trans c).trans q),rfl,rfl,(ac.mono (((((p.trans g).trans e).trans d).trans c).trans q)),aw,(Ro.SliceIs.nil (Ro.int .u8) f),(Ro.SliceIs.nil (Ro.int .u8) f),(Ro.SliceIs.nil (Ro.int .u8) f),ax.tail⟩
noncomputable def By (small_0:Lf):Option (List ByteArray×List ByteArray×List BA×List Int×List Int×List ByteArray×Option DN×(Option LkD)×Bool):=
 (Bd (small_0.1,small_0.2.1,small_0.2.2.1,small_0.2.2.2.1,small_0.2.2.2.2.1,small_0.2.2.2.2.2.1,small_0.2.2.2.2.2.2)).bind fun t10=>
 (CD (t10.1,t10.2.1,t10.2.2.1,t10.2.2.2.1,t10.2.2.2.2.1,t10.2.2.2.2.2)).bind fun t18=>
 cond (t18.2 !=(0:Int))
 (some (t10.1,t10.2.1,t10.2.2.1,t10.2.2.2.1,t10.2.2.2.2.1,t10.2.2.2.2.2,none,none,false))
 ((MQ (t10.1,t10.2.1,t10.2.2.1,t10.2.2.2.1,t10.2.2.2.2.1,t10.2.2.2.2.2) (300:Int) (9000:Int)).bind fun t37=>
  (cond (Option.isNone t37.1)
  (some true)
  (t37.1.bind fun e100=>
   (BW e100).bind fun t39=>
   some (t39==(0:Int)))).bind fun z38=>
  cond z38
  (some (t10.1,t10.2.1,t10.2.2.1,t10.2.2.2.1,t10.2.2.2.2.1,t10.2.2.2.2.2,none,none,false))
  (t37.1.bind fun e134=>
   (Q5 (t10.1,t10.2.1,t10.2.2.1,t10.2.2.2.1,t10.2.2.2.2.1,t10.2.2.2.2.2) e134).bind fun t58=>
   some (t10.1,t10.2.1,t10.2.2.1,t10.2.2.2.1,t10.2.2.2.2.1,t10.2.2.2.2.2,(some e134),t58,(!(Option.isNone t58)))))
theorem El {φ:AC} {h:AE} {F:List Chk} {small_0:Int×Int×Slc×Slc×Slc×Slc×Slc×Unit} {a9:List Int} {aa:List (List Int)} {ab:List Int} {ac:List Int} {ad:List Int} (gk:Lb φ) (ap:Ro.SliceIs (Ro.int .u8) φ small_0.2.2.1 a9) (aq:Ro.SliceIs (Ro.list (Ro.int .u8)) φ small_0.2.2.2.1 aa) (ar:Ro.SliceIs (Ro.int .u8) φ small_0.2.2.2.2.1 ab) (au:Ro.SliceIs (Ro.int .u8) φ small_0.2.2.2.2.2.1 ac) (av:Ro.SliceIs (Ro.int .u8) φ small_0.2.2.2.2.2.2.1 ad) (s0:St φ (F) h) {r:(List ByteArray×List ByteArray×List BA×List Int×List Int×List ByteArray×Option DN×(Option LkD)×Bool)} (hd:By (small_0.1,small_0.2.1,a9,aa,ab,ac,ad)=some r):
 CallsH Tryz.prog 19 [(.agg #[(.int .u8 small_0.1),(.int .u8 small_0.2.1),(sv small_0.2.2.1),(sv small_0.2.2.2.1),(sv small_0.2.2.2.2.1),(sv small_0.2.2.2.2.2.1),(sv small_0.2.2.2.2.2.2.1)])] h (Aq fun v h'=> ∃ψ:AC,∃y:(Slc×Slc×Slc×Slc×Slc×Slc×Unit)×(Option Addr)×(Option Addr)×Bool×Unit,∃ae:List ByteArray,∃af:List ByteArray,∃ag:List BA,∃ah:List Int,∃ai:List Int,∃aj:List ByteArray,∃ak:Option DN,∃al:(Option LkD),Sub φ ψ∧v=((.tuple [(.agg [.slice, .slice, .slice, .slice, .slice, .slice]),aP,aP,aB]):Sh).val y∧(ae,af,ag,ah,ai,aj,ak,al,y.2.2.2.1)=r∧Ro.SliceIs Ro.str ψ y.1.1 ae∧Ro.SliceIs Ro.str ψ y.1.2.1 af∧Ro.SliceIs CA ψ y.1.2.2.1 ag∧Ro.SliceIs (Ro.int .i64) ψ y.1.2.2.2.1 ah∧Ro.SliceIs (Ro.int .i64) ψ y.1.2.2.2.2.1 ai∧Ro.SliceIs Ro.str ψ y.1.2.2.2.2.2.1 aj∧Np Fu ψ y.2.1 ak∧St ψ (⟨Da, [.pointer y.2.2.1],al⟩::F) h'):=by
 refine AQ mixed Tryz.func19 ?_
 rw [IF]
 unfold FZ
 unfold By at hd
 refine AU (vs:= [.int .u8 small_0.1, .int .u8 small_0.2.1,sv small_0.2.2.1,sv small_0.2.2.2.1,sv small_0.2.2.2.2.1,sv small_0.2.2.2.2.2.1,sv small_0.2.2.2.2.2.2.1]) s0 fun r1 c4 aw=> ?_
 refine AU (vs:= [.slice none 0 0, .slice none 0 0, .slice none 0 0, .slice none 0 0, .slice none 0 0, .slice none 0 0]) aw fun r2 c5 k=> ?_
 refine AA (x:=small_0.1) k.at1 rfl ?_
 refine AA (x:=small_0.2.1) k.at1 rfl ?_
 refine AA (x:=small_0.2.2.1) k.at1 rfl ?_
 refine AA (x:=small_0.2.2.2.1) k.at1 rfl ?_
 refine AA (x:=small_0.2.2.2.2.1) k.at1 rfl ?_
 refine AA (x:=small_0.2.2.2.2.2.1) k.at1 rfl ?_
 refine AA (x:=small_0.2.2.2.2.2.2.1) k.at1 rfl ?_
 obtain ⟨c6,ax,hd⟩:=bS hd
 refine AI (Fi (s_0:=(small_0.1,small_0.2.1,small_0.2.2.1,small_0.2.2.2.1,small_0.2.2.2.2.1,small_0.2.2.2.2.2.1,small_0.2.2.2.2.2.2.1,())) ap aq ar au av k ax) ?_
 rintro _ c7 ⟨c8,t10,a2,a3,a4,a5,a6,a7,a1,rfl,rfl,s,t,u,w,z,a0,ay⟩
 refine ⟨t10,rfl,?_⟩
 try dsimp only at hd
 refine AU (vs:= [.slice none 0 0, .slice none 0 0, .slice none 0 0, .slice none 0 0, .slice none 0 0, .slice none 0 0]) ay fun r11 c9 az=> ?_
 refine AP az rfl rfl fun ca b0=> ?_
 refine AP b0 rfl rfl fun cb b1=> ?_
 refine AP b1 rfl rfl fun cc b2=> ?_
 refine AP b2 rfl rfl fun cd b3=> ?_
 refine AP b3 rfl rfl fun ce b4=> ?_
 refine AP b4 rfl rfl fun cf n=> ?_
 refine AA (x:=t10.1) n rfl ?_
 refine AA (x:=t10.2.1) n rfl ?_
 refine AA (x:=t10.2.2.1) n rfl ?_
 refine AA (x:=t10.2.2.2.1) n rfl ?_
 refine AA (x:=t10.2.2.2.2.1) n rfl ?_
 refine AA (x:=t10.2.2.2.2.2.1) n rfl ?_
 obtain ⟨cg,b5,hd⟩:=bS hd
 refine AI (Hp (p_0:=(t10.1,t10.2.1,t10.2.2.1,t10.2.2.2.1,t10.2.2.2.2.1,t10.2.2.2.2.2.1,())) s t u w z a0 n b5) ?_
 rintro _ ch ⟨b6,t18,c,rfl,rfl,f⟩
 refine ⟨t18,rfl,?_⟩
 try dsimp only at hd
 refine AK hd rfl (fun _ hd=> ?_) (fun _ hd=> ?_)
 ·refine AA (x:=t10.1) f rfl ?_
  refine AA (x:=t10.2.1) f rfl ?_
  refine AA (x:=t10.2.2.1) f rfl ?_
  refine AA (x:=t10.2.2.2.1) f rfl ?_
  refine AA (x:=t10.2.2.2.2.1) f rfl ?_
  refine AA (x:=t10.2.2.2.2.2.1) f rfl ?_
  refine AP f.at1 rfl rfl fun ci b7=> ?_
  refine AP b7 rfl rfl fun cj b8=> ?_
  refine AP b8 rfl rfl fun ck b9=> ?_
  refine AP b9 rfl rfl fun cl ba=> ?_
  refine AP ba rfl rfl fun cm bb=> ?_
  refine AP bb rfl rfl fun cn o=> ?_
  refine AA (x:=t10.1) o rfl ?_
  refine AA (x:=t10.2.1) o rfl ?_
  refine AA (x:=t10.2.2.1) o rfl ?_
  refine AA (x:=t10.2.2.2.1) o rfl ?_
  refine AA (x:=t10.2.2.2.2.1) o rfl ?_
  refine AA (x:=t10.2.2.2.2.2.1) o rfl ?_
  obtain rfl:=iS hd
  exact AB ⟨b6,((t10.1,t10.2.1,t10.2.2.1,t10.2.2.2.1,t10.2.2.2.2.1,t10.2.2.2.2.2.1,()),none,none,false,()),a2,a3,a4,a5,a6,a7,none,none,(a1.trans c),rfl,rfl,(s.mono c),(t.mono c),(u.mono c),(w.mono c),(z.mono c),(a0.mono c),(Np.none _ _),((((Q6 o).at1.tail).at1.tail).at1.tail)⟩
 refine AA (x:=t10.1) f rfl ?_
 refine AA (x:=t10.2.1) f rfl ?_
 refine AA (x:=t10.2.2.1) f rfl ?_
 refine AA (x:=t10.2.2.2.1) f rfl ?_
 refine AA (x:=t10.2.2.2.2.1) f rfl ?_
 refine AA (x:=t10.2.2.2.2.2.1) f rfl ?_
 obtain ⟨co,bc,hd⟩:=bS hd
 refine AI (R0 (p_0:=(t10.1,t10.2.1,t10.2.2.1,t10.2.2.2.1,t10.2.2.2.2.1,t10.2.2.2.2.2.1,())) (gk.a.mono (a1.trans c)) (s.mono c) (t.mono c) (u.mono c) (w.mono c) (z.mono c) (a0.mono c) f bc) ?_
 rintro _ cp ⟨am,t37,cq,e,rfl,rfl,a8,an⟩
 refine ⟨t37,rfl,?_⟩
 try dsimp only at hd
 have bd:=a8.nil
 obtain ⟨be,j,hd⟩:=bS hd
 refine Ao (fun (y:Bool×Unit) w_ g=> ∃ψ:AC,Sub am ψ∧y.1=g∧St ψ (cW 32 r11 [sv t10.1,sv t10.2.1,sv t10.2.2.1,sv t10.2.2.2.1,sv t10.2.2.2.2.1,sv t10.2.2.2.2.2.1] ::cW 32 r2 [.slice none 0 0, .slice none 0 0, .slice none 0 0, .slice none 0 0, .slice none 0 0, .slice none 0 0] ::cW 25 r1 [.int .u8 small_0.1, .int .u8 small_0.2.1,sv small_0.2.2.1,sv small_0.2.2.2.1,sv small_0.2.2.2.2.1,sv small_0.2.2.2.2.2.1,sv small_0.2.2.2.2.2.2.1] ::F) w_) (g:=be) ?_ ?_
 ·refine AK j (by rw [bd] <;>rfl) (fun _ j=> ?_) (fun _ j=> ?_)
  ·have bf:=an.at2
   obtain rfl:=iS j
   exact AS (true,()) rfl ⟨am,(Sub.refl _),rfl,bf.at2.at2⟩
  obtain ⟨cr,bg,j⟩:=bS j
  obtain ⟨cs,bh,j⟩:=bS j
  refine AI (CK ((a8).get bg) an bh) ?_
  rintro _ ct ⟨bi,t39,bj,rfl,rfl,bk⟩
  refine ⟨t39,rfl,?_⟩
  obtain rfl:=iS j
  exact AS ((t39==(0:Int)),()) rfl ⟨bi,bj,rfl,bk.at2.at2.at2⟩
 rintro z38 cu ⟨bl,d,rfl,i⟩
 try dsimp only at hd
 refine AK hd rfl (fun _ hd=> ?_) (fun _ hd=> ?_)
 ·refine AA (x:=t10.1) i rfl ?_
  refine AA (x:=t10.2.1) i rfl ?_
  refine AA (x:=t10.2.2.1) i rfl ?_
  refine AA (x:=t10.2.2.2.1) i rfl ?_
  refine AA (x:=t10.2.2.2.2.1) i rfl ?_
  refine AA (x:=t10.2.2.2.2.2.1) i rfl ?_
  refine AP i.at1 rfl rfl fun cv bm=> ?_
  refine AP bm rfl rfl fun cw bn=> ?_
  refine AP bn rfl rfl fun cx bo=> ?_
  refine AP bo rfl rfl fun cy bp=> ?_
  refine AP bp rfl rfl fun cz bq=> ?_
  refine AP bq rfl rfl fun d0 p=> ?_
  refine AA (x:=t10.1) p rfl ?_
  refine AA (x:=t10.2.1) p rfl ?_
  refine AA (x:=t10.2.2.1) p rfl ?_
  refine AA (x:=t10.2.2.2.1) p rfl ?_
  refine AA (x:=t10.2.2.2.2.1) p rfl ?_
  refine AA (x:=t10.2.2.2.2.2.1) p rfl ?_
  obtain rfl:=iS hd
  exact AB ⟨bl,((t10.1,t10.2.1,t10.2.2.1,t10.2.2.2.1,t10.2.2.2.2.1,t10.2.2.2.2.2.1,()),none,none,false,()),a2,a3,a4,a5,a6,a7,none,none,(((a1.trans c).trans e).trans d),rfl,rfl,(s.mono ((c.trans e).trans d)),(t.mono ((c.trans e).trans d)),(u.mono ((c.trans e).trans d)),(w.mono ((c.trans e).trans d)),(z.mono ((c.trans e).trans d)),(a0.mono ((c.trans e).trans d)),(Np.none _ _),((((Q6 p).at1.tail).at1.tail).at1.tail)⟩
 refine AA (x:=t10.1) i rfl ?_
 refine AA (x:=t10.2.1) i rfl ?_
 refine AA (x:=t10.2.2.1) i rfl ?_
 refine AA (x:=t10.2.2.2.1) i rfl ?_
 refine AA (x:=t10.2.2.2.2.1) i rfl ?_
 refine AA (x:=t10.2.2.2.2.2.1) i rfl ?_
 obtain ⟨br,bs,hd⟩:=bS hd
 have ao:=((a8.mono d)).get bs
 obtain ⟨d1,bt,hd⟩:=bS hd
 refine AI (Tu (p_0:=(t10.1,t10.2.1,t10.2.2.1,t10.2.2.2.1,t10.2.2.2.2.1,t10.2.2.2.2.2.1,())) (gk.b.mono (((a1.trans c).trans e).trans d)) (s.mono ((c.trans e).trans d)) (t.mono ((c.trans e).trans d)) (u.mono ((c.trans e).trans d)) (w.mono ((c.trans e).trans d)) (z.mono ((c.trans e).trans d)) (a0.mono ((c.trans e).trans d)) ao i bt) ?_
 rintro _ d2 ⟨bu,t58,bv,l,rfl,rfl,m⟩
 refine ⟨t58,rfl,?_⟩
 have bw:=V6 m
 refine AA (x:=t10.1) m.at1 rfl ?_
 refine AA (x:=t10.2.1) m.at1 rfl ?_
 refine AA (x:=t10.2.2.1) m.at1 rfl ?_
 refine AA (x:=t10.2.2.2.1) m.at1 rfl ?_
 refine AA (x:=t10.2.2.2.2.1) m.at1 rfl ?_
 refine AA (x:=t10.2.2.2.2.2.1) m.at1 rfl ?_
 refine AP m.at2 rfl rfl fun d3 bx=> ?_
 refine AP bx rfl rfl fun d4 bz=> ?_
 refine AP bz rfl rfl fun d5 c0=> ?_
 refine AP c0 rfl rfl fun d6 c1=> ?_
 refine AP c1 rfl rfl fun d7 c2=> ?_
 refine AP c2 rfl rfl fun d8 q=> ?_
 refine AA (x:=t10.1) q rfl ?_
 refine AA (x:=t10.2.1) q rfl ?_
 refine AA (x:=t10.2.2.1) q rfl ?_
 refine AA (x:=t10.2.2.2.1) q rfl ?_
 refine AA (x:=t10.2.2.2.2.1) q rfl ?_
 refine AA (x:=t10.2.2.2.2.2.1) q rfl ?_
 obtain rfl:=iS hd
 have c3:=q.tail.at1.tail.at1.tail
 exact AB ⟨bu,((t10.1,t10.2.1,t10.2.2.1,t10.2.2.2.1,t10.2.2.2.2.1,t10.2.2.2.2.2.1,()),t37.1,t58,(!(Option.isNone t58)),()),a2,a3,a4,a5,a6,a7,(some br),bv,((((a1.trans c).trans e).trans d).trans l),rfl,(by rw [bw]),(s.mono (((c.trans e).trans d).trans l)),(t.mono (((c.trans e).trans d).trans l)),(u.mono (((c.trans e).trans d).trans l)),(w.mono (((c.trans e).trans d).trans l)),(z.mono (((c.trans e).trans d).trans l)),(a0.mono (((c.trans e).trans d).trans l)),(ao.mono l),c3⟩
end Go.Proofs.YteolcjbobmpdiaaGreatDoor
namespace Go.Proofs.YteolcjbobmpdiaaGreatDoor
open Go Go.Eng Dg
set_option linter.unusedVariables false
set_option maxRecDepth 100000
section
variable {p:dtP}
theorem Mm (S:Sy p):BD p=some ((p.1.length+p.2.1.length+1:Nat):Int):=by
 have hT:=S.t1
 have hV:=S.v1
 unfold BD
 congr 1
 rw [w64 (n:=((p.1.length:Nat):Int) +((p.2.1.length:Nat):Int)) (by omega) (by omega),w64 (by omega) (by omega)]
 omega
def B0 (l:List Bool):Nat:=l.countP fun b=> !b
theorem Mn {l:List Bool} {i:Nat} (h:l[i]? =some false):B0 (l.set i true) +1=B0 l:=HD h
theorem Q9 {l:List Bool} {i j:Nat} (h:(l.set i true)[j]? =some true):j=i∨l[j]? =some true:=by
 rw [List.getElem?_set] at h
 split at h
 ·rename_i e; exact .inl e.symm
 ·exact .inr h
set_option maxHeartbeats 1000000 in
theorem T3 (S:Sy p):Ok (CC p) fun l=>l.length=p.1.length+p.2.1.length+1∧ ∀s:Nat,l[s]? =some true→Pro (nT p) p.2.2.1 (s:Int):=by
 have hT:=S.t1
 have hV:=S.v1
 have hF:=S.few
 have hnT:nT p=(p.1.length:Int):=rfl
 unfold CC
 refine AR (x:=((p.1.length+p.2.1.length+1:Nat):Int)) (Mm S) (AR (x:=List.replicate (p.1.length+p.2.1.length+1) false) (by unfold E0; rw [if_pos ⟨by omega,by omega⟩,Int.toNat_natCast]) ?_)
 refine CT (fun k (l:List Bool)=>l.length=p.1.length+p.2.1.length+1∧ ∀s:Nat,l[s]? =some true→s<k) (by omega) ⟨by simp,fun s h=> ?_⟩ (fun k l hk hl=> ?_) fun l hl=> ?_
 ·rw [List.getElem?_replicate] at h
  split at h<;>simp at h
 ·refine HX (by omega) (by omega) (AG ⟨by simp [hl.1],fun s h=> ?_⟩)
  rw [Int.toNat_natCast] at h
  rcases Q9 h with h | h
  ·omega
  ·have:=hl.2 s h; omega
 ·obtain ⟨l1,l2⟩:=hl
  refine De (fun (z:Bool×List Bool)=>z.2.length=p.1.length+p.2.1.length+1∧ ∀s:Nat,z.2[s]? =some true→Pro (nT p) p.2.2.1 (s:Int)) (fun z=>B0 z.2 * 2+(if z.1 then 1 else 0)) (fun l=>l.length=p.1.length+p.2.1.length+1∧ ∀s:Nat,l[s]? =some true→Pro (nT p) p.2.2.1 (s:Int)) ⟨l1,fun s h=> .term (by omega) (by have:=l2 s h; omega)⟩ (fun z hz=> ?_) fun l hl=>AG hl
  obtain ⟨c,m⟩:=z
  obtain ⟨m1,m2⟩:=hz
  dsimp only at m1 m2 ⊢
  refine Ae (fun hc=> ?_) fun hc=>Bs ⟨m1,m2⟩
  subst hc
  refine CT (fun k (z:Bool×List Bool)=>z.2.length=p.1.length+p.2.1.length+1∧(∀s:Nat,z.2[s]? =some true→Pro (nT p) p.2.2.1 (s:Int))∧B0 z.2≤B0 m∧(z.1=true→B0 z.2<B0 m)) (by omega) ⟨m1,m2,Nat.le_refl _,by simp⟩ (fun k z hk hz=> ?_) fun z hz=>CJ ⟨⟨hz.1,hz.2.1⟩,?_⟩
  ·obtain ⟨g,w⟩:=z
   obtain ⟨w1,w2,w3,w4⟩:=hz
   dsimp only at w1 w2 w3 w4 ⊢
   have hr:=List.getElem?_eq_getElem hk
   have hmem:=List.getElem_mem hk
   obtain ⟨r,hre⟩: ∃r,p.2.2.1[k] =r:=⟨_,rfl⟩
   rw [hre] at hr hmem
   have hL:=S.left r hmem
   have hR:=S.right r hmem
   have hS:=S.short r hmem
   refine De (fun (z:Int×Bool)=> ∃j:Nat,z.1=(j:Int)∧j≤r.2.1.length∧(z.2=true→ ∀s ∈ r.2.1.take j,Pro (nT p) p.2.2.1 s)) (fun z=>r.2.1.length - z.1.toNat) (fun b=>b=true→ ∀s ∈ r.2.1,Pro (nT p) p.2.2.1 s) ⟨0,rfl,Nat.zero_le _,by simp⟩ (fun z hz=> ?_) fun b hb=> ?_
   ·obtain ⟨j',b⟩:=z
    obtain ⟨j,h1,h2,h3⟩:=hz
    dsimp only at h1 h3 ⊢
    subst h1
    refine AZ hr (Ae (fun hc=> ?_) fun hc=>Bs ?_)
    ·have hlt:j<r.2.1.length:=by have:=of_decide_eq_true hc; omega
     have hj:=List.getElem?_eq_getElem hlt
     have hs:=hR _ (List.getElem_mem hlt)
     refine AO (Q:=fun b'=>b'=true→ ∀s ∈ r.2.1.take (j+1),Pro (nT p) p.2.2.1 s) (Ae (fun hb=> ?_) fun hb=>AG (by simp)) fun b' hb'=> ?_
     ·have hw:(r.2.1[j]).toNat<w.length:=by omega
      refine AZ hr (AZ hj (DS hs.1 (List.getElem?_eq_getElem hw) (AG fun ht s hs'=> ?_)))
      rcases (BI hj).1 hs' with h | rfl
      ·exact h3 hb s h
      ·have:=w2 _ (by rw [List.getElem?_eq_getElem hw,ht])
       rwa [Int.toNat_of_nonneg hs.1] at this
     ·refine CJ ⟨⟨j+1,by rw [w64 (by omega) (by omega)]; omega,hlt,hb'⟩,?_⟩
      rw [w64 (by omega) (by omega)]
      omega
    ·have:j=r.2.1.length:=by have:=of_decide_eq_false hc; omega
     subst this
     rw [List.take_of_length_le (Nat.le_refl _)] at h3
     exact h3
   ·have hw:r.1.toNat<w.length:=by omega
    have hwg:=List.getElem?_eq_getElem hw
    refine AO (Q:=fun c=>c=true→b=true∧w[r.1.toNat]? =some false) (Ae (fun h=>AZ hr (DS (by omega) hwg (AG fun h'=>⟨h,by rw [hwg]; simpa using h'⟩))) fun h=>AG (by simp)) fun c hc=> ?_
    refine AO (Q:=fun (z:Bool×List Bool)=>z.2.length=p.1.length+p.2.1.length+1∧(∀s:Nat,z.2[s]? =some true→Pro (nT p) p.2.2.1 (s:Int))∧B0 z.2≤B0 m∧(z.1=true→B0 z.2<B0 m)) (Ae (fun h=> ?_) fun h=>AG ⟨w1,w2,w3,w4⟩) fun z hz=>AG hz
    obtain ⟨c1,c2⟩:=hc h
    have hfs:=Mn c2
    refine AZ hr (HX (by omega) (by omega) (AG ⟨by simp [w1],fun s hs=> ?_,by dsimp only; omega,fun _=>by dsimp only; omega⟩))
    rcases Q9 hs with rfl | h
    ·rw [Int.toNat_of_nonneg (by omega)]
     exact .rule hmem (hb c1)
    ·exact w2 s h
  ·obtain ⟨_,_,w3,w4⟩:=hz
   obtain ⟨g,w⟩:=z
   dsimp only at w3 w4 ⊢
   cases g with
   | true=>have:=w4 rfl; simp; omega
   | false=>simp; omega
set_option maxHeartbeats 1000000 in
theorem Uz (S:Sy p):Ok (CL p) fun l=>l.length=p.1.length+p.2.1.length+1:=by
 have hT:=S.t1
 have hV:=S.v1
 have hF:=S.few
 have hnT:nT p=(p.1.length:Int):=rfl
 unfold CL
 refine AR (x:=((p.1.length+p.2.1.length+1:Nat):Int)) (Mm S) (AR (x:=List.replicate (p.1.length+p.2.1.length+1) false) (by unfold E0; rw [if_pos ⟨by omega,by omega⟩,Int.toNat_natCast]) (AR (x:=((p.1.length+p.2.1.length+1:Nat):Int)) (Mm S) ?_))
 have e1:IntKind.wrap .i64 (((p.1.length+p.2.1.length+1:Nat):Int) - 1)=((p.1.length+p.2.1.length:Nat):Int):=by rw [w64 (by omega) (by omega)]; omega
 rw [e1]
 refine HX (by omega) (by simp; omega) ?_
 refine De (fun (z:Bool×List Bool)=>z.2.length=p.1.length+p.2.1.length+1) (fun z=>B0 z.2 * 2+(if z.1 then 1 else 0)) (fun l=>l.length=p.1.length+p.2.1.length+1) (by simp) (fun z hz=> ?_) fun l hl=>AG hl
 obtain ⟨c,m⟩:=z
 dsimp only at hz ⊢
 refine Ae (fun hc=> ?_) fun hc=>Bs hz
 subst hc
 refine CT (fun k (z:Bool×List Bool)=>z.2.length=p.1.length+p.2.1.length+1∧B0 z.2≤B0 m∧(z.1=true→B0 z.2<B0 m)) (by omega) ⟨hz,Nat.le_refl _,by simp⟩ (fun k z hk hz=> ?_) fun z hz=>CJ ⟨hz.1,?_⟩
 ·obtain ⟨g,w⟩:=z
  have hr:=List.getElem?_eq_getElem hk
  have hmem:=List.getElem_mem hk
  obtain ⟨r,hre⟩: ∃r,p.2.2.1[k] =r:=⟨_,rfl⟩
  rw [hre] at hr hmem
  have hL:=S.left r hmem
  have hR:=S.right r hmem
  have hS:=S.short r hmem
  refine De (fun (z:Int×Bool×List Bool)=> ∃j:Nat,z.1=(j:Int)∧j≤r.2.1.length∧z.2.2.length=p.1.length+p.2.1.length+1∧B0 z.2.2≤B0 m∧(z.2.1=true→B0 z.2.2<B0 m)) (fun z=>r.2.1.length - z.1.toNat) (fun (z:Bool×List Bool)=>z.2.length=p.1.length+p.2.1.length+1∧B0 z.2≤B0 m∧(z.1=true→B0 z.2<B0 m)) ⟨0,rfl,Nat.zero_le _,hz⟩ (fun z hz=> ?_) fun b hb=>AG hb
  obtain ⟨j',b,w⟩:=z
  obtain ⟨j,h1,h2,h3,h4,h5⟩:=hz
  dsimp only at h1 h3 h4 h5 ⊢
  subst h1
  refine AZ hr (Ae (fun hc=> ?_) fun hc=>Bs ⟨h3,h4,h5⟩)
  have hlt:j<r.2.1.length:=by have:=of_decide_eq_true hc; omega
  have hj:=List.getElem?_eq_getElem hlt
  have hs:=hR _ (List.getElem_mem hlt)
  have hw:r.1.toNat<w.length:=by omega
  have hw2:(r.2.1[j]).toNat<w.length:=by omega
  have hwg:=List.getElem?_eq_getElem hw2
  refine AO (Q:=fun c=>c=true→w[(r.2.1[j]).toNat]? =some false) (AZ hr (DS (by omega) (List.getElem?_eq_getElem hw) (Ae (fun h=>AZ hr (AZ hj (DS hs.1 hwg (AG fun h'=>by rw [hwg]; simpa using h')))) fun h=>AG (by simp)))) fun c hc=> ?_
  refine AO (Q:=fun (z:Bool×List Bool)=>z.2.length=p.1.length+p.2.1.length+1∧B0 z.2≤B0 m∧(z.1=true→B0 z.2<B0 m)) (Ae (fun h=> ?_) fun h=>AG ⟨h3,h4,h5⟩) fun z hz=> ?_
  ·have hfs:=Mn (hc h)
   exact AZ hr (AZ hj (HX hs.1 (by omega) (AG ⟨by simp [h3],by dsimp only; omega,fun _=>by dsimp only; omega⟩)))
  ·refine CJ ⟨⟨j+1,by rw [w64 (by omega) (by omega)]; omega,hlt,hz⟩,?_⟩
   rw [w64 (by omega) (by omega)]
   omega
 ·obtain ⟨_,w3,w4⟩:=hz
  obtain ⟨g,w⟩:=z
  dsimp only at w3 w4 ⊢
  cases g with
  | true=>have:=w4 rfl; simp; omega
  | false=>simp; omega
theorem T4 (S:Sy p):Ok (CD p) fun r=>r.2=0→ ∀v:Nat,v<p.2.1.length→Pro (nT p) p.2.2.1 ((p.1.length+v:Nat):Int):=by
 have hT:=S.t1
 have hV:=S.v1
 unfold CD
 refine AO (T3 S) fun l hl=>AO (Uz S) fun l' hl'=> ?_
 obtain ⟨l1,l2⟩:=hl
 have l1:l.length=p.1.length+p.2.1.length+1:=l1
 have hl':l'.length=p.1.length+p.2.1.length+1:=hl'
 have e1:IntKind.wrap .i64 (((p.1.length+p.2.1.length+1:Nat):Int) - 1)=((p.1.length+p.2.1.length:Nat):Int):=by rw [w64 (by omega) (by omega)]; omega
 refine De (fun z=> ∃k:Nat,z=((p.1.length+k:Nat):Int)∧k≤p.2.1.length∧ ∀v,v<k→l[p.1.length+v]? =some true) (fun z=>p.1.length+p.2.1.length - z.toNat)
  (fun b=>(∃z,b= .done (z,18))∨(b= .next ()∧ ∀v,v<p.2.1.length→l[p.1.length+v]? =some true)) ⟨0,rfl,Nat.zero_le _,fun v hv=>by omega⟩ (fun z hz=> ?_) fun b hb=> ?_
 ·obtain ⟨k,rfl,h1,h2⟩:=hz
  refine AR (x:=((p.1.length+p.2.1.length+1:Nat):Int)) (Mm S) ?_
  rw [e1]
  refine Ae (fun hc=> ?_) fun hc=>Bs (.inr ⟨rfl,fun v hv=>h2 v (by have:=of_decide_eq_false hc; omega)⟩)
  have hlt:k<p.2.1.length:=by have:=of_decide_eq_true hc; omega
  have hg:=List.getElem?_eq_getElem (l:=l) (i:=p.1.length+k) (by omega)
  refine AZ hg (Ae (fun h=>Bs (.inl ⟨_,rfl⟩)) fun h=>CJ ⟨⟨k+1,by rw [w64 (by omega) (by omega)]; omega,hlt,fun v hv=> ?_⟩,?_⟩)
  ·rcases Nat.lt_succ_iff_lt_or_eq.1 hv with hv | rfl
   ·exact h2 v hv
   ·rw [hg]
    have:l[p.1.length+v] =true:=by simpa using h
    rw [this]
  ·rw [w64 (by omega) (by omega)]; omega
 ·rcases hb with ⟨z,rfl⟩ | ⟨rfl,hb⟩
  ·exact AG fun h=>by simp at h
  ·refine De (fun z=> ∃k:Nat,z=((p.1.length+k:Nat):Int)∧k≤p.2.1.length) (fun z=>p.1.length+p.2.1.length - z.toNat)
    (fun b=>(∃z,b= .done (z,17))∨b= .next ()) ⟨0,rfl,Nat.zero_le _⟩ (fun z hz=> ?_) fun b hb'=> ?_
   ·obtain ⟨k,rfl,h1⟩:=hz
    refine AR (x:=((p.1.length+p.2.1.length+1:Nat):Int)) (Mm S) ?_
    rw [e1]
    refine Ae (fun hc=> ?_) fun hc=>Bs (.inr rfl)
    have hlt:k<p.2.1.length:=by have:=of_decide_eq_true hc; omega
    have hg:=List.getElem?_eq_getElem (l:=l') (i:=p.1.length+k) (by omega)
    refine AZ hg (Ae (fun h=>Bs (.inl ⟨_,rfl⟩)) fun h=>CJ ⟨⟨k+1,by rw [w64 (by omega) (by omega)]; omega,hlt⟩,?_⟩)
    rw [w64 (by omega) (by omega)]; omega
   ·rcases hb' with ⟨z,rfl⟩ | rfl
    ·exact AG fun h=>by simp at h
    ·exact AG fun _ v hv=>l2 _ (hb v hv)
end
structure MkI (p:dtP) (B:List dtK) (E:List (List Edge)) (d:LkD) (tt:Int):Prop where
 all:DI p B E d.fa
 dp:d.p=p
 dA:d.A=DH p B E tt
 lk:WA p B E d.L
theorem VJ {nt nl:Nat} {p:dtP} (H:Pl nt nl p):Sy p:=by
 have hT:=H.terms.len
 have hn:=H.nt5
 have hv:=H.vars
 have hr:=H.room
 have hnT:nT p=(p.1.length:Int):=rfl
 obtain ⟨st,s1,s2,s3⟩:=H.first
 have each: ∀r ∈ p.2.2.1,(nT p≤r.1∧r.1≤nT p+((p.2.1.length:Nat):Int))∧(∀s ∈ r.2.1,0≤s∧s<nT p+((p.2.1.length:Nat):Int))∧r.2.1.length≤1000:=fun r hm=>by
  obtain ⟨k,hk⟩:=List.getElem?_of_mem hm
  rcases Nat.eq_zero_or_pos k with rfl | h
  ·rw [s3] at hk
   cases hk
   refine ⟨⟨by dsimp only; omega,by dsimp only; omega⟩,fun s hs=> ?_,by simp⟩
   have:s=st:=by simpa using hs
   omega
  ·have:=H.rules k r h hk
   have hl:=this.left
   refine ⟨⟨by omega,by omega⟩,fun s hs=> ?_,by have:=this.few; omega⟩
   have:=this.right s hs
   omega
 exact ⟨by omega,by omega,by omega,fun r hm=>(each r hm).1,fun r hm=>(each r hm).2.1,fun r hm=>(each r hm).2.2⟩
theorem T5 {nt nl:Nat} {p:dtP} (H:Pl nt nl p) (hp: ∀v:Nat,v<p.2.1.length→Pro (nT p) p.2.2.1 ((p.1.length+v:Nat):Int)) {B:List dtK} {E:List (List Edge)} (hF:Fin p B E) (hB:B.length≤300) {fa:dtF} (hfa:Te p fa):DI p B E fa:=by
 have hT:=H.terms.len
 have hv:=H.vars
 have hnT:nT p=(p.1.length:Int):=rfl
 obtain ⟨st,s1,s2,s3⟩:=H.first
 refine ⟨H.vp,VJ H,hF,WU H hp,hB,by omega,hfa,st,?_⟩
 rw [s3]
 congr 2
 omega
theorem U0 {s:Lf} (G:SmG s) (F:SmF 12 5 s):Ok (By s) fun r=>r.2.2.2.2.2.2.2.2=false∨(r.2.2.2.2.2.2.2.2=true∧ ∃(p:dtP) (B:List dtK) (E:List (List Edge)) (d:LkD) (tt:Int) (nt nl:Nat),
 (r.1,r.2.1,r.2.2.1,r.2.2.2.1,r.2.2.2.2.1,r.2.2.2.2.2.1)=p∧r.2.2.2.2.2.2.1=some (DH p B E tt)∧r.2.2.2.2.2.2.2.1=some d∧Pl nt nl p∧MkI p B E d tt):=by
 unfold By
 refine AO (UX G F) fun p ⟨nt,nl,hp⟩=> ?_
 have S:=VJ hp
 refine AO (T4 S) fun e he=> ?_
 refine Ae (fun _=>AG (.inl rfl)) fun hc=> ?_
 have he0:e.2=0:=by simpa using hc
 have hpro:=he he0
 refine AO (TU hp.vp hp.pos (st:=300) (it:=9000) (fun n m hl=>by
  have:held 300=300:=by decide
  omega)) fun r hr=> ?_
 rcases hr with ⟨n,h1,h2,rfl⟩ | ⟨rfl,_⟩
 ·have H:=Vw hp.vp hp.pos h1
  have hB:(stM p n).1.length≤300:=by
   have:=h2.1
   have e:held 300=300:=by decide
   omega
  have hpos:1≤(stM p n).1.length:=BQ H.zero
  refine AO (Q:=fun c=>c=false) (Al rfl (AR rfl (AR (LF H) (AG ?_)))) fun c hc=> ?_
  ·simp only [beq_eq_false_iff_ne]; omega
  subst hc
  refine Al rfl (AR rfl (AO (Uy (tt:=((tot (stM p n).1:Nat):Int)) (fun fa hfa=>T5 hp hpro H hB hfa) S) fun l hl=> ?_))
  obtain ⟨d,rfl,d1,d2,d3,d4⟩:=hl
  exact AG (.inr ⟨rfl,p,_,_,d,_,nt,nl,rfl,rfl,rfl,hp,T5 hp hpro H hB d3,d1,d2,d4⟩)
 ·refine AO (Q:=fun c=>c=true) (Cg rfl (AG rfl)) fun c hc=> ?_
  subst hc
  exact Cg rfl (AG (.inl rfl))
def Ck (R:Rl) (l:List Item):List Int:=(l.filter fun x=>match R[x.1.toNat]? with
 | some r=>x.2==((r.2.1.length:Nat):Int)
 | none=>false).map (·.1)
section
variable {p:dtP} {B:List dtK} {E:List (List Edge)} {d:LkD} {tt:Int}
theorem NW (R:Rl) (l:List Item):(Ck R l).length≤l.length:=by
 unfold Ck
 rw [List.length_map]
 exact List.length_filter_le _ _
theorem Mo {R:Rl} {l:List Item} {x:Item} {r:BA} (h:R[x.1.toNat]? =some r):Ck R (l++ [x])=if x.2=((r.2.1.length:Nat):Int) then Ck R l++ [x.1] else Ck R l:=by
 unfold Ck
 rw [List.filter_append,List.map_append]
 by_cases e:x.2=((r.2.1.length:Nat):Int)
 ·rw [if_pos e]
  simp [h,e]
 ·rw [if_neg e]
  simp [h,e]
theorem R1 (M:MkI p B E d tt) {n:Nat} {b:dtK} (hb:B[n]? =some b):Kr (some d) (n:Int)=some (Ck p.2.2.1 b.2.1):=by
 obtain ⟨p',A',fa,steps,L⟩:=d
 obtain ⟨H,e1,e2,hL⟩:=M
 dsimp only at H e1 e2 hL
 subst e1
 subst e2
 obtain ⟨g1,g2,g3,g4,g5⟩:=H.fin.good H.vp hb
 refine Ok.eq ?_
 unfold Kr Ci
 rw [Option.bind_some]
 refine AR (MX H.vp H.fin hb) ?_
 refine CT (fun k (z:List Int)=>z=Ck p'.2.2.1 (b.2.1.take k)) (by omega) (by simp [Ck]) (fun k z hk hz=> ?_) fun z hz=>AG ?_
 ·subst hz
  have hx:=List.getElem?_eq_getElem hk
  obtain ⟨x,hxe⟩: ∃x,b.2.1[k] =x:=⟨_,rfl⟩
  rw [hxe] at hx
  obtain ⟨x0,x1,r,hr,hr2⟩:=g2.ok x (List.mem_of_getElem? hx)
  have hd:(Ck p'.2.2.1 (b.2.1.take k)).length≤10100:=by
   have:=NW p'.2.2.1 (b.2.1.take k)
   rw [List.length_take] at this
   omega
  refine AZ hx (DS x0 hr ?_)
  have hs:b.2.1.take (k+1)=b.2.1.take k++ [x] :=by rw [List.take_add_one,hx]; rfl
  rw [hs,Mo hr]
  refine AO (Q:=fun z=>z=if x.2=((r.2.1.length:Nat):Int) then Ck p'.2.2.1 (b.2.1.take k) ++ [x.1] else Ck p'.2.2.1 (b.2.1.take k)) (Ae (fun hc=> ?_) fun hc=>AG ?_) fun z hz=>AG hz
  ·rw [if_pos (eq_of_beq hc)]
   exact Bp (by simp; omega) (AG rfl)
  ·rw [if_neg (by simpa using hc)]
 ·subst hz
  rw [List.take_of_length_le (Nat.le_refl _)]
theorem T6 (M:MkI p B E d tt) {n:Nat} {b:dtK} (hb:B[n]? =some b) {k:Int} :k ∈ Ck p.2.2.1 b.2.1 ↔ ∃(k':Nat) (r:BA),k=(k':Int)∧p.2.2.1[k']? =some r∧It p.2.2.1 (KB B) n k' r.2.1.length:=by
 have H:=M.all
 obtain ⟨g1,g2,g3,g4,g5⟩:=H.fin.good H.vp hb
 unfold Ck
 rw [List.mem_map]
 constructor
 ·rintro ⟨x,hx,rfl⟩
  obtain ⟨h1,h2⟩:=List.mem_filter.1 hx
  obtain ⟨x0,x1,r,hr,hr2⟩:=g2.ok x h1
  rw [hr] at h2
  refine ⟨x.1.toNat,r,by omega,hr,?_⟩
  have e:x=((x.1.toNat:Int),((r.2.1.length:Nat):Int)):=Prod.ext (by simp only; omega) (eq_of_beq h2)
  unfold It
  rw [← e]
  exact (Eu H.vp H.fin hb x).1 h1
 ·rintro ⟨k',r,rfl,hr,hi⟩
  refine ⟨((k':Int),((r.2.1.length:Nat):Int)),List.mem_filter.2 ⟨(Eu H.vp H.fin hb _).2 hi,?_⟩,rfl⟩
  dsimp only
  rw [Int.toNat_natCast,hr]
  simp
theorem U1 (M:MkI p B E d tt) {s k:Nat} (hk:k<p.2.2.1.length):Ok (PK (some d) (s:Int) (k:Int)) fun t=>(∀j,j ∈ t ↔ Lk (nT p) p.2.2.1 (KB B) (TrB p B E) s k j)∧t.length≤64000:=by
 obtain ⟨p',A',fa,steps,L⟩:=d
 obtain ⟨H,e1,e2,hL⟩:=M
 dsimp only at H e1 e2 hL
 subst e1
 subst e2
 unfold PK
 rw [Option.bind_some]
 dsimp only
 cases hg:BH ((s:Int),(k:Int)) L with
 | none=>exact AG ⟨fun j=>⟨(fun h=>by cases h),fun h=>absurd h (hL.none_ s k j hg hk)⟩,by simp⟩
 | some x=>
  obtain ⟨a1,a2,s',k',e,_,_,a5⟩:=hL.some_ _ _ hg
  have e1:s=s':=by have:=(Prod.mk.inj e).1; omega
  have e2:k=k':=by have:=(Prod.mk.inj e).2; omega
  subst e1 e2
  dsimp only
  rw [Iq a1]
  refine AG ⟨fun j=>by rw [ED a1,a5],?_⟩
  have h1:=LJ x
  have h2:=a1.len
  have h3:=a1.hi
  omega
theorem R4 (M:MkI p B E d tt) {s k:Nat} (hs:s<B.length) {r:BA} (hr:p.2.2.1[k]? =some r):
 Ok (Ks (some d) (s:Int) (k:Int)) fun w=>w.length≤300∧ ∀e,e ∈ w ↔ It p.2.2.1 (KB B) s k r.2.1.length∧ ∃n m:Nat,TrB p B E n r.1 m∧Pth (TrB p B E) n r.2.1 s∧e=(r.1,(m:Int)):=by
 obtain ⟨p',A',fa,steps,L⟩:=d
 obtain ⟨H,e1,e2,hL⟩:=M
 dsimp only at H e1 e2 hL
 subst e1
 subst e2
 have hf:=H.few
 have hsh:=H.sy.short r (List.mem_of_getElem? hr)
 unfold Ks
 rw [Option.bind_some]
 unfold Cj
 refine AO (OH H hs hr) fun b hb=> ?_
 refine Ae (fun hc=>AG ⟨by simp,fun e=>⟨(fun h=>by cases h),fun h=> ?_⟩⟩) fun hc=> ?_
 ·have:=hb.2 h.1
  rw [this] at hc
  cases hc
 have hit:=hb.1 (by simpa using hc)
 refine AZ hr (AR (LF H.fin) ?_)
 refine CT (fun n (w:List Edge)=>w.length≤n∧ ∀e,e ∈ w ↔ ∃n' m:Nat,n'<n∧TrB p' B E n' r.1 m∧Pth (TrB p' B E) n' r.2.1 s∧e=(r.1,(m:Int))) (by omega) ⟨by simp,fun e=>⟨fun h=>(by cases h),fun ⟨n',m,h,_⟩=>by omega⟩⟩ (fun n w hn hw=> ?_) fun w hw=>AG ⟨by have:=hw.1; omega,fun e=> ?_⟩
 ·obtain ⟨w1,w2⟩:=hw
  have hbn:=List.getElem?_eq_getElem hn
  obtain ⟨es,he⟩:=H.fin.edge hbn
  refine AO (TW H.vp H.fin hbn he r.1) fun t ht=> ?_
  refine AO (Q:=fun c=>c=true ↔ ∃m:Nat,t=(m:Int)∧TrB p' B E n r.1 m∧Pth (TrB p' B E) n r.2.1 s) (Ae (fun hc=> ?_) fun hc=>AG ?_) fun c hc=> ?_
  ·have hc:=of_decide_eq_true hc
   have htr:TrB p' B E n r.1 t.toNat:=⟨_,es,hbn,he,by rw [Int.toNat_of_nonneg hc]; exact ht⟩
   refine AO (Qy H.vp H.fin hn (by omega)) fun x hx=>AG ?_
   obtain ⟨x1,x2⟩:=hx
   constructor
   ·intro h
    have hx:x=(s:Int):=eq_of_beq h
    subst hx
    exact ⟨t.toNat,by omega,htr,(O9 H.fin hn).1 x1⟩
   ·rintro ⟨m,h1,h2,h3⟩
    have:=Walk.unique H.fin x1 (PO H.fin hn h3)
    rw [this]
    simp
  ·have hc:=of_decide_eq_false hc
   constructor
   ·intro h; cases h
   ·rintro ⟨m,h1,_⟩; omega
  ·refine AO (Q:=fun (w:List Edge)=>w.length≤n+1∧ ∀e,e ∈ w ↔ ∃n' m:Nat,n'<n+1∧TrB p' B E n' r.1 m∧Pth (TrB p' B E) n' r.2.1 s∧e=(r.1,(m:Int))) (Ae (fun h=> ?_) fun h=>AG ⟨by omega,fun e=> ?_⟩) fun w hw=>AG hw
   ·obtain ⟨m,rfl,h2,h3⟩:=hc.1 h
    refine Bp (by simp; omega) (AG ⟨by simp; omega,fun e=> ?_⟩)
    rw [List.mem_append,w2,List.mem_singleton]
    constructor
    ·rintro (⟨n',m',a,b,c,e⟩ | e)
     ·exact ⟨n',m',by omega,b,c,e⟩
     ·exact ⟨n,m,by omega,h2,h3,e⟩
    ·rintro ⟨n',m',a,b,c,e⟩
     rcases Nat.lt_succ_iff_lt_or_eq.1 a with a | rfl
     ·exact .inl ⟨n',m',a,b,c,e⟩
     ·rw [H.aut.fn b h2] at e
      exact .inr e
   ·rw [w2]
    constructor
    ·rintro ⟨n',m',a,b⟩; exact ⟨n',m',by omega,b⟩
    ·rintro ⟨n',m',a,b,c,e⟩
     rcases Nat.lt_succ_iff_lt_or_eq.1 a with a | rfl
     ·exact ⟨n',m',a,b,c,e⟩
     ·exfalso
      have:=hc.2 ⟨m',?_,b,c⟩
      ·rw [this] at h; cases h
      ·obtain ⟨b',e',hb',he',hg⟩:=b
       rw [hbn] at hb'; cases hb'
       rw [he] at he'; cases he'
       exact IB.unique H.fin ht hg
 ·rw [hw.2]
  constructor
  ·rintro ⟨n',m,_,b,c,e⟩; exact ⟨hit,n',m,b,c,e⟩
  ·rintro ⟨_,n',m,b,c,e⟩; exact ⟨n',m,(H.aut.st b).1,b,c,e⟩
end
end Go.Proofs.YteolcjbobmpdiaaGreatDoor
namespace Go.Proofs.YteolcjbobmpdiaaGreatDoor
open Go Go.Eng
set_option linter.unusedVariables false
set_option maxRecDepth 100000
noncomputable def Cm:Option Bool:=
 (Db).bind fun t1=>
 (By (t1.1,t1.2.1,t1.2.2.1,t1.2.2.2.1,t1.2.2.2.2.1,t1.2.2.2.2.2.1,t1.2.2.2.2.2.2)).bind fun t2=>
 (cond (!t2.2.2.2.2.2.2.2.2)
 (some true)
 (some ((((List.length t2.2.2.1):Nat):Int) !=(6:Int)))).bind fun z4=>
 cond z4
 (some false)
 (t2.2.2.2.2.2.2.1.bind fun e81=>
  (BO e81 (0:Int) (5:Int)).bind fun t6=>
  (cond (decide (t6>(0:Int)))
  ((Kr t2.2.2.2.2.2.2.2.1 t6).bind fun t8=>
   (Cr t8 ([(5:Int)] :List Int)).bind fun t10=>
   cond t10
   ((PK t2.2.2.2.2.2.2.2.1 t6 (5:Int)).bind fun t11=>
    (Cr t11 ([(0:Int)] :List Int)).bind fun t13=>
    cond t13
    ((Ks t2.2.2.2.2.2.2.2.1 t6 (5:Int)).bind fun t14=>
     some ((((List.length t14):Nat):Int)==(1:Int)))
    (some false))
   (some false))
  (some false)).bind fun z7=>
  some z7)
theorem Hr {φ:AC} {h:AE} {F:List Chk} (gk:Lb φ) (s0:St φ (F) h) {r:Bool} (hd:Cm=some r):
 CallsH Tryz.prog 13 [] h (Aq fun v h'=> ∃ψ:AC,∃y:Bool,Sub φ ψ∧v=((.one aB):Sh).val y∧y=r∧St ψ (F) h'):=by
 refine AQ mixed Tryz.func13 ?_
 rw [Hm]
 unfold FM
 unfold Cm at hd
 obtain ⟨bp,a5,hd⟩:=bS hd
 refine AI (Hq s0 a5) ?_
 rintro _ bq ⟨br,t1,bs,bt,bu,bv,bw,f,rfl,rfl,a6,a7,a8,a9,aa,ab⟩
 refine ⟨t1,rfl,?_⟩
 try dsimp only at hd
 obtain ⟨bx,ac,hd⟩:=bS hd
 refine AI (El (small_0:=(t1.1,t1.2.1,t1.2.2.1,t1.2.2.2.1,t1.2.2.2.2.1,t1.2.2.2.2.2.1,t1.2.2.2.2.2.2.1,())) (gk.mono f) a6 a7 a8 a9 aa ab ac) ?_
 rintro _ bz ⟨m,t2,c0,c1,c2,c3,c4,c5,c6,s,o,rfl,rfl,c7,c8,ad,c9,ca,cb,ae,af⟩
 refine ⟨t2,rfl,?_⟩
 try dsimp only at hd
 have ag:=ad.length
 refine AU (vs:= [.slice none 0 0, .slice none 0 0, .slice none 0 0, .slice none 0 0, .slice none 0 0, .slice none 0 0]) af fun r3 cc ah=> ?_
 refine AP ah rfl rfl fun cd ai=> ?_
 refine AP ai rfl rfl fun ce aj=> ?_
 refine AP aj rfl rfl fun cf ak=> ?_
 refine AP ak rfl rfl fun cg al=> ?_
 refine AP al rfl rfl fun ch am=> ?_
 refine AP am rfl rfl fun ci p=> ?_
 obtain ⟨an,d,hd⟩:=bS hd
 refine Ao (fun (y:Bool×Unit) w_ g=> ∃ψ:AC,Sub m ψ∧y.1=g∧St ψ (cW 32 r3 [sv t2.1.1,sv t2.1.2.1,sv t2.1.2.2.1,sv t2.1.2.2.2.1,sv t2.1.2.2.2.2.1,sv t2.1.2.2.2.2.2.1] ::⟨Da, [.pointer t2.2.2.1],s⟩::F) w_) (g:=an) ?_ ?_
 ·refine AK d rfl (fun _ d=> ?_) (fun _ d=> ?_)
  ·have ao:=p.at1
   obtain rfl:=iS d
   exact AS (true,()) rfl ⟨m,(Sub.refl _),rfl,ao.at1⟩
  refine AA (x:=t2.1.2.2.1) p rfl ?_
  have ap:=p.at1.at1
  obtain rfl:=iS d
  exact AS ((((t2.1.2.2.1.2.1:Nat):Int) !=(6:Int)),()) rfl ⟨m,(Sub.refl _),(by rw [ag]),ap⟩
 rintro z4 cj ⟨aq,i,rfl,u⟩
 try dsimp only at hd
 refine AK hd rfl (fun _ hd=> ?_) (fun _ hd=> ?_)
 ·obtain rfl:=iS hd
  exact AB ⟨aq,false,((f.trans o).trans i),rfl,rfl,u.tail.tail⟩
 obtain ⟨ck,ar,hd⟩:=bS hd
 obtain ⟨cl,au,hd⟩:=bS hd
 refine AI (C2 (((ae.mono i)).get ar) u au) ?_
 rintro _ cm ⟨w,t6,z,rfl,rfl,a0⟩
 refine ⟨t6,rfl,?_⟩
 obtain ⟨av,c,hd⟩:=bS hd
 refine Ao (fun (y:Bool×Unit) w_ g=> ∃ψ:AC,Sub w ψ∧y.1=g∧St ψ (cW 32 r3 [sv t2.1.1,sv t2.1.2.1,sv t2.1.2.2.1,sv t2.1.2.2.2.1,sv t2.1.2.2.2.2.1,sv t2.1.2.2.2.2.2.1] ::⟨Da, [.pointer t2.2.2.1],s⟩::F) w_) (g:=av) ?_ ?_
 ·refine AK c rfl (fun _ c=> ?_) (fun _ c=> ?_)
  ·have aw:=a0.at1
   obtain ⟨cn,ax,c⟩:=bS c
   refine AI (Mf aw ax) ?_
   rintro _ co ⟨cp,t8,cq,j,rfl,rfl,ay,az⟩
   refine ⟨t8,rfl,?_⟩
   refine AU (vs:= [.int .i64 (5:Int)]) az fun r9 cr b0=> ?_
   have b1:=St.lit (r:=(Ro.int .i64)) (l:=([(5:Int)] :List Int)) (n:=1) b0 (.cons (a:= [_]) rfl .nil) rfl (by decide)
   obtain ⟨cs,e,b2,b3⟩:=St.freezeRow (t:=((some ⟨r9,0,none⟩,1,1):Slc)) b1
   obtain ⟨ct,b4,c⟩:=bS c
   refine AI (Ek (ay.mono e) b2 b3 b4) ?_
   rintro _ cu ⟨b5,t10,k,rfl,rfl,a1⟩
   refine ⟨t10,rfl,?_⟩
   refine AK c rfl (fun _ c=> ?_) (fun _ c=> ?_)
   ·obtain ⟨cv,b6,c⟩:=bS c
    refine AI (PL (gk.b.mono ((((((f.trans o).trans i).trans z).trans j).trans e).trans k)) a1 b6) ?_
    rintro _ cw ⟨cx,t11,cy,a2,rfl,rfl,b7,b8⟩
    refine ⟨t11,rfl,?_⟩
    refine AU (vs:= [.int .i64 (0:Int)]) b8 fun r12 cz b9=> ?_
    have ba:=St.lit (r:=(Ro.int .i64)) (l:=([(0:Int)] :List Int)) (n:=1) b9 (.cons (a:= [_]) rfl .nil) rfl (by decide)
    obtain ⟨d0,q,bb,bc⟩:=St.freezeRow (t:=((some ⟨r12,0,none⟩,1,1):Slc)) ba
    obtain ⟨d1,bd,c⟩:=bS c
    refine AI (Ek (b7.mono q) bb bc bd) ?_
    rintro _ d2 ⟨be,t13,a3,rfl,rfl,a4⟩
    refine ⟨t13,rfl,?_⟩
    refine AK c rfl (fun _ c=> ?_) (fun _ c=> ?_)
    ·obtain ⟨d3,bf,c⟩:=bS c
     refine AI (Mg a4 bf) ?_
     rintro _ d4 ⟨bg,t14,d5,bh,rfl,rfl,bi,bj⟩
     refine ⟨t14,rfl,?_⟩
     have bk:=bi.length
     have bl:=bj.at1
     obtain rfl:=iS c
     exact AS ((((t14.2.1:Nat):Int)==(1:Int)),()) rfl ⟨bg,((((((j.trans e).trans k).trans a2).trans q).trans a3).trans bh),(by rw [bk]),bl⟩
    obtain rfl:=iS c
    exact AS (false,()) rfl ⟨be,(((((j.trans e).trans k).trans a2).trans q).trans a3),rfl,a4.at1⟩
   obtain rfl:=iS c
   exact AS (false,()) rfl ⟨b5,((j.trans e).trans k),rfl,a1.at1⟩
  obtain rfl:=iS c
  exact AS (false,()) rfl ⟨w,(Sub.refl _),rfl,a0.at1.at1⟩
 rintro z7 d6 ⟨bm,bn,rfl,bo⟩
 try dsimp only at hd
 obtain rfl:=iS hd
 exact AB ⟨bm,z7.1,((((f.trans o).trans i).trans z).trans bn),rfl,rfl,bo.tail.tail⟩
set_option maxRecDepth 1000000
theorem QX:Cm=some true:=by kernel_rfl
end Go.Proofs.YteolcjbobmpdiaaGreatDoor
namespace Go.Proofs.YteolcjbobmpdiaaGreatDoor
open Go Go.Eng Dg
set_option linter.unusedVariables false
set_option maxRecDepth 100000
theorem R5 {β γ:Type} {P:γ→Prop} {f:Int→Option (AW Int (AW Unit β))} {k:AW Unit β→Option γ} (n:Nat) (hn:n≤1000000) (hs: ∀i:Nat,i<n→Ok (f (i:Int)) (fun e=>e= .next ((i+1:Nat):Int))) (he:f (n:Int)=some (.done (.next ()))) (hk:Ok (k (.next ())) P):Ok ((loop (0:Int) f).bind k) P:=by
 refine De (fun z=> ∃i:Nat,z=(i:Int)∧i≤n) (fun z=>n - z.toNat) (fun b=>b= .next ()) ⟨0,rfl,Nat.zero_le _⟩ (fun z hz=> ?_) fun b hb=>by rw [hb]; exact hk
 obtain ⟨i,rfl,hi⟩:=hz
 rcases Nat.lt_or_eq_of_le hi with h | rfl
 ·obtain ⟨e,e1,rfl⟩:=hs i h
  exact ⟨_,e1, .inl ⟨_,rfl,⟨i+1,rfl,h⟩,by omega⟩⟩
 ·exact ⟨_,he, .inr ⟨_,rfl,rfl⟩⟩
theorem wr1 {i n:Nat} (h:i<n) (hn:n≤1000000):IntKind.wrap .i64 ((i:Int) +(1:Int))=((i+1:Nat):Int):=by rw [w64 (by omega) (by omega)]; omega
theorem U2 {β γ:Type} {P:γ→Prop} {f:Int→Unit→Option (AW Unit β)} {k:AW Unit β→Option γ} (n:Nat) (hn:n≤1000000000) (hs: ∀i:Nat,i<n→f (i:Int) ()=some (.next ())) (hk:Ok (k (.next ())) P):Ok ((Cv (0:Int) (n:Int) () f).bind k) P:=by
 refine F8 (fun _ _=>True) (fun _=>False) (by omega) trivial (fun j _ hj _=>⟨_,hs j hj, .inl ⟨(),rfl,trivial⟩⟩) (fun _ _=>hk) fun b hb=>hb.elim
section
variable {p:dtP} {B:List dtK} {E:List (List Edge)} {d:LkD} {tt:Int}
theorem R6 {l:List Int} {b:dtK} (M:MkI p B E d tt) {n:Nat} (hb:B[n]? =some b):(Ck p.2.2.1 b.2.1).length≤10100:=by
 have:=NW p.2.2.1 b.2.1
 have:=(M.all.fin.good M.all.vp hb).2.2.2.2
 omega
theorem U3 {l:List Int} :decide ((((List.length l):Nat):Int) >(0:Int))=true ↔ ∃j,j ∈ l:=by
 rw [decide_eq_true_eq]
 constructor
 ·intro h
  cases l with
  | nil=>simp at h
  | cons a l=>exact ⟨a,List.mem_cons_self⟩
 ·rintro ⟨j,hj⟩
  have:=List.length_pos_of_mem hj
  omega
theorem PQ {l:List Edge} :decide ((((List.length l):Nat):Int) >(0:Int))=true ↔ ∃j,j ∈ l:=by
 rw [decide_eq_true_eq]
 constructor
 ·intro h
  cases l with
  | nil=>simp at h
  | cons a l=>exact ⟨a,List.mem_cons_self⟩
 ·rintro ⟨j,hj⟩
  have:=List.length_pos_of_mem hj
  omega
end
end Go.Proofs.YteolcjbobmpdiaaGreatDoor
namespace Go.Proofs.YteolcjbobmpdiaaGreatDoor
open Go Go.Eng
set_option linter.unusedVariables false
set_option maxRecDepth 100000
noncomputable def CG (small_0:Lf):Option Bool:=
 (Cm).bind fun t2=>
 (Bh (small_0.1,small_0.2.1,small_0.2.2.1,small_0.2.2.2.1,small_0.2.2.2.2.1,small_0.2.2.2.2.2.1,small_0.2.2.2.2.2.2) (12:Int) (5:Int)).bind fun t10=>
 cond (!t10)
 (some t2)
 ((By (small_0.1,small_0.2.1,small_0.2.2.1,small_0.2.2.2.1,small_0.2.2.2.2.1,small_0.2.2.2.2.2.1,small_0.2.2.2.2.2.2)).bind fun t18=>
  cond (!t18.2.2.2.2.2.2.2.2)
  (some t2)
  ((loop (σ:=Int) (β:=AW Unit Bool) (0:Int) fun z21=>
   t18.2.2.2.2.2.2.1.bind fun e86=>
   (BW e86).bind fun t22=>
   cond (decide (z21<t22))
   ((Kr t18.2.2.2.2.2.2.2.1 z21).bind fun t23=>
    (Bf e86 z21).bind fun t24=>
    (Cv (σ:=Int) (β:=Bool) (0:Int) (((List.length t24):Nat):Int) (0:Int) fun i_z26 z26=>
     ((idx t24 i_z26).bind fun e137=>
     cond (decide (e137.1≥ (0:Int)))
     ((idx t24 i_z26).bind fun e148=>
      cond (decide (e148.1< (((List.length t18.2.2.1):Nat):Int)))
      ((idx t24 i_z26).bind fun e159=>
       (idx t24 i_z26).bind fun e170=>
       (idx t18.2.2.1 e170.1).bind fun e181=>
       some (e159.2==(((List.length e181.2.1):Nat):Int)))
      (some false))
     (some false)).bind fun z27=>
     ((cond z27
     ((cond (decide (z26≥ (((List.length t23):Nat):Int)))
      (some true)
      ((idx t23 z26).bind fun e213=>
       (idx t24 i_z26).bind fun e222=>
       some (e213 !=e222.1))).bind fun z41=>
      cond z41
      (some (AW.done false))
      (some (AW.next (IntKind.wrap .i64 (z26+(1:Int))))))
     (some (AW.next z26))):Option (AW Int Bool)).bind fun e_z40=>match e_z40 with
     | .next z40=>
      some (AW.next z40)
     | .done q251=>some (AW.done q251)).bind fun e_z25=>match e_z25 with
    | .next z25=>
     cond (z25 !=(((List.length t23):Nat):Int))
     (some (AW.done (AW.done false)))
     ((Cv (σ:=Unit) (β:=Bool) (0:Int) (((List.length t18.2.2.1):Nat):Int) () fun i_z47 z47=>
      (Ce t23 i_z47).bind fun t49=>
      ((PK t18.2.2.2.2.2.2.2.1 z21 i_z47).bind fun t51=>
      cond (!((decide ((((List.length t51):Nat):Int) >(0:Int)))==t49))
      (some true)
      ((Ks t18.2.2.2.2.2.2.2.1 z21 i_z47).bind fun t52=>
       cond t49
       (some (!((decide ((((List.length t52):Nat):Int) >(0:Int)))==(decide (i_z47>(0:Int))))))
       (some (!((decide ((((List.length t52):Nat):Int) >(0:Int)))==false))))).bind fun z50=>
      cond z50
      (some (AW.done false))
      (some (AW.next ()))).bind fun e_z46=>match e_z46 with
      | .next z46=>
       some (AW.next (IntKind.wrap .i64 (z21+(1:Int))))
      | .done q349=>some (AW.done (AW.done q349)))
    | .done q351=>some (AW.done (AW.done q351)))
   (some (AW.done (AW.next ())))).bind fun e_z20=>match e_z20 with
   | .next z20=>
    some t2
   | .done q364=>some q364))
theorem GM {φ:AC} {h:AE} {F:List Chk} {small_0:Int×Int×Slc×Slc×Slc×Slc×Slc×Unit} {af:List Int} {ag:List (List Int)} {ah:List Int} {ai:List Int} {aj:List Int} (gk:Lb φ) (ak:Ro.SliceIs (Ro.int .u8) φ small_0.2.2.1 af) (al:Ro.SliceIs (Ro.list (Ro.int .u8)) φ small_0.2.2.2.1 ag) (am:Ro.SliceIs (Ro.int .u8) φ small_0.2.2.2.2.1 ah) (an:Ro.SliceIs (Ro.int .u8) φ small_0.2.2.2.2.2.1 ai) (ao:Ro.SliceIs (Ro.int .u8) φ small_0.2.2.2.2.2.2.1 aj) (s0:St φ (F) h) {r:Bool} (hd:CG (small_0.1,small_0.2.1,af,ag,ah,ai,aj)=some r):
 CallsH Tryz.prog 5 [(.agg #[(.int .u8 small_0.1),(.int .u8 small_0.2.1),(sv small_0.2.2.1),(sv small_0.2.2.2.1),(sv small_0.2.2.2.2.1),(sv small_0.2.2.2.2.2.1),(sv small_0.2.2.2.2.2.2.1)])] h (Aq fun v h'=> ∃ψ:AC,∃y:Bool,Sub φ ψ∧v=((.one aB):Sh).val y∧y=r∧St ψ (F) h'):=by
 refine AQ mixed Tryz.func5 ?_
 rw [GL]
 unfold EF
 unfold CG at hd
 refine AU (vs:= [.int .u8 small_0.1, .int .u8 small_0.2.1,sv small_0.2.2.1,sv small_0.2.2.2.1,sv small_0.2.2.2.2.1,sv small_0.2.2.2.2.2.1,sv small_0.2.2.2.2.2.2.1]) s0 fun r1 f0 bi=> ?_
 obtain ⟨f1,bj,hd⟩:=bS hd
 refine AI (Hr gk bi bj) ?_
 rintro _ f2 ⟨f3,t2,d,rfl,rfl,q⟩
 refine ⟨t2,rfl,?_⟩
 refine AA (x:=small_0.1) q rfl ?_
 refine AA (x:=small_0.2.1) q rfl ?_
 refine AA (x:=small_0.2.2.1) q rfl ?_
 refine AA (x:=small_0.2.2.2.1) q rfl ?_
 refine AA (x:=small_0.2.2.2.2.1) q rfl ?_
 refine AA (x:=small_0.2.2.2.2.2.1) q rfl ?_
 refine AA (x:=small_0.2.2.2.2.2.2.1) q rfl ?_
 obtain ⟨f4,bk,hd⟩:=bS hd
 refine AI (F6 (s_0:=(small_0.1,small_0.2.1,small_0.2.2.1,small_0.2.2.2.1,small_0.2.2.2.2.1,small_0.2.2.2.2.2.1,small_0.2.2.2.2.2.2.1,())) (ak.mono d) (al.mono d) (am.mono d) (an.mono d) (ao.mono d) q bk) ?_
 rintro _ f5 ⟨bl,t10,e,rfl,rfl,n⟩
 refine ⟨t10,rfl,?_⟩
 refine AK hd rfl (fun _ hd=> ?_) (fun _ hd=> ?_)
 ·obtain rfl:=iS hd
  exact AB ⟨bl,t2,(d.trans e),rfl,rfl,n.tail⟩
 refine AA (x:=small_0.1) n rfl ?_
 refine AA (x:=small_0.2.1) n rfl ?_
 refine AA (x:=small_0.2.2.1) n rfl ?_
 refine AA (x:=small_0.2.2.2.1) n rfl ?_
 refine AA (x:=small_0.2.2.2.2.1) n rfl ?_
 refine AA (x:=small_0.2.2.2.2.2.1) n rfl ?_
 refine AA (x:=small_0.2.2.2.2.2.2.1) n rfl ?_
 obtain ⟨f6,bm,hd⟩:=bS hd
 refine AI (El (small_0:=(small_0.1,small_0.2.1,small_0.2.2.1,small_0.2.2.2.1,small_0.2.2.2.2.1,small_0.2.2.2.2.2.1,small_0.2.2.2.2.2.2.1,())) (gk.mono (d.trans e)) (ak.mono (d.trans e)) (al.mono (d.trans e)) (am.mono (d.trans e)) (an.mono (d.trans e)) (ao.mono (d.trans e)) n bm) ?_
 rintro _ f7 ⟨a4,t18,f8,f9,fa,fb,fc,fd,fe,k,z,rfl,rfl,ff,fg,ap,fh,fi,fj,bn,bo⟩
 refine ⟨t18,rfl,?_⟩
 try dsimp only at hd
 have aa:=ap.length
 refine AU (vs:= [.slice none 0 0, .slice none 0 0, .slice none 0 0, .slice none 0 0, .slice none 0 0, .slice none 0 0]) bo fun r19 fk bp=> ?_
 refine AP bp rfl rfl fun fl bq=> ?_
 refine AP bq rfl rfl fun fm br=> ?_
 refine AP br rfl rfl fun fn bs=> ?_
 refine AP bs rfl rfl fun fo bt=> ?_
 refine AP bt rfl rfl fun fp bu=> ?_
 refine AP bu rfl rfl fun fq aq=> ?_
 refine AK hd rfl (fun _ hd=> ?_) (fun _ hd=> ?_)
 ·obtain rfl:=iS hd
  exact AB ⟨a4,t2,((d.trans e).trans z),rfl,rfl,aq.tail.tail.tail⟩
 obtain ⟨bv,bw,hd⟩:=bS hd
 refine AV (fun (y:Int×Bool×Unit) w_ g=> ∃ψ:AC,Sub a4 ψ∧AW.next ()=g∧St ψ (cW 32 r19 [sv t18.1.1,sv t18.1.2.1,sv t18.1.2.2.1,sv t18.1.2.2.2.1,sv t18.1.2.2.2.2.1,sv t18.1.2.2.2.2.2.1] ::⟨Da, [.pointer t18.2.2.1],k⟩::cW 25 r1 [.int .u8 small_0.1, .int .u8 small_0.2.1,sv small_0.2.2.1,sv small_0.2.2.2.1,sv small_0.2.2.2.2.1,sv small_0.2.2.2.2.2.1,sv small_0.2.2.2.2.2.2.1] ::F) w_) (g:=bv) ?_ ?_
 ·refine EM bw (fun (y:Int×Bool×Unit) w_ g=> ∃ψ:AC,Sub a4 ψ∧y.1=g∧St ψ (cW 32 r19 [sv t18.1.1,sv t18.1.2.1,sv t18.1.2.2.1,sv t18.1.2.2.2.1,sv t18.1.2.2.2.2.1,sv t18.1.2.2.2.2.2.1] ::⟨Da, [.pointer t18.2.2.1],k⟩::cW 25 r1 [.int .u8 small_0.1, .int .u8 small_0.2.1,sv small_0.2.2.1,sv small_0.2.2.2.1,sv small_0.2.2.2.2.1,sv small_0.2.2.2.2.2.1,sv small_0.2.2.2.2.2.2.1] ::F) w_) ((0:Int),false,()) rfl ⟨a4,(Sub.refl _),rfl,aq.at2.at2.at2⟩ ?_
  ·rintro z21 fr _ _ ⟨fs,s,rfl,bx⟩ a a5
   try dsimp only at a
   obtain ⟨ft,bz,a⟩:=bS a
   have ar:=((bn.mono s)).get bz
   obtain ⟨fu,c0,a⟩:=bS a
   refine AI (CK ar bx c0) ?_
   rintro _ fv ⟨c1,t22,t,rfl,rfl,au⟩
   refine ⟨t22,rfl,?_⟩
   refine AK a rfl (fun _ a=> ?_) (fun _ a=> ?_)
   ·have c2:=au.at1
    obtain ⟨fw,c3,a⟩:=bS a
    refine AI (Mf c2 c3) ?_
    rintro _ fx ⟨fy,t23,fz,w,rfl,rfl,ab,c4⟩
    refine ⟨t23,rfl,?_⟩
    have av:=ab.length
    obtain ⟨g0,c5,a⟩:=bS a
    refine AI (DB (ar.mono (t.trans w)) c4 c5) ?_
    rintro _ g1 ⟨ac,t24,g2,u,rfl,rfl,a0,c6⟩
    refine ⟨t24,rfl,?_⟩
    have aw:=a0.length
    obtain ⟨c7,c8,a⟩:=bS a
    refine AV (fun (y:Int×Int×Bool×Unit) w_ g=> ∃ψ:AC,Sub ac ψ∧AW.next y.2.1=g∧St ψ (⟨Da, [.pointer t18.2.2.1],k⟩::cW 32 r19 [sv t18.1.1,sv t18.1.2.1,sv t18.1.2.2.1,sv t18.1.2.2.2.1,sv t18.1.2.2.2.2.1,sv t18.1.2.2.2.2.2.1] ::cW 25 r1 [.int .u8 small_0.1, .int .u8 small_0.2.1,sv small_0.2.2.1,sv small_0.2.2.2.1,sv small_0.2.2.2.2.1,sv small_0.2.2.2.2.2.1,sv small_0.2.2.2.2.2.2.1] ::F) w_) (g:=c7) ?_ ?_
    ·refine Bq c8 (fun c9 (y:Int×Int×Bool×Unit) w_ g=> ∃ψ:AC,Sub ac ψ∧y.1=c9∧y.2.1=g∧St ψ (⟨Da, [.pointer t18.2.2.1],k⟩::cW 32 r19 [sv t18.1.1,sv t18.1.2.1,sv t18.1.2.2.1,sv t18.1.2.2.2.1,sv t18.1.2.2.2.2.1,sv t18.1.2.2.2.2.2.1] ::cW 25 r1 [.int .u8 small_0.1, .int .u8 small_0.2.1,sv small_0.2.2.1,sv small_0.2.2.2.1,sv small_0.2.2.2.2.1,sv small_0.2.2.2.2.2.1,sv small_0.2.2.2.2.2.2.1] ::F) w_) ((0:Int),(0:Int),z21.2.1,()) rfl ⟨ac,(Sub.refl _),rfl,rfl,c6.at2.at2.at2⟩ ?_ ?_
     ·rintro _ z26 g3 _ _ ⟨a6,o,rfl,rfl,l⟩ m ca ax ay cb
      try dsimp only at m ca ax ay
      refine Ag (dT aw ax) ?_
      obtain ⟨cc,c,m⟩:=bS m
      refine Ao (fun (y:Bool×Unit) w_ g=> ∃ψ:AC,Sub a6 ψ∧y.1=g∧St ψ (⟨Da, [.pointer t18.2.2.1],k⟩::cW 32 r19 [sv t18.1.1,sv t18.1.2.1,sv t18.1.2.2.1,sv t18.1.2.2.2.1,sv t18.1.2.2.2.2.1,sv t18.1.2.2.2.2.2.1] ::cW 25 r1 [.int .u8 small_0.1, .int .u8 small_0.2.1,sv small_0.2.2.1,sv small_0.2.2.2.1,sv small_0.2.2.2.2.1,sv small_0.2.2.2.2.2.1,sv small_0.2.2.2.2.2.2.1] ::F) w_) (g:=cc) ?_ ?_
      ·obtain ⟨cd,ce,c⟩:=bS c
       obtain ⟨g4,g5,cf,cg,ch,ci⟩:=(a0.mono o).get ce
       refine AF _ cf (Ac cg ?_)
       obtain ⟨_,_,rfl,cj,ck⟩:=ch
       obtain rfl:=cj
       obtain rfl:=ck
       refine AH (x:=cd.1) (AD l.sub (ci 0 _ rfl)) rfl ?_
       refine AK c rfl (fun _ c=> ?_) (fun _ c=> ?_)
       ·obtain ⟨cl,cm,c⟩:=bS c
        obtain ⟨g6,g7,cn,co,cp,cq⟩:=(a0.mono o).get cm
        refine AF _ cn (Ac co ?_)
        obtain ⟨_,_,rfl,cr,cs⟩:=cp
        obtain rfl:=cr
        obtain rfl:=cs
        refine AH (x:=cl.1) (AD l.sub (cq 0 _ rfl)) rfl ?_
        refine AA (x:=t18.1.2.2.1) l.at1 rfl ?_
        refine AK c (by rw [aa] <;>rfl) (fun _ c=> ?_) (fun _ c=> ?_)
        ·obtain ⟨az,ct,c⟩:=bS c
         obtain ⟨g8,g9,cu,cv,cw,cx⟩:=(a0.mono o).get ct
         refine AF _ cu (Ac cv ?_)
         obtain ⟨_,_,rfl,cy,cz⟩:=cw
         obtain rfl:=cy
         obtain rfl:=cz
         refine AH (x:=az.2) (by rw [Ad]; exact (AD l.sub (cx 1 _ rfl))) rfl ?_
         refine AA (x:=t18.1.2.2.1) l.at1 rfl ?_
         obtain ⟨d0,d1,c⟩:=bS c
         obtain ⟨ga,gb,d2,d3,d4,d5⟩:=(a0.mono o).get d1
         refine AF _ d2 (Ac d3 ?_)
         obtain ⟨_,_,rfl,d6,d7⟩:=d4
         obtain rfl:=d6
         obtain rfl:=d7
         refine AH (x:=d0.1) (AD l.sub (d5 0 _ rfl)) rfl ?_
         obtain ⟨gc,d8,c⟩:=bS c
         obtain ⟨gd,ge,d9,da,db,dc⟩:=(ap.mono ((((s.trans t).trans w).trans u).trans o)).get d8
         refine AF _ d9 (Ac da ?_)
         obtain ⟨_,_,rfl,dd,de⟩:=db
         obtain rfl:=dd
         obtain ⟨_,_,rfl,df,dg⟩:=de
         obtain ⟨b0,rfl,dh⟩:=df
         have di:=dh.length
         obtain rfl:=dg
         refine AH (x:=b0) (by rw [Ad]; exact (AD l.sub (dc 1 _ rfl))) rfl ?_
         have dj:=l.at2.at2.at2
         obtain rfl:=iS c
         exact AS ((az.2==((b0.2.1:Nat):Int)),()) rfl ⟨a6,(Sub.refl _),(by rw [di]),dj⟩
        obtain rfl:=iS c
        exact AS (false,()) rfl ⟨a6,(Sub.refl _),rfl,l.at2.at2.at2⟩
       obtain rfl:=iS c
       exact AS (false,()) rfl ⟨a6,(Sub.refl _),rfl,l.at2.at2.at2⟩
      rintro z27 gf ⟨a1,a7,rfl,a2⟩
      try dsimp only at m
      obtain ⟨dk,i,m⟩:=bS m
      refine Ao (fun (y:Int×Bool×Unit) w_ g=> ∃ψ:AC,Sub a1 ψ∧AW.next y.1=g∧St ψ (⟨Da, [.pointer t18.2.2.1],k⟩::cW 32 r19 [sv t18.1.1,sv t18.1.2.1,sv t18.1.2.2.1,sv t18.1.2.2.2.1,sv t18.1.2.2.2.2.1,sv t18.1.2.2.2.2.2.1] ::cW 25 r1 [.int .u8 small_0.1, .int .u8 small_0.2.1,sv small_0.2.2.1,sv small_0.2.2.2.1,sv small_0.2.2.2.2.1,sv small_0.2.2.2.2.2.1,sv small_0.2.2.2.2.2.2.1] ::F) w_) (g:=dk) ?_ ?_
      ·refine AK i rfl (fun _ i=> ?_) (fun _ i=> ?_)
       ·obtain ⟨dl,p,i⟩:=bS i
        refine Ao (fun (y:Bool×Unit) w_ g=> ∃ψ:AC,Sub a1 ψ∧y.1=g∧St ψ (⟨Da, [.pointer t18.2.2.1],k⟩::cW 32 r19 [sv t18.1.1,sv t18.1.2.1,sv t18.1.2.2.1,sv t18.1.2.2.2.1,sv t18.1.2.2.2.2.1,sv t18.1.2.2.2.2.2.1] ::cW 25 r1 [.int .u8 small_0.1, .int .u8 small_0.2.1,sv small_0.2.2.1,sv small_0.2.2.2.1,sv small_0.2.2.2.2.1,sv small_0.2.2.2.2.2.1,sv small_0.2.2.2.2.2.2.1] ::F) w_) (g:=dl) ?_ ?_
        ·refine AK p (by rw [av] <;>rfl) (fun _ p=> ?_) (fun _ p=> ?_)
         ·have dm:=a2.at2
          obtain rfl:=iS p
          exact AS (true,()) rfl ⟨a1,(Sub.refl _),rfl,dm.at2.at2⟩
         obtain ⟨dn,dp,p⟩:=bS p
         refine DM ab dp (Sub.trans ((u.trans o).trans a7) a2.sub) ?_
         obtain ⟨b1,dq,p⟩:=bS p
         obtain ⟨gg,gh,dr,ds,dt,du⟩:=(a0.mono (o.trans a7)).get dq
         refine AF _ dr (Ac ds ?_)
         obtain ⟨_,_,rfl,dv,dw⟩:=dt
         obtain rfl:=dv
         obtain rfl:=dw
         refine AH (x:=b1.1) (AD a2.sub (du 0 _ rfl)) rfl ?_
         obtain rfl:=iS p
         exact AS ((dn !=b1.1),()) rfl ⟨a1,(Sub.refl _),rfl,a2.at2.at2.at2⟩
        rintro z41 gi ⟨b2,b3,rfl,b4⟩
        try dsimp only at i
        refine AK i rfl (fun _ i=> ?_) (fun _ i=> ?_)
        ·obtain rfl:=iS i
         try dsimp only at m
         obtain rfl:=iS m
         obtain rfl:=cb _ rfl
         try dsimp only at a
         obtain rfl:=iS a
         obtain rfl:=a5 _ rfl
         try dsimp only at hd
         obtain rfl:=iS hd
         exact Oa (Ah (An (Ah (An (AB ⟨b2,false,(((((((((d.trans e).trans z).trans s).trans t).trans w).trans u).trans o).trans a7).trans b3),rfl,rfl,b4.tail.tail.tail⟩)))))
        obtain rfl:=iS i
        exact AS ((wN z26.2.1),z26.2.2.1,()) rfl ⟨b2,b3,rfl,b4.at2.at2.at2⟩
       obtain rfl:=iS i
       exact AS (z26.2.1,z26.2.2.1,()) rfl ⟨a1,(Sub.refl _),rfl,a2.at2.at2.at2⟩
      rintro z40 gj ⟨dx,dy,rfl,dz⟩
      try dsimp only at m
      obtain rfl:=iS m
      exact Af ((wN z26.1),z40.1,z40.2.1,()) _ rfl rfl ⟨dx,((o.trans a7).trans dy),ay,rfl,dz.at2.at2.at2⟩
     ·rintro _ z26 gl _ ⟨e0,e1,rfl,rfl,e2⟩ e3 e4
      subst e4
      refine AY (dF aw e3) ?_
      exact AJ (AM (z26.1,z26.2.1,z26.2.2.1,()) rfl ⟨e0,e1,rfl,e2.at2.at2.at2⟩)
    rintro z25 gm ⟨a8,a3,rfl,b5⟩
    try dsimp only at a
    refine AK a (by rw [av] <;>rfl) (fun _ a=> ?_) (fun _ a=> ?_)
    ·obtain rfl:=iS a
     obtain rfl:=a5 _ rfl
     try dsimp only at hd
     obtain rfl:=iS hd
     exact Ah (An (AB ⟨a8,false,(((((((d.trans e).trans z).trans s).trans t).trans w).trans u).trans a3),rfl,rfl,b5.tail.tail.tail⟩))
    obtain ⟨e5,e6,a⟩:=bS a
    refine AV (fun (y:Int×Bool×Unit) w_ g=> ∃ψ:AC,Sub a8 ψ∧AW.next ()=g∧St ψ (⟨Da, [.pointer t18.2.2.1],k⟩::cW 32 r19 [sv t18.1.1,sv t18.1.2.1,sv t18.1.2.2.1,sv t18.1.2.2.2.1,sv t18.1.2.2.2.2.1,sv t18.1.2.2.2.2.2.1] ::cW 25 r1 [.int .u8 small_0.1, .int .u8 small_0.2.1,sv small_0.2.2.1,sv small_0.2.2.2.1,sv small_0.2.2.2.2.1,sv small_0.2.2.2.2.2.1,sv small_0.2.2.2.2.2.2.1] ::F) w_) (g:=e5) ?_ ?_
    ·refine Bq e6 (fun e7 (y:Int×Bool×Unit) w_ g=> ∃ψ:AC,Sub a8 ψ∧y.1=e7∧()=g∧St ψ (⟨Da, [.pointer t18.2.2.1],k⟩::cW 32 r19 [sv t18.1.1,sv t18.1.2.1,sv t18.1.2.2.1,sv t18.1.2.2.2.1,sv t18.1.2.2.2.2.1,sv t18.1.2.2.2.2.2.1] ::cW 25 r1 [.int .u8 small_0.1, .int .u8 small_0.2.1,sv small_0.2.2.1,sv small_0.2.2.2.1,sv small_0.2.2.2.2.1,sv small_0.2.2.2.2.2.1,sv small_0.2.2.2.2.2.2.1] ::F) w_) ((0:Int),z25.2.2.1,()) rfl ⟨a8,(Sub.refl _),rfl,rfl,b5.at2.at2.at2⟩ ?_ ?_
     ·rintro _ z47 gn _ _ ⟨go,a9,rfl,rfl,b6⟩ j e8 b7 b8 e9
      try dsimp only at j e8 b7 b8
      refine AA (x:=t18.1.2.2.1) b6.at1 rfl ?_
      refine Ag (dT aa b7) ?_
      obtain ⟨gp,ea,j⟩:=bS j
      refine AI (JW (ab.mono ((u.trans a3).trans a9)) b6 ea) ?_
      rintro _ gq ⟨eb,t49,ad,rfl,rfl,ec⟩
      refine ⟨t49,rfl,?_⟩
      obtain ⟨ed,f,j⟩:=bS j
      refine Ao (fun (y:Bool×Unit) w_ g=> ∃ψ:AC,Sub eb ψ∧y.1=g∧St ψ (⟨Da, [.pointer t18.2.2.1],k⟩::cW 32 r19 [sv t18.1.1,sv t18.1.2.1,sv t18.1.2.2.1,sv t18.1.2.2.2.1,sv t18.1.2.2.2.2.1,sv t18.1.2.2.2.2.2.1] ::cW 25 r1 [.int .u8 small_0.1, .int .u8 small_0.2.1,sv small_0.2.2.1,sv small_0.2.2.2.1,sv small_0.2.2.2.2.1,sv small_0.2.2.2.2.2.1,sv small_0.2.2.2.2.2.2.1] ::F) w_) (g:=ed) ?_ ?_
      ·obtain ⟨gr,ee,f⟩:=bS f
       refine AI (PL (gk.b.mono (((((((((d.trans e).trans z).trans s).trans t).trans w).trans u).trans a3).trans a9).trans ad)) ec ee) ?_
       rintro _ gs ⟨ef,t51,gt,ae,rfl,rfl,eg,b9⟩
       refine ⟨t51,rfl,?_⟩
       have eh:=eg.length
       refine AK f (by rw [eh] <;>rfl) (fun _ f=> ?_) (fun _ f=> ?_)
       ·have ei:=b9.at2
        obtain rfl:=iS f
        exact AS (true,()) rfl ⟨ef,ae,rfl,ei.at2.at2⟩
       obtain ⟨gu,ej,f⟩:=bS f
       refine AI (Mg b9 ej) ?_
       rintro _ gv ⟨ba,t52,gw,bb,rfl,rfl,ek,bc⟩
       refine ⟨t52,rfl,?_⟩
       have bd:=ek.length
       refine AK f rfl (fun _ f=> ?_) (fun _ f=> ?_)
       ·have el:=bc.at2
        have em:=el.at2.at2
        obtain rfl:=iS f
        exact AS ((!((decide (((t52.2.1:Nat):Int) >(0:Int)))==(decide (z47.1>(0:Int))))),()) rfl ⟨ba,(ae.trans bb),(by rw [bd]),em⟩
       have en:=bc.at2.at2.at2
       obtain rfl:=iS f
       exact AS ((!((decide (((t52.2.1:Nat):Int) >(0:Int)))==false)),()) rfl ⟨ba,(ae.trans bb),(by rw [bd]),en⟩
      rintro z50 gx ⟨be,bf,rfl,bg⟩
      try dsimp only at j
      refine AK j rfl (fun _ j=> ?_) (fun _ j=> ?_)
      ·obtain rfl:=iS j
       obtain rfl:=e9 _ rfl
       try dsimp only at a
       obtain rfl:=iS a
       obtain rfl:=a5 _ rfl
       try dsimp only at hd
       obtain rfl:=iS hd
       exact Ah (An (Ah (An (AB ⟨be,false,((((((((((d.trans e).trans z).trans s).trans t).trans w).trans u).trans a3).trans a9).trans ad).trans bf),rfl,rfl,bg.tail.tail.tail⟩))))
      obtain rfl:=iS j
      exact Af ((wN z47.1),z47.2.1,()) _ rfl rfl ⟨be,((a9.trans ad).trans bf),b8,rfl,bg.at2.at2.at2⟩
     ·rintro _ z47 gy _ ⟨eo,ep,rfl,rfl,bh⟩ er es
      subst es
      refine AA (x:=t18.1.2.2.1) bh.at1 rfl ?_
      refine AY (dF aa er) ?_
      exact AJ (AM (z47.1,z47.2.1,()) rfl ⟨eo,ep,rfl,bh.at2.at2.at2⟩)
    rintro z46 gz ⟨eu,ev,rfl,ew⟩
    try dsimp only at a
    obtain rfl:=iS a
    exact Af ((wN z21.1),z46.2.1,()) _ rfl rfl ⟨eu,(((((s.trans t).trans w).trans u).trans a3).trans ev),rfl,ew.at2.at1.at2⟩
   obtain rfl:=iS a
   obtain rfl:=a5 _ rfl
   exact AJ (AM (z21.1,z21.2.1,()) rfl ⟨c1,(s.trans t),rfl,au.at2.at2.at2⟩)
 rintro z20 h0 ⟨ex,ey,rfl,ez⟩
 try dsimp only at hd
 obtain rfl:=iS hd
 exact AB ⟨ex,t2,(((d.trans e).trans z).trans ey),rfl,rfl,ez.tail.tail.tail⟩
end Go.Proofs.YteolcjbobmpdiaaGreatDoor
namespace Go.Proofs.YteolcjbobmpdiaaGreatDoor
open Go Go.Eng Dg
set_option linter.unusedVariables false
set_option maxRecDepth 100000
section
variable {p:dtP} {B:List dtK} {E:List (List Edge)} {d:LkD} {tt:Int}
set_option maxHeartbeats 1000000 in
theorem OI {s:Lf} (G:SmG s):CG s=some true:=by
 refine Ok.eq ?_
 unfold CG
 refine AR QX (AO (Vd G 12 5) fun b hb=>Ae (fun _=>AG rfl) fun hb'=> ?_)
 refine AO (U0 G (hb (by simpa using hb'))) fun m hm=> ?_
 rcases hm with hm | ⟨hm,p,B,E,d,tt,nt,nl,hp,hA,hd,hpl,M⟩
 ·exact Cg (by simp [hm]) (AG rfl)
 refine Al (by simp [hm]) ?_
 have hR:m.2.2.1=p.2.2.1:=by rw [← hp]
 rw [hA,hd,hR]
 have H:=M.all
 have A:=H.aut
 have hf:=H.few
 refine R5 B.length (by omega) (fun i hi=> ?_) ?_ (AG rfl)
 ·have hbi:=List.getElem?_eq_getElem hi
  obtain ⟨bi,hbe⟩: ∃b,B[i] =b:=⟨_,rfl⟩
  rw [hbe] at hbi
  obtain ⟨g1,g2,g3,g4,g5⟩:=H.fin.good H.vp hbi
  have hdl:=R6 (l:= []) M hbi
  refine AR rfl (AR (LF H.fin) (Cg (decide_eq_true (by omega)) (AR (R1 M hbi) (AR (MX H.vp H.fin hbi) ?_))))
  refine F8 (fun k (z:Int)=>z=(((Ck p.2.2.1 (bi.2.1.take k)).length:Nat):Int)) (fun _=>False) (by omega) (by simp [Ck]) (fun k z hk hz=> ?_) (fun z hz=> ?_) fun b hb=>hb.elim
  ·subst hz
   have hx:=List.getElem?_eq_getElem hk
   obtain ⟨x,hxe⟩: ∃x,bi.2.1[k] =x:=⟨_,rfl⟩
   rw [hxe] at hx
   obtain ⟨x0,x1,r,hr,hr2⟩:=g2.ok x (List.mem_of_getElem? hx)
   have hs:bi.2.1.take (k+1)=bi.2.1.take k++ [x] :=by rw [List.take_add_one,hx]; rfl
   have hsn:=Mo (l:=bi.2.1.take k) hr
   have hlt:=BQ hr
   refine AO (Q:=fun c=>c=decide (x.2=((r.2.1.length:Nat):Int))) (AZ hx (Cg (decide_eq_true x0) (AZ hx (Cg (decide_eq_true (by omega)) (AZ hx (AZ hx (DS x0 hr (AG ?_)))))))) fun c hc=> ?_
   ·rw [Bool.eq_iff_iff]; simp
   refine AO (Q:=fun (e:AW Int Bool)=>e= .next (((Ck p.2.2.1 (bi.2.1.take (k+1))).length:Nat):Int)) ?_ fun e he=>by rw [he]; exact CJ rfl
   rw [hs,hsn]
   refine Ae (fun h=> ?_) fun h=>AG ?_
   ·rw [hc,decide_eq_true_eq] at h
    rw [if_pos h]
    have hall:Ck p.2.2.1 bi.2.1=Ck p.2.2.1 (bi.2.1.take k) ++ [x.1] ++Ck p.2.2.1 (bi.2.1.drop (k+1)):=by
     have e:bi.2.1=bi.2.1.take (k+1) ++bi.2.1.drop (k+1):=(List.take_append_drop _ _).symm
     conv=>lhs; rw [e]
     have h2: ∀l m:List Item,Ck p.2.2.1 (l++m)=Ck p.2.2.1 l++Ck p.2.2.1 m:=fun l m=>by unfold Ck; rw [List.filter_append,List.map_append]
     rw [h2,hs,hsn,if_pos h]
    have hat:(Ck p.2.2.1 bi.2.1)[(Ck p.2.2.1 (bi.2.1.take k)).length]? =some x.1:=by
     rw [hall,List.append_assoc,List.getElem?_append_right (Nat.le_refl _)]
     simp
    have hll:=BQ hat
    refine AO (Q:=fun c=>c=false) (Al (decide_eq_false (by omega)) (AZ hat (AZ hx (AG (by simp))))) fun c hc=> ?_
    subst hc
    refine Al rfl (AG ?_)
    rw [wr1 (n:=1000000) (by omega) (by omega)]
    simp
   ·rw [hc,decide_eq_false_iff_not] at h
    rw [if_neg h]
  ·subst hz
   rw [List.take_of_length_le (Nat.le_refl _)]
   refine Al (by simp) ?_
   have hRf:=H.vp.few
   refine U2 p.2.2.1.length (by omega) (fun k hk=>Ok.eq ?_) (AG (by rw [wr1 hi (by omega)]))
   have hr:=List.getElem?_eq_getElem hk
   obtain ⟨r,hre⟩: ∃r,p.2.2.1[k] =r:=⟨_,rfl⟩
   rw [hre] at hr
   have hin:(k:Int) ∈ Ck p.2.2.1 bi.2.1 ↔ It p.2.2.1 (KB B) i k r.2.1.length:=by
    rw [T6 M hbi]
    constructor
    ·rintro ⟨k',r',e,h1,h2⟩
     have:k=k':=by omega
     subst this
     rw [hr] at h1; cases h1
     exact h2
    ·exact fun h=>⟨k,r,rfl,hr,h⟩
   refine AR (WV (by omega) (k:Int)) (AO (Q:=fun c=>c=false) (AO (U1 M (s:=i) hk) fun t ht=> ?_) fun c hc=>by rw [hc]; exact Al rfl (AG rfl))
   have hld:=Qz H.gr A (s:=i) (k:=k) hi hr
   have e1:decide ((((List.length t):Nat):Int) >(0:Int))=decide ((k:Int) ∈ Ck p.2.2.1 bi.2.1):=by
    rw [Bool.eq_iff_iff,U3,decide_eq_true_eq,hin,← hld]
    exact ⟨fun ⟨j,hj⟩=>⟨j,(ht.1 j).1 hj⟩,fun ⟨j,hj⟩=>⟨j,(ht.1 j).2 hj⟩⟩
   refine Al (by rw [e1]; simp) (AO (R4 M hi hr) fun w hw=> ?_)
   have hwd:=fun h=>Rq H.gr A (s:=i) (k:=k) hi hr h
   refine Ae (fun h=>AG ?_) fun h=>AG ?_
   ·have hit:=hin.1 (of_decide_eq_true h)
    have:decide ((((List.length w):Nat):Int) >(0:Int))=decide ((k:Int) >0):=by
     rw [Bool.eq_iff_iff,PQ,decide_eq_true_eq]
     constructor
     ·rintro ⟨e,he⟩
      obtain ⟨_,n,m,h1,h2,_⟩:=(hw.2 e).1 he
      have:=(hwd hit).1 ⟨n,m,h1,h2⟩
      omega
     ·intro hk0
      obtain ⟨n,m,h1,h2⟩:=(hwd hit).2 (by omega)
      exact ⟨_,(hw.2 _).2 ⟨hit,n,m,h1,h2,rfl⟩⟩
    rw [this]
    simp
   ·have hit: ¬It p.2.2.1 (KB B) i k r.2.1.length:=fun g=>by
     have:=decide_eq_true (hin.2 g)
     rw [this] at h
     cases h
    have:decide ((((List.length w):Nat):Int) >(0:Int))=false:=by
     rw [Bool.eq_false_iff]
     intro g
     obtain ⟨e,he⟩:=PQ.1 g
     exact hit ((hw.2 e).1 he).1
    rw [this]
    rfl
 ·exact Ok.eq (AR rfl (AR (LF H.fin) (Al (decide_eq_false (by omega)) (AG rfl))))
end
end Go.Proofs.YteolcjbobmpdiaaGreatDoor
namespace Go.Proofs.YteolcjbobmpdiaaGreatDoor
open Go Go.Eng
set_option linter.unusedVariables false
section
variable {h:AE}
theorem lookDone {n:Nat} {cs:List Value} (gk:Lb (BJ h)) (hr:FU Tryz.prog h n 25 cs):CallsH Tryz.prog 5 [.agg cs.toArray] h (Aq (Sm h)):=by
 obtain ⟨s,d2,d3,d4,d5,d6,rfl,h2,h3,h4,h5,h6,G⟩:=TD hr
 exact Sn (GM (small_0:=s) gk h2 h3 h4 h5 h6 (St.start h) (OI G))
end
end Go.Proofs.YteolcjbobmpdiaaGreatDoor
