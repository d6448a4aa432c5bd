/-
  Laws, put together.
  Conditions: none; each part tells its own.
-/
import Derived.Test.YtnkmpgldbddnkaaDoorK4
import Derived.Test.YtnkmpgldbddnkaaDoorRows
import Derived.MakeChecks
import Derived.Stop.LaidErr
import Derived.Lib.LaidTab
namespace Go.Proofs.YtnkmpgldbddnkaaDoor
open Go Go.Eng
set_option linter.unusedVariables false
set_option maxRecDepth 100000
theorem glob_of {W:World} (hL:laidMetH Tryd.prog Rows.statesQuotaRow.laid W):FC (BT W.heap):=by
 rw [MakeChecks.laidMetH_plain _ _ _ (by kernel_rfl)] at hL
 have h1:laidMet Tryd.prog (("internal/strconv.uint64pow10",Lib.tabData .u64 Lib.pow10Tab):: []) W:=hL.tail.tail
 have hg:Tryd.prog.globalNamed "internal/strconv.uint64pow10" =some 0:=by kernel_rfl
 have h2:=Lib.tabIs_of_head hg (by kernel_rfl) Tryd.underlying151 Tryd.underlying118 (by kernel_rfl) (by kernel_rfl) h1
 unfold Lib.TabIs World.var? at h2
 rw [hg,Option.bind_some] at h2
 cases hb:W.heap[0]? with
 | none=>rw [hb] at h2; cases h2
 | some o=>
  rw [hb] at h2
  cases o with
  | cells cs t f=>cases h2; exact ⟨0,t,f,hg,hb⟩
  | _=>cases h2
theorem wf8 {x:Int} (h:(Lit.int .u8 x).wf=true):0≤x∧x<256:=by
 simp only [Lit.wf,Bool.and_eq_true,decide_eq_true_eq] at h
 have e1:IntKind.min .u8=0:=rfl
 have e2:IntKind.max .u8=255:=rfl
 omega
theorem N4 {α:Type} {cs:List α} (h:cs.length=7): ∃a b c d e f g,cs= [a,b,c,d,e,f,g] :=by
 match cs,h with
 | [a,b,c,d,e,f,g],_=>exact ⟨a,b,c,d,e,f,g,rfl⟩
section
variable {h:AF}
theorem GY {n:Nat} {cs:List Value} (hr:Cb Tryd.prog h n 22 cs): ∃(t:Slc) (l:List Int),cs= [.slice t.1 t.2.1 t.2.2] ∧Ro.SliceIs (Ro.int .u8) (BT h) t l∧l.length≤9223372036854775807∧ ∀x ∈ l,0≤x∧x<256:=by
 obtain ⟨l,⟨t,e,hs⟩,h1,h2⟩:=(Dj Tryd.underlying22 (by kernel_rfl) (GK Tryd.underlying5)) n cs hr
 exact ⟨t,l,e,hs,h1,fun x hx=>wf8 (h2 x hx)⟩
theorem J1 {n:Nat} {p:Option Addr} {len cap:Nat} (hr:Cb Tryd.prog h n 22 [.slice p len cap]): ∃l,Ro.SliceIs (Ro.int .u8) (BT h) (p,len,cap) l∧ ∀x ∈ l,0≤x∧x<256:=by
 obtain ⟨l,h1,_,h2⟩:=MZ (Dj Tryd.underlying22 (by kernel_rfl) (GK Tryd.underlying5)) hr
 exact ⟨l,h1,fun x hx=>wf8 (h2 x hx)⟩
theorem Ma {n:Nat} {cs:List Value} (hr:Cb Tryd.prog h n 23 cs): ∃(t:Slc) (l:List (List Int)),cs= [.slice t.1 t.2.1 t.2.2] ∧Ro.SliceIs (Ro.list (Ro.int .u8)) (BT h) t l∧l.length≤9223372036854775807∧ ∀r ∈ l,r.length≤9223372036854775807∧ ∀x ∈ r,0≤x∧x<256:=by
 obtain ⟨l,⟨t,e,hs⟩,h1,h2⟩:=(Dj Tryd.underlying23 (by kernel_rfl) (Dj Tryd.underlying22 (by kernel_rfl) (GK Tryd.underlying5))) n cs hr
 exact ⟨t,l,e,hs,h1,fun r hr=>⟨(h2 r hr).1,fun x hx=>wf8 ((h2 r hr).2 x hx)⟩⟩
theorem GM {n:Nat} {cs:List Value} (H:Cb Tryd.prog h n 25 cs): ∃(x:Int×Int×Slc×Slc×Slc×Slc×Slc×Unit) (d2:List Int) (d3:List (List Int)) (d4 d5 d6:List Int),
 cs= [.int .u8 x.1, .int .u8 x.2.1,sv x.2.2.1,sv x.2.2.2.1,sv x.2.2.2.2.1,sv x.2.2.2.2.2.1,sv x.2.2.2.2.2.2.1] ∧Ro.SliceIs (Ro.int .u8) (BT h) x.2.2.1 d2∧Ro.SliceIs (Ro.list (Ro.int .u8)) (BT h) x.2.2.2.1 d3∧
 Ro.SliceIs (Ro.int .u8) (BT h) x.2.2.2.2.1 d4∧Ro.SliceIs (Ro.int .u8) (BT h) x.2.2.2.2.2.1 d5∧Ro.SliceIs (Ro.int .u8) (BT h) x.2.2.2.2.2.2.1 d6∧SmG (x.1,x.2.1,d2,d3,d4,d5,d6):=by
 cases n with
 | zero=>exact H.elim
 | succ n=>
  unfold Cb at H
  rw [Tryd.underlying25] at H
  obtain ⟨hlen,hf⟩:=H
  have hlen:cs.length=7:=hlen.trans (by kernel_rfl)
  obtain ⟨a,b,c,d,e,f,g,rfl⟩:=N4 hlen
  have e1:Tryd.prog.cellsOf 5=1:=by kernel_rfl
  have e2:Tryd.prog.cellsOf 22=1:=by kernel_rfl
  have e3:Tryd.prog.cellsOf 23=1:=by kernel_rfl
  have f0:=hf _ (.head _)
  have f1:=hf _ (.tail _ (.head _))
  have f2:=hf _ (.tail _ (.tail _ (.head _)))
  have f3:=hf _ (.tail _ (.tail _ (.tail _ (.head _))))
  have f4:=hf _ (.tail _ (.tail _ (.tail _ (.tail _ (.head _)))))
  have f5:=hf _ (.tail _ (.tail _ (.tail _ (.tail _ (.tail _ (.head _))))))
  have f6:=hf _ (.tail _ (.tail _ (.tail _ (.tail _ (.tail _ (.tail _ (.head _)))))))
  dsimp only at f0 f1 f2 f3 f4 f5 f6
  rw [e1] at f0 f1
  rw [e2] at f2 f4 f5 f6
  rw [e3] at f3
  obtain ⟨x0,h0,w0⟩:=Hc Tryd.underlying5 f0
  obtain ⟨x1,h1,w1⟩:=Hc Tryd.underlying5 f1
  obtain ⟨t2,l2,h2,s2,n2,w2⟩:=GY f2
  obtain ⟨t3,l3,h3,s3,n3,w3⟩:=Ma f3
  obtain ⟨t4,l4,h4,s4,n4,w4⟩:=GY f4
  obtain ⟨t5,l5,h5,s5,n5,w5⟩:=GY f5
  obtain ⟨t6,l6,h6,s6,n6,w6⟩:=GY f6
  have h0: [a] =_:=h0
  have h1: [b] =_:=h1
  have h2: [c] =_:=h2
  have h3: [d] =_:=h3
  have h4: [e] =_:=h4
  have h5: [f] =_:=h5
  have h6: [g] =_:=h6
  simp only [List.cons.injEq,and_true] at h0 h1 h2 h3 h4 h5 h6
  exact ⟨(x0,x1,t2,t3,t4,t5,t6,()),l2,l3,l4,l5,l6,by rw [h0,h1,h2,h3,h4,h5,h6],s2,s3,s4,s5,s6,⟨wf8 w0,wf8 w1,⟨n2,w2⟩,⟨n3,w3⟩,⟨n4,w4⟩,⟨n5,w5⟩,⟨n6,w6⟩⟩⟩
theorem quota {n:Nat} {cs:List Value} {x:Int} (gk:FC (BT h)) (hr:Cb Tryd.prog h n 25 cs) (hx:(Lit.int .u8 x).wf=true):CallsH Tryd.prog 3 [.agg cs.toArray, .int .u8 x] h (BO (Ia h)):=by
 obtain ⟨s,d2,d3,d4,d5,d6,rfl,h2,h3,h4,h5,h6,G⟩:=GM hr
 exact GL (EA (small_0:=s) gk h2 h3 h4 h5 h6 (St.start h) (LY G (wf8 hx)))
theorem closes {n:Nat} {cs:List Value} (gk:FC (BT h)) (hr:Cb Tryd.prog h n 25 cs):CallsH Tryd.prog 4 [.agg cs.toArray] h (BO (Ia h)):=by
 obtain ⟨s,d2,d3,d4,d5,d6,rfl,h2,h3,h4,h5,h6,G⟩:=GM hr
 exact GL (D2 (small_0:=s) gk h2 h3 h4 h5 h6 (St.start h) (Ke G))
theorem rules {n:Nat} {cs:List Value} (gk:FC (BT h)) (hr:Cb Tryd.prog h n 25 cs):CallsH Tryd.prog 6 [.agg cs.toArray] h (BO (Ia h)):=by
 obtain ⟨s,d2,d3,d4,d5,d6,rfl,h2,h3,h4,h5,h6,G⟩:=GM hr
 exact GL (EC (small_0:=s) gk h2 h3 h4 h5 h6 (St.start h) (La G))
theorem apart {n:Nat} {cs:List Value} (gk:FC (BT h)) (hr:Cb Tryd.prog h n 25 cs):CallsH Tryd.prog 7 [.agg cs.toArray] h (BO (Ia h)):=by
 obtain ⟨s,d2,d3,d4,d5,d6,rfl,h2,h3,h4,h5,h6,G⟩:=GM hr
 exact GL (ED (small_0:=s) gk h2 h3 h4 h5 h6 (St.start h) (Lb G))
theorem walks {n m k:Nat} {cs:List Value} {x:Int} {p q:Option Addr} {len cap len' cap':Nat} (gk:FC (BT h)) (hr:Cb Tryd.prog h n 25 cs) (hx:(Lit.int .u8 x).wf=true) (hp:Cb Tryd.prog h m 22 [.slice p len cap]) (hq:Cb Tryd.prog h k 22 [.slice q len' cap']):
 CallsH Tryd.prog 5 [.agg cs.toArray, .int .u8 x, .slice p len cap, .slice q len' cap'] h (BO (Ia h)):=by
 obtain ⟨s,d2,d3,d4,d5,d6,rfl,h2,h3,h4,h5,h6,G⟩:=GM hr
 obtain ⟨l,h7,w7⟩:=J1 hp
 obtain ⟨l',h8,w8⟩:=J1 hq
 exact GL (EB (small_0:=s) gk h2 h3 h4 h5 h6 h7 h8 (St.start h) (LZ G (wf8 hx) w7 w8))
end
end Go.Proofs.YtnkmpgldbddnkaaDoor
