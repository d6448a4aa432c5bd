/-
  THE MAILBOX: the law MailboxRoom, over a heap. Conditions: none.
-/
import Derived.Test.YtaghpjmgnjkejaaLaws1
namespace Go.Proofs.Ytaghpjmgnjkejaa
open Go Go.Eng
set_option linter.unusedVariables false

theorem room (room many polls more : Int) (h : Heap) : CallsH Try.prog 5 [.int .i64 room, .int .i64 many, .int .i64 polls, .int .i64 more] h (Back (Truth h)) := by
  refine calls_of mixed Try.func5 ?_
  rw [tronagelaw04_MailboxRoom_den]
  unfold tronagelaw04_MailboxRoom_T
  refine t_callB (awake h) fun v h1 ⟨hv, K1⟩ => ⟨true, hv, ?_⟩
  refine t_callB (newI room h1) fun v h2 ⟨b, c, hv, B, K2, hb, hc⟩ => ⟨some ⟨b, 0, none⟩, hv, ?_⟩
  have hlt := B.lt
  have K12 : Keep [] h h2 := K1.trans K2
  have hs1 := K1.1
  have hcap := roomOf_spec room
  have hfin : ∀ g, Keep [c] h2 g → Keep [] h g := fun g k => K12.new k (fun i hi => .inr (by simp at hi; omega))
  refine t_join' (fun (z : Bool × Unit) g => h2 = g ∧ (z.1 = false → many ≤ 100 ∧ polls ≤ 100 ∧ more ≤ 100)) ?_ ?_
  · refine t_false rfl (t_cond (fun h1 => ⟨(true, ()), rfl, rfl, fun h => by cases h⟩) fun h1 => t_cond (fun h2 => ⟨(true, ()), rfl, rfl, fun h => by cases h⟩) fun h2 => ⟨(_, ()), rfl, rfl, fun h3 => ?_⟩)
    simp at h1 h2 h3
    exact ⟨h1, h2, h3⟩
  rintro ⟨z, u⟩ g ⟨rfl, hz⟩
  refine t_cond (fun hbig => t_join (t_true rfl (t_jout (true, ()) rfl (t_ret (finOf_back ⟨rfl, K12⟩))))) (fun hsmall => ?_)
  obtain ⟨hm1, hm2, hm3⟩ := hz hsmall
  -- between the loops: the box and the number that waits in it
  refine t_for (fun y g => ∃ (wait : List Int), (0 : Int) ≤ y.1 ∧ y.2.1 = ((wait.length : Nat) : Int) ∧ wait.length ≤ roomOf room ∧ BoxAt g b c (roomOf room) (wait.map vI) ∧ Keep [c] h2 g)
    (fun y _ => (many - y.1).toNat)
    (fun y g => ∃ (wait : List Int), y.2.1 = ((wait.length : Nat) : Int) ∧ wait.length ≤ roomOf room ∧ BoxAt g b c (roomOf room) (wait.map vI) ∧ Keep [c] h2 g)
    (0, 0, false, ()) rfl ⟨[], by decide, rfl, by simp, by simpa using B, Keep.refl _ _⟩ ?_ ?_
  · rintro ⟨(z : Int), (w : Int), u, u'⟩ g ⟨wait, e1, e2, hw, hB, hK⟩
    dsimp only at e1 e2 ⊢
    subst e2
    refine t_cond (fun hl => ?_) (fun hl => ?_)
    · have hl : z < many := by simpa using hl
      refine t_callB (offerI z hB) fun v g1 ⟨hv, B1, K3⟩ => ⟨decide (wait.length < roomOf room), by simpa using hv, ?_⟩
      refine t_callB (roomI B1) fun v g2 ⟨hv, hg⟩ => ⟨_, hv, ?_⟩
      subst hg
      refine t_false (by simp) (t_join (t_cond (fun hr => ?_) (fun hr => ?_)))
      · have hr2 : wait.length < roomOf room := by simpa using hr
        rw [if_pos (by simpa using hr2)] at B1
        rw [w64 (n := z + 1) (by omega) (by omega)]
        rw [w64 (by omega) (by omega)]
        refine t_jout ((wait.length : Int) + 1, ()) rfl (t_next (z + 1, (wait.length : Int) + 1, u, ()) rfl ⟨wait ++ [z], by dsimp only; omega, by simp, by simp; omega, by simpa using B1, hK.trans K3⟩ (by dsimp only; omega))
      · have hr2 : ¬ wait.length < roomOf room := by simpa using hr
        rw [if_neg (by simpa using hr2)] at B1
        rw [w64 (n := z + 1) (by omega) (by omega)]
        exact t_jout ((wait.length : Int), ()) rfl (t_next (z + 1, (wait.length : Int), u, ()) rfl ⟨wait, by dsimp only; omega, rfl, hw, B1, hK.trans K3⟩ (by dsimp only; omega))
    · exact t_exit (z, (wait.length : Int), u, ()) rfl ⟨wait, rfl, hw, hB, hK⟩
  rintro ⟨z1, (w : Int), u, u'⟩ g ⟨wait, e2, hw, hB, hK⟩
  dsimp only at e2 ⊢
  subst e2
  refine t_for (fun y g => ∃ (wait : List Int), (0 : Int) ≤ y.1 ∧ y.2.1 = ((wait.length : Nat) : Int) ∧ wait.length ≤ roomOf room ∧ BoxAt g b c (roomOf room) (wait.map vI) ∧ Keep [c] h2 g)
    (fun y _ => (polls - y.1).toNat)
    (fun y g => ∃ (wait : List Int), y.2.1 = ((wait.length : Nat) : Int) ∧ wait.length ≤ roomOf room ∧ BoxAt g b c (roomOf room) (wait.map vI) ∧ Keep [c] h2 g)
    (0, (wait.length : Int), u, ()) rfl ⟨wait, Int.le_refl _, rfl, hw, hB, hK⟩ ?_ ?_
  · clear hB hK hw
    rintro ⟨(z : Int), (w : Int), u, u'⟩ g ⟨wait, e1, e2, hw, hB, hK⟩
    dsimp only at e1 e2 ⊢
    subst e2
    refine t_cond (fun hl => ?_) (fun hl => ?_)
    · have hl : z < polls := by simpa using hl
      refine t_callB (pollI hB) fun v g1 hv => ?_
      cases wait with
      | nil =>
        obtain ⟨rfl, hg⟩ := hv
        subst hg
        refine ⟨(0, false, ()), rfl, t_false rfl (t_join (t_false rfl ?_))⟩
        rw [w64 (n := z + 1) (by omega) (by omega)]
        exact t_jout ((([] : List Int).length : Int), ()) rfl (t_next (z + 1, (([] : List Int).length : Int), u, ()) rfl ⟨[], by dsimp only; omega, rfl, hw, hB, hK⟩ (by dsimp only; omega))
      | cons x rest =>
        obtain ⟨rfl, B1, K3⟩ := hv
        refine ⟨(x, true, ()), rfl, t_false (by simp) (t_join (t_true rfl ?_))⟩
        simp only [List.length_cons] at hw ⊢
        rw [w64 (n := z + 1) (by omega) (by omega)]
        rw [w64 (by omega) (by omega)]
        have e : ((rest.length + 1 : Nat) : Int) - 1 = rest.length := by omega
        rw [e]
        exact t_jout ((rest.length : Int), ()) rfl (t_next (z + 1, (rest.length : Int), u, ()) rfl ⟨rest, by dsimp only; omega, rfl, by omega, B1, hK.trans K3⟩ (by dsimp only; omega))
    · exact t_exit (z, (wait.length : Int), u, ()) rfl ⟨wait, rfl, hw, hB, hK⟩
  clear hB hK hw
  rintro ⟨z1, (w : Int), u, u'⟩ g ⟨wait, e2, hw, hB, hK⟩
  dsimp only at e2 ⊢
  subst e2
  refine t_for (fun y g => ∃ (wait : List Int), (0 : Int) ≤ y.1 ∧ y.2.1 = ((wait.length : Nat) : Int) ∧ wait.length ≤ roomOf room ∧ BoxAt g b c (roomOf room) (wait.map vI) ∧ Keep [c] h2 g)
    (fun y _ => (more - y.1).toNat)
    (fun y g => ∃ (wait : List Int), y.2.1 = ((wait.length : Nat) : Int) ∧ wait.length ≤ roomOf room ∧ BoxAt g b c (roomOf room) (wait.map vI) ∧ Keep [c] h2 g)
    (0, (wait.length : Int), u, ()) rfl ⟨wait, Int.le_refl _, rfl, hw, hB, hK⟩ ?_ ?_
  · clear hB hK hw
    rintro ⟨(z : Int), (w : Int), u, u'⟩ g ⟨wait, e1, e2, hw, hB, hK⟩
    dsimp only at e1 e2 ⊢
    subst e2
    refine t_cond (fun hl => ?_) (fun hl => ?_)
    · have hl : z < more := by simpa using hl
      refine t_callB (offerI _ hB) fun v g1 ⟨hv, B1, K3⟩ => ⟨decide (wait.length < roomOf room), by simpa using hv, ?_⟩
      refine t_callB (roomI B1) fun v g2 ⟨hv, hg⟩ => ⟨_, hv, ?_⟩
      subst hg
      refine t_false (by simp) (t_join (t_cond (fun hr => ?_) (fun hr => ?_)))
      · have hr2 : wait.length < roomOf room := by simpa using hr
        rw [if_pos (by simpa using hr2)] at B1
        rw [w64 (n := z + 1) (by omega) (by omega)]
        rw [w64 (n := (wait.length : Int) + 1) (by omega) (by omega)]
        refine t_jout ((wait.length : Int) + 1, ()) rfl (t_next (z + 1, (wait.length : Int) + 1, u, ()) rfl ⟨wait ++ [IntKind.wrap .i64 (1000 + z)], by dsimp only; omega, by simp, by simp; omega, by simpa using B1, hK.trans K3⟩ (by dsimp only; omega))
      · have hr2 : ¬ wait.length < roomOf room := by simpa using hr
        rw [if_neg (by simpa using hr2)] at B1
        rw [w64 (n := z + 1) (by omega) (by omega)]
        exact t_jout ((wait.length : Int), ()) rfl (t_next (z + 1, (wait.length : Int), u, ()) rfl ⟨wait, by dsimp only; omega, rfl, hw, B1, hK.trans K3⟩ (by dsimp only; omega))
    · exact t_exit (z, (wait.length : Int), u, ()) rfl ⟨wait, rfl, hw, hB, hK⟩
  clear hB hK hw
  rintro ⟨z1, (w : Int), u, u'⟩ g ⟨wait, e2, hw, hB, hK⟩
  dsimp only at e2 ⊢
  subst e2
  refine t_join' (fun (z : Bool × Unit) g' => z.1 = true ∧ g' = g) ?_ ?_
  · refine t_true rfl (t_callB (lenI hB) fun v g1 ⟨hv, hg⟩ => ⟨_, hv, ?_⟩)
    subst hg
    refine t_true (by simp) (t_callB (roomI hB) fun v g1 ⟨hv, hg⟩ => ⟨_, hv, ?_⟩)
    subst hg
    refine t_true (by simp; omega) (t_callB (roomI hB) fun v g1 ⟨hv, hg⟩ => ⟨_, hv, ?_⟩)
    subst hg
    refine t_true (by simp; omega) (t_cond (fun _ => ⟨(true, ()), rfl, rfl, rfl⟩) fun h1 => t_cond (fun _ => ⟨(true, ()), rfl, rfl, rfl⟩) fun h2 => t_callB (roomI hB) fun v g1 ⟨hv, hg⟩ => ⟨_, hv, ?_⟩)
    simp at h1 h2
    have e : ((roomOf room : Nat) : Int) = room := by rcases hcap.2.2.2 with e | e | e <;> first | exact e | omega
    exact ⟨(true, ()), by rw [e]; simp [Shs.of]; rfl, rfl, hg⟩
  rintro ⟨z, u⟩ g' ⟨e, rfl⟩
  dsimp only at e
  subst e
  exact t_ret (finOf_back ⟨rfl, hfin _ hK⟩)
end Go.Proofs.Ytaghpjmgnjkejaa
