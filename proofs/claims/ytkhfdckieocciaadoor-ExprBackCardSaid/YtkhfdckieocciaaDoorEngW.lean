/-
  MORE LAWS: string(bytes). Conditions: none.
-/
import Derived.Test.YtkhfdckieocciaaDoorEngV
namespace Go.Eng
open Go
theorem bytes_loop {P : Program} {X : Value → Heap → Prop} {h : Heap} : ∀ (l : List UInt8) (acc : ByteArray) {K : ByteArray → Heap → Prop}, K ⟨acc.data ++ l.toArray⟩ h →
    semWp P (forIn (l.map fun b => Value.int .u8 (b.toNat : Int)) acc fun c s => match c with
      | .int .u8 n => (pure (ForInStep.yield (s.push (UInt8.ofNat n.toNat))) : Sem (ForInStep ByteArray))
      | _ => stuck "bytesToString: byte expected") K X h := by
  intro l
  induction l with
  | nil => intro acc K hk; show K acc h; simpa using hk
  | cons b r ih =>
    intro acc K hk
    simp only [List.map_cons, List.forIn_cons]
    have e : UInt8.ofNat ((b.toNat : Int)).toNat = b := by simp
    rw [e]
    refine ih (acc.push b) ?_
    simpa [ByteArray.push] using hk
theorem convBytes_wp {P : Program} {src dst e : TypeId} {h : Heap} {p : Option Addr} {c : Nat} {l : List UInt8} (hs : P.underlying src = some (.slice e)) (he : P.underlying e = some (.int .u8)) (hd : P.underlying dst = some .string)
    (hp : CellsAt h p (l.map fun b => Value.int .u8 (b.toNat : Int))) {K X : Value → Heap → Prop} (hk : K (.string ⟨l.toArray⟩) h) : semWp P (convert src dst (.slice p l.length c)) K X h := by
  unfold convert
  refine underlying_run hs (underlying_run hd ?_)
  refine underlying_run he ?_
  dsimp only
  unfold Conv.bytesToString
  cases p with
  | none =>
    cases l with
    | nil => exact hk
    | cons b r => obtain ⟨a, ha, _⟩ := hp 0 _ rfl; cases ha
  | some a =>
    dsimp only
    refine semWp_bind _ _ ?_
    show semWp P (loadCellsFrom a 0 l.length #[]) _ X h
    have hl : l.length = (l.map fun b => Value.int .u8 (b.toNat : Int)).length := by simp
    rw [hl]
    refine loadCells_wp (l.map fun b => Value.int .u8 (b.toNat : Int)) 0 #[] (fun j v hj => by
      obtain ⟨a', ha', hc⟩ := hp j v hj
      cases ha'
      simpa using hc) ?_
    refine semWp_bind _ _ ?_
    have e0 : (#[] ++ (l.map fun b => Value.int .u8 (b.toNat : Int)).toArray : Array Value) = (l.map fun b => Value.int .u8 (b.toNat : Int)).toArray := by simp
    rw [e0, List.forIn_toArray]
    exact bytes_loop l _ (show K _ h by simpa using hk)
end Go.Eng
