/- From what a call does to what the statement says: the memory that the arguments stand in is lent whole, and stays as it is. Generic over any program. -/
import Derived.Test.YthfpmipeejjogaaGreatDoorBase9
import Derived.WalkKit
import Derived.ProofKit
import Derived.OpenShut
import Derived.ShutString
import Derived.ChangeOld
import Derived.Below
import Derived.SizedLaws
import Derived.Carry
import Derived.Deep.Slices
import Derived.DataReads
namespace Go.Proofs.YthfpmipeejjogaaGreatDoor.SL
open Go Go.RowKit

/-- all memory of a world, to read from -/
def all (W : World) : AH := fun b => W.heap[b]?
theorem all_cell {W : World} {a : Addr} {v : Value} (σ : AH) (h : W.cell? a = some v) : acell (all W) σ a = some v := by
  rw [cell?_eq] at h
  unfold acell rd all
  cases e : W.heap[a.block]? with
  | none => rw [e] at h; cases h
  | some o => rw [e] at h; exact h
theorem calls_of {P : Program} {W : World} {f : FuncId} {args : Array Value} {Q : Value → Prop} (h : ACalls P W (all W) f args (fun _ => none) fun v _ => Q v) :
    Calls P f args W fun e W' => (∃ v, e = .returned v ∧ Q v) ∧ Below W.heap.size W W' := by
  refine (h (fun _ => none) W ⟨rfl, rfl, rfl, fun _ _ e => by (cases e), fun _ _ e => by (cases e), fun _ _ e => e⟩).mono ?_
  rintro e W' ⟨v, σ', he, hq, ho⟩
  refine ⟨⟨v, he, hq⟩, ho.os, ho.tape, ho.output, ?_, fun k hk => ?_⟩
  · rcases Nat.eq_zero_or_pos W.heap.size with h0 | h0
    · rw [h0]; exact Nat.zero_le _
    · have := lt_of_block (ho.ro (W.heap.size - 1) _ (by unfold all; exact Array.getElem?_eq_getElem (by omega)))
      omega
  · have e := Array.getElem?_eq_getElem hk
    rw [e]; exact ho.ro k _ e

theorem trod_i64 {H : Type} {enc : TypeId × Value → H} {P : Program} {W : World} {t : TypeId} {fuel : Nat} {u : Value} {y : DataW H × List MemPlace} (ht : P.underlying t = some (.int .i64))
    (h : DataW.trod enc P W 0 (fun _ => true) true fuel t [u] = some y) : ∃ x : Int, u = .int .i64 x ∧ -9223372036854775808 ≤ x ∧ x < 9223372036854775808 := by
  cases fuel with
  | zero => cases h
  | succ n =>
    unfold DataW.trod at h
    rw [ht] at h
    cases u <;> simp at h
    rename_i k x
    refine ⟨x, by rw [h.1.1], ?_⟩
    have := h.1.2
    simp [Lit.wf, IntKind.min, IntKind.max, IntKind.bits, IntKind.signed] at this
    omega
end Go.Proofs.YthfpmipeejjogaaGreatDoor.SL
