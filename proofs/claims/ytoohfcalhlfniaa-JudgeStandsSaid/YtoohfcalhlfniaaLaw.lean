/- From what a call does to what the statement says: the memory that the arguments stand in is lent whole, and stays as it is. Generic over any program. -/
import Derived.Test.YtoohfcalhlfniaaBase9
import Derived.WalkKit
import Derived.ProofKit
import Derived.OpenShut
import Derived.ShutString
import Derived.ChangeOld
import Derived.Below
import Derived.SizedLaws
import Derived.Carry
import Derived.Deep.Slices
import Derived.DataReads
namespace Go.Proofs.Ytoohfcalhlfniaa.SL
open Go Go.RowKit

/-- all memory of a world, to read from -/
def all (W : World) : AH := fun b => W.heap[b]?
theorem all_cell {W : World} {a : Addr} {v : Value} (σ : AH) (h : W.cell? a = some v) : acell (all W) σ a = some v := by
  rw [cell?_eq] at h
  unfold acell rd all
  cases e : W.heap[a.block]? with
  | none => rw [e] at h; cases h
  | some o => rw [e] at h; exact h
theorem calls_of {P : Program} {W : World} {f : FuncId} {args : Array Value} {Q : Value → Prop} (h : ACalls P W (all W) f args (fun _ => none) fun v _ => Q v) :
    Calls P f args W fun e W' => (∃ v, e = .returned v ∧ Q v) ∧ Below W.heap.size W W' := by
  refine (h (fun _ => none) W ⟨rfl, rfl, rfl, fun _ _ e => by (cases e), fun _ _ e => by (cases e), fun _ _ e => e⟩).mono ?_
  rintro e W' ⟨v, σ', he, hq, ho⟩
  refine ⟨⟨v, he, hq⟩, ho.os, ho.tape, ho.output, ?_, fun k hk => ?_⟩
  · rcases Nat.eq_zero_or_pos W.heap.size with h0 | h0
    · rw [h0]; exact Nat.zero_le _
    · have := lt_of_block (ho.ro (W.heap.size - 1) _ (by unfold all; exact Array.getElem?_eq_getElem (by omega)))
      omega
  · have e := Array.getElem?_eq_getElem hk
    rw [e]; exact ho.ro k _ e

theorem trod_i64 {H : Type} {enc : TypeId × Value → H} {P : Program} {W : World} {t : TypeId} {fuel : Nat} {u : Value} {y : DataW H × List MemPlace} (ht : P.underlying t = some (.int .i64))
    (h : DataW.trod enc P W 0 (fun _ => true) true fuel t [u] = some y) : ∃ x : Int, u = .int .i64 x ∧ -9223372036854775808 ≤ x ∧ x < 9223372036854775808 := by
  cases fuel with
  | zero => cases h
  | succ n =>
    unfold DataW.trod at h
    rw [ht] at h
    cases u <;> simp at h
    rename_i k x
    refine ⟨x, by rw [h.1.1], ?_⟩
    have := h.1.2
    simp [Lit.wf, IntKind.min, IntKind.max, IntKind.bits, IntKind.signed] at this
    omega
theorem trod_slice {H : Type} {enc : TypeId × Value → H} {P : Program} {W : World} {t e : TypeId} {a : Option Addr} {len cap : Nat} {d : DataW H} {p : List MemPlace} (ht : P.underlying t = some (.slice e))
    (h : DataW.Trod enc P W 0 (fun _ => true) true t (.slice a len cap) d p) : (a = none ∧ len = 0 ∧ cap = 0) ∨ ∃ x, a = some x ∧ len ≤ cap ∧ ∀ j, j < len → ∃ cs n y, cs.length = P.cellsOf e ∧ (∀ i, i < P.cellsOf e → W.cell? ((x.add (j * P.cellsOf e)).add i) = cs[i]?) ∧ DataW.trod enc P W 0 (fun _ => true) true n e cs = some y := by
  obtain ⟨fuel, hf⟩ := h
  rcases Go.Deep.open_slice ht hf with ⟨hcs, _⟩ | ⟨x, l, c, m, n, D, Pl, hcs, _, hl, _, hm, _, hel⟩
  · simp [Value.cells] at hcs
    exact .inl hcs
  · simp [Value.cells] at hcs
    obtain ⟨rfl, rfl, rfl⟩ := hcs
    refine .inr ⟨x, rfl, hl, fun j hj => ?_⟩
    obtain ⟨cs, h1, h2⟩ := hel j (by rw [hm]; simp; omega)
    obtain ⟨_, h3, h4⟩ := World.cells?_some h1
    exact ⟨cs, n, _, h3, h4, h2⟩
theorem trod_array {H : Type} {enc : TypeId × Value → H} {P : Program} {W : World} {t e : TypeId} {k fuel : Nat} {cs : List Value} {y : DataW H × List MemPlace} (ht : P.underlying t = some (.array k e))
    (h : DataW.trod enc P W 0 (fun _ => true) true fuel t cs = some y) : cs.length = P.cellsOf t ∧ ∃ n, ∀ i, i < k → ∃ z, DataW.trod enc P W 0 (fun _ => true) true n e ((cs.drop (i * P.cellsOf e)).take (P.cellsOf e)) = some z := by
  cases fuel with
  | zero => cases h
  | succ n =>
    unfold DataW.trod at h
    rw [ht] at h
    simp only at h
    split at h
    · rename_i hl
      refine ⟨hl, n, fun i hi => ?_⟩
      obtain ⟨r, hr, _⟩ := Option.map_eq_some_iff.1 h
      have h1 := mapM_some_get hr i i (by simp [hi])
      have h2 := mapM_some_length hr
      rw [List.length_range] at h2
      rw [List.getElem?_eq_getElem (by omega)] at h1
      exact ⟨_, h1⟩
    · cases h
end Go.Proofs.Ytoohfcalhlfniaa.SL
