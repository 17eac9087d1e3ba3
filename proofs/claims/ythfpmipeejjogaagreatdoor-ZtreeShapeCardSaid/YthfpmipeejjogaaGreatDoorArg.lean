/- What an argument is, to whatever depth: a reading with its sizes. Generic over any program. -/
import Derived.Test.YthfpmipeejjogaaGreatDoorLaw
import Derived.Test.YthfpmipeejjogaaGreatDoorMem2
namespace Go.Proofs.YthfpmipeejjogaaGreatDoor.SL
open Go
set_option linter.unusedSimpArgs false
set_option linter.unusedVariables false
variable {P : Program} {W : World}

/-- the cells cs read as a value of type t, and nothing in it is larger than the reach -/
def Arg (P : Program) (W : World) (H : Type) (enc : TypeId × Value → H) (t : TypeId) (cs : List Value) : Prop :=
  ∃ (fuel : Nat) (d : DataW H) (ps : List MemPlace), DataW.trod enc P W 0 (fun _ => true) true fuel t cs = some (d, ps) ∧ (d.weights P t).all (· ≤ reachBytes) = true
variable {H : Type} {enc : TypeId × Value → H}

theorem weightsAll_get {e : TypeId} : ∀ {l : List (DataW H)} {d : DataW H}, d ∈ l → (DataW.weightsAll P e l).all (· ≤ reachBytes) = true → (d.weights P e).all (· ≤ reachBytes) = true := by
  intro l
  induction l with
  | nil => intro d h; cases h
  | cons x l ih =>
    intro d h hw
    rw [DataW.weightsAll, List.all_append, Bool.and_eq_true] at hw
    rcases List.mem_cons.1 h with rfl | h
    · exact hw.1
    · exact ih h hw.2
theorem weightsEach_get : ∀ {ts : List TypeId} {l : List (DataW H)} {i : Nat} {t : TypeId} {d : DataW H}, ts[i]? = some t → l[i]? = some d → (DataW.weightsEach P ts l).all (· ≤ reachBytes) = true → (d.weights P t).all (· ≤ reachBytes) = true := by
  intro ts
  induction ts with
  | nil => intro l i t d h; cases h
  | cons t' ts ih =>
    intro l i t d ht hd hw
    cases l with
    | nil => cases hd
    | cons x l =>
      rw [DataW.weightsEach, List.all_append, Bool.and_eq_true] at hw
      cases i with
      | zero => cases ht; cases hd; exact hw.1
      | succ i => exact ih (by simpa using ht) (by simpa using hd) hw.2
theorem Arg.slice {t e : TypeId} {a : Option Addr} {len cap : Nat} (ht : P.underlying t = some (.slice e)) (h : Arg P W H enc t [.slice a len cap]) :
    (a = none ∧ len = 0 ∧ cap = 0) ∨ ∃ x, a = some x ∧ len ≤ cap ∧ cap * P.bytesOf e ≤ reachBytes ∧ ∀ j, j < len → ∃ cs, cs.length = P.cellsOf e ∧ (∀ i, i < P.cellsOf e → W.cell? ((x.add (j * P.cellsOf e)).add i) = cs[i]?) ∧ Arg P W H enc e cs := by
  obtain ⟨fuel, d, ps, hf, hw⟩ := h
  rcases Go.Deep.open_slice ht hf with ⟨hcs, _⟩ | ⟨x, l, c, m, n, D, Pl, hcs, _, hl, _, hm, hx, hel⟩
  · simp at hcs; exact .inl hcs
  · simp at hcs
    obtain ⟨rfl, rfl, rfl⟩ := hcs
    simp only [Prod.mk.injEq] at hx
    rw [hx.1] at hw
    rw [DataW.weights, ht] at hw
    simp only [List.all_cons, List.all_append, Bool.and_eq_true, decide_eq_true_eq, List.length_map, List.length_range] at hw
    refine .inr ⟨x, rfl, hl, ?_, fun j hj => ?_⟩
    · have : len + (m - len) = cap := by simp at hm; omega
      rw [this] at hw; exact hw.1
    · obtain ⟨cs, h1, h2⟩ := hel j (by simp at hm; omega)
      obtain ⟨_, h3, h4⟩ := World.cells?_some h1
      exact ⟨cs, h3, h4, n, D j, Pl j, h2, weightsAll_get (List.mem_map.2 ⟨j, List.mem_range.2 hj, rfl⟩) hw.2.1⟩
theorem Arg.struct {t : TypeId} {fs : Array Field} {cs : List Value} (ht : P.underlying t = some (.struct fs)) (h : Arg P W H enc t cs) :
    cs.length = P.cellsOf t ∧ ∀ (i : Nat) (f : Field), fs.toList[i]? = some f → Arg P W H enc f.type ((cs.drop f.offset).take (P.cellsOf f.type)) := by
  obtain ⟨fuel, d, ps, hf, hw⟩ := h
  cases fuel with
  | zero => cases hf
  | succ n =>
    unfold DataW.trod at hf
    rw [ht] at hf
    simp only at hf
    split at hf
    · rename_i hl
      refine ⟨hl, fun i f hi => ?_⟩
      obtain ⟨r, hr, hd⟩ := Option.map_eq_some_iff.1 hf
      have h1 := mapM_some_get hr i f hi
      have h2 := mapM_some_length hr
      have hil : i < fs.toList.length := by
        rcases Nat.lt_or_ge i fs.toList.length with h' | h'
        · exact h'
        · rw [List.getElem?_eq_none h'] at hi; cases hi
      rw [List.getElem?_eq_getElem (by omega)] at h1
      simp only [Prod.mk.injEq] at hd
      rw [← hd.1, DataW.weights, ht] at hw
      refine ⟨n, r[i].1, r[i].2, h1, weightsEach_get (ts := fs.toList.map (·.type)) (i := i) (by rw [List.getElem?_map, hi]; rfl) (by rw [List.getElem?_map, List.getElem?_eq_getElem (by omega)]; rfl) hw⟩
    · cases hf
theorem Arg.i64 {t : TypeId} {u : Value} (ht : P.underlying t = some (.int .i64)) (h : Arg P W H enc t [u]) : ∃ x : Int, u = .int .i64 x := by
  obtain ⟨fuel, d, ps, hf, hw⟩ := h
  obtain ⟨x, h, _⟩ := trod_i64 ht hf
  exact ⟨x, h⟩
theorem Arg.u8 {t : TypeId} {u : Value} (ht : P.underlying t = some (.int .u8)) (h : Arg P W H enc t [u]) : ∃ c : UInt8, u = .int .u8 c.toNat := by
  obtain ⟨fuel, d, ps, hf, hw⟩ := h
  cases fuel with
  | zero => cases hf
  | succ n =>
    unfold DataW.trod at hf
    rw [ht] at hf
    cases u <;> simp at hf
    rename_i k x
    obtain ⟨⟨rfl, hwf⟩, _⟩ := hf
    simp [Lit.wf, IntKind.min, IntKind.max, IntKind.bits, IntKind.signed] at hwf
    refine ⟨UInt8.ofNat x.toNat, ?_⟩
    congr 1
    simp; omega
theorem Arg.bool {t : TypeId} {u : Value} (ht : P.underlying t = some .bool) (h : Arg P W H enc t [u]) : ∃ b : Bool, u = .bool b := by
  obtain ⟨fuel, d, ps, hf, hw⟩ := h
  cases fuel with
  | zero => cases hf
  | succ n =>
    unfold DataW.trod at hf
    rw [ht] at hf
    cases u <;> simp at hf
    exact ⟨_, rfl⟩
theorem Arg.str {t : TypeId} {u : Value} (ht : P.underlying t = some .string) (h : Arg P W H enc t [u]) : ∃ s : ByteArray, u = .string s ∧ s.size ≤ reachBytes := by
  obtain ⟨fuel, d, ps, hf, hw⟩ := h
  cases fuel with
  | zero => cases hf
  | succ n =>
    unfold DataW.trod at hf
    rw [ht] at hf
    cases u <;> simp at hf
    rename_i s
    refine ⟨s, rfl, ?_⟩
    obtain ⟨_, rfl, _⟩ := hf
    rw [DataW.weights] at hw
    simpa using hw
end Go.Proofs.YthfpmipeejjogaaGreatDoor.SL
