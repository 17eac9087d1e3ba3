/- ZtreeShape: the script as it stands in memory. -/
import Derived.Test.YthfpmipeejjogaaGreatDoorZtS
import Derived.Test.YthfpmipeejjogaaGreatDoorArg
namespace Go.Proofs.YthfpmipeejjogaaGreatDoor.Zt
open Go Go.Proofs.YthfpmipeejjogaaGreatDoor.SL Go.Proofs.YthfpmipeejjogaaGreatDoor.G Go.Proofs.YthfpmipeejjogaaGreatDoor.Pa
set_option linter.unusedSimpArgs false
set_option linter.unusedVariables false

theorem c5 : Tryz.prog.cellsOf 5 = 1 := by kernel_rfl
theorem c40 : Tryz.prog.cellsOf 40 = 5 := by kernel_rfl
theorem c3 : Tryz.prog.cellsOf 3 = 1 := by kernel_rfl
theorem c9 : Tryz.prog.cellsOf 9 = 1 := by kernel_rfl
theorem c30 : Tryz.prog.cellsOf 30 = 1 := by kernel_rfl
theorem c4 : Tryz.prog.cellsOf 4 = 1 := by kernel_rfl
theorem b5 : Tryz.prog.bytesOf 5 = 1 := by kernel_rfl
theorem b40 : Tryz.prog.bytesOf 40 = 64 := by kernel_rfl
theorem u3' : Tryz.prog.underlying 3 = some (.int .i64) := by kernel_rfl
theorem u4' : Tryz.prog.underlying 4 = some .bool := by kernel_rfl

theorem bytes_of {W : World} {H : Type} {enc : TypeId × Value → H} {a : Option Addr} {len cap : Nat} (h : Arg Tryz.prog W H enc 30 [.slice a len cap]) : ∃ d : Str, d.length ≤ 140737488351232 ∧ SL.Read (all W) (fun _ => none) ⟨a, len, cap⟩ (d.map vU) := by
  rcases h.slice u30 with ⟨rfl, rfl, rfl⟩ | ⟨x, rfl, hl, hb, hel⟩
  · exact ⟨[], by decide, rfl, fun _ => rfl, fun p h => by cases h⟩
  · rw [c5] at hel
    rw [b5, Nat.mul_one] at hb
    have key : ∀ j : Nat, ∃ c : UInt8, j < len → W.cell? (x.add j) = some (vU c) := fun j => by
      by_cases hj : j < len
      · obtain ⟨cs, h1, h2, h3⟩ := hel j hj
        match cs, h1 with
        | [u], _ =>
          obtain ⟨c, rfl⟩ := h3.u8 u5
          have := h2 0 (by omega)
          rw [Nat.mul_one, add_zero] at this
          exact ⟨c, fun _ => this⟩
      · exact ⟨0, fun h => absurd h hj⟩
    obtain ⟨f, hf⟩ := Classical.axiomOfChoice key
    refine ⟨(List.range len).map f, by simp [reachBytes] at hb ⊢; omega, by simp, (fun h => by cases h), fun p hp i v hv => ?_⟩
    cases hp
    have hi : i < len := by
      rcases Nat.lt_or_ge i len with h | h
      · exact h
      · rw [List.getElem?_eq_none (by simpa using h)] at hv; cases hv
    rw [List.getElem?_map, List.getElem?_map, List.getElem?_range hi] at hv
    cases hv
    exact all_cell _ (hf i hi)

theorem u22 : Tryz.prog.underlying 22 = some (.slice 40) := by kernel_rfl
theorem u40 : ∃ fs, Tryz.prog.underlying 40 = some (.struct fs) ∧ fs.toList.map (fun f => (f.type, f.offset)) = [(3, 0), (3, 1), (9, 2), (30, 3), (4, 4)] := ⟨_, Tryz.underlying40, rfl⟩
set_option maxRecDepth 100000 in
theorem op_of {W : World} {H : Type} {enc : TypeId × Value → H} {cs : List Value} (h : Arg Tryz.prog W H enc 40 cs) :
    ∃ (o : OpV) (ds : Sl), cs = [vI o.kind, vI o.n, .string (S o.path), Sl.v ds, .bool o.seq] ∧ o.data.length ≤ 140737488351232 ∧ SL.Read (all W) (fun _ => none) ds (o.data.map vU) := by
  obtain ⟨fs, hu, hfs⟩ := u40
  obtain ⟨hl, hel⟩ := h.struct hu
  rw [c40] at hl
  match cs, hl with
  | [v0, v1, v2, v3, v4], _ =>
    have get : ∀ i t o, ([(3, 0), (3, 1), (9, 2), (30, 3), (4, 4)] : List (TypeId × Nat))[i]? = some (t, o) → Arg Tryz.prog W H enc t (([v0, v1, v2, v3, v4].drop o).take (Tryz.prog.cellsOf t)) := fun i t o hi => by
      rw [← hfs, List.getElem?_map] at hi
      obtain ⟨f, hf, e⟩ := Option.map_eq_some_iff.1 hi
      have := hel i f hf
      simp only [Prod.mk.injEq] at e
      rw [e.1, e.2] at this
      exact this
    have a0 := get 0 _ _ rfl
    have a1 := get 1 _ _ rfl
    have a2 := get 2 _ _ rfl
    have a3 := get 3 _ _ rfl
    have a4 := get 4 _ _ rfl
    rw [c3] at a0 a1
    rw [c9] at a2
    rw [c30] at a3
    rw [c4] at a4
    obtain ⟨x0, rfl⟩ := Arg.i64 u3' a0
    obtain ⟨x1, rfl⟩ := Arg.i64 u3' a1
    obtain ⟨s, rfl, _⟩ := Arg.str u9 a2
    obtain ⟨b, rfl⟩ := Arg.bool u4' a4
    have hsl : ∃ a len cap, v3 = .slice a len cap := by
      obtain ⟨fuel, d, ps, hf, _⟩ := a3
      rcases Go.Deep.open_slice u30 hf with ⟨e, _⟩ | ⟨x, l, c, _, _, _, _, e, _⟩
      · simp at e; exact ⟨_, _, _, e⟩
      · simp at e; exact ⟨_, _, _, e⟩
    obtain ⟨a, len, cap, rfl⟩ := hsl
    obtain ⟨d, h1, h2⟩ := bytes_of a3
    exact ⟨⟨x0, x1, L s, d, b⟩, ⟨a, len, cap⟩, by simp [Sl.v], h1, h2⟩
set_option maxRecDepth 100000 in
theorem ops_of {W : World} {H : Type} {enc : TypeId × Value → H} {a : Option Addr} {len cap : Nat} (h : Arg Tryz.prog W H enc 22 [.slice a len cap]) :
    ∃ os : List OpV, Ops (all W) ⟨a, len, cap⟩ os ∧ os.length ≤ 2199023255552 ∧ ∀ o ∈ os, o.data.length ≤ 140737488351232 := by
  rcases h.slice u22 with ⟨rfl, rfl, rfl⟩ | ⟨x, rfl, hl, hb, hel⟩
  · exact ⟨[], ⟨rfl, fun j o h => by cases h⟩, by decide, fun o h => by cases h⟩
  · rw [c40] at hel
    rw [b40] at hb
    have key : ∀ j : Nat, ∃ q : OpV × Sl, j < len → (∀ σ, cellsAt (all W) σ (x.add (j * 5)) 0 [vI q.1.kind, vI q.1.n, .string (S q.1.path), Sl.v q.2, .bool q.1.seq]) ∧ q.1.data.length ≤ 140737488351232 ∧ SL.Read (all W) (fun _ => none) q.2 (q.1.data.map vU) := fun j => by
      by_cases hj : j < len
      · obtain ⟨cs, h1, h2, h3⟩ := hel j hj
        obtain ⟨o, ds, rfl, h4, h5⟩ := op_of h3
        refine ⟨(o, ds), fun _ => ⟨fun σ => cellsAt_of 0 fun i v hv => ?_, h4, h5⟩⟩
        have hi : i < 5 := by
          rcases Nat.lt_or_ge i 5 with h | h
          · exact h
          · rw [List.getElem?_eq_none (by simpa using h)] at hv; cases hv
        have := h2 i hi
        rw [hv] at this
        rw [Nat.zero_add]
        exact all_cell σ this
      · exact ⟨(⟨0, 0, [], [], false⟩, ⟨none, 0, 0⟩), fun h => absurd h hj⟩
    obtain ⟨f, hf⟩ := Classical.axiomOfChoice key
    refine ⟨(List.range len).map fun j => (f j).1, ⟨by simp, fun j o ho => ?_⟩, by simp [reachBytes] at hb ⊢; omega, fun o ho => ?_⟩
    · have hj : j < len := by
        rcases Nat.lt_or_ge j len with h | h
        · exact h
        · rw [List.getElem?_eq_none (by simpa using h)] at ho; cases ho
      rw [List.getElem?_map, List.getElem?_range hj] at ho
      cases ho
      obtain ⟨h1, _, h3⟩ := hf j hj
      exact ⟨x, (f j).2, rfl, h1, h3⟩
    · obtain ⟨j, hj, rfl⟩ := List.mem_map.1 ho
      exact (hf j (List.mem_range.1 hj)).2.1
end Go.Proofs.YthfpmipeejjogaaGreatDoor.Zt
