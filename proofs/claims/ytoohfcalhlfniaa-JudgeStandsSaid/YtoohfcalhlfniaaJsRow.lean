/- JudgeStands: for every number and every pairs, whatever memory they stand in, the law answers true and leaves its arguments as they are. No condition. -/
import Derived.Test.YtoohfcalhlfniaaRows
import Derived.Test.YtoohfcalhlfniaaLaw
import Derived.Test.YtoohfcalhlfniaaJsG
namespace Go.Proofs.Ytoohfcalhlfniaa.Js
open Go Go.Proofs.Ytoohfcalhlfniaa.SL Go.ChangeShapes Go.WideShapes Go.ChangeAt Go.RowKit
set_option linter.unusedVariables false
theorem own : ownKnob Try.prog.godebug = none := by kernel_rfl
theorem laidOut : laidOutB Try.prog = true := by kernel_rfl

theorem pairs_of {H : Type} {enc : TypeId × Value → H} {W : World} {t e i : TypeId} {a : Option Addr} {len cap : Nat} {d : DataW H} {p : List MemPlace} (ht : Try.prog.underlying t = some (.slice e)) (he : Try.prog.underlying e = some (.array 2 i)) (hi : Try.prog.underlying i = some (.int .i64)) (hc : Try.prog.cellsOf e = 2) (hc1 : Try.prog.cellsOf i = 1)
    (h : DataW.Trod enc Try.prog W 0 (fun _ => true) true t (.slice a len cap) d p) : ∃ qs, Pairs (all W) ⟨a, len, cap⟩ qs := by
  rcases trod_slice ht h with ⟨rfl, rfl, rfl⟩ | ⟨x, rfl, hl, hel⟩
  · exact ⟨[], rfl, fun j p h => by cases h⟩
  · rw [hc] at hel
    have key : ∀ j : Nat, ∃ q : Int × Int, j < len → W.cell? ((x.add (j * 2)).add 0) = some (.int .i64 q.1) ∧ W.cell? ((x.add (j * 2)).add 1) = some (.int .i64 q.2) := by
      intro j
      by_cases hj : j < len
      · obtain ⟨cs, n, y, h3, h4, h2⟩ := hel j hj
        match cs, h3 with
        | [u, v], _ =>
          obtain ⟨_, n', h5⟩ := trod_array he h2
          rw [hc1] at h5
          obtain ⟨z0, e0⟩ := h5 0 (by omega)
          obtain ⟨z1, e1⟩ := h5 1 (by omega)
          obtain ⟨x0, rfl, _⟩ := trod_i64 hi e0
          obtain ⟨x1, rfl, _⟩ := trod_i64 hi e1
          exact ⟨(x0, x1), fun _ => ⟨h4 0 (by omega), h4 1 (by omega)⟩⟩
      · exact ⟨(0, 0), fun h => absurd h hj⟩
    obtain ⟨f, hf⟩ := Classical.axiomOfChoice key
    refine ⟨(List.range len).map f, by simp, fun j p hp => ⟨x, rfl, fun σ => ?_⟩⟩
    have hj : j < len := by
      rcases Nat.lt_or_ge j len with h | h
      · exact h
      · rw [List.getElem?_eq_none (by simpa using h)] at hp; cases hp
    rw [List.getElem?_map, List.getElem?_range hj] at hp
    cases hp
    exact ⟨all_cell σ (hf j hj).1, all_cell σ (hf j hj).2, trivial⟩

set_option maxRecDepth 100000 in
theorem lifted (os : Os) (started : os.Started) (H : Type) (enc : TypeId × Value → H) :
    ReturnsInHanded {} Try.checked os 3 .any (Rows.judgeStandsSpec.pre6 enc Try.prog Try.f3 Rows.judgeStandsRow.domain false) (Rows.judgeStandsSpec.post enc Try.prog Try.f3 false true false false) := by
  refine returnsInHanded_of_change_sized (C := Try.checked) own started (by kernel_rfl) Try.func3
    (ChangeSpec.witness6 (enc := enc) (C := Try.checked) false ⟨#[], #[.int .i64 0, .slice none 0 0], []⟩ 8 (by kernel_rfl) (by kernel_rfl) (by kernel_rfl) (by kernel_rfl)) ?_
  intro W base args ds gs before hval0 hW hcnd hsz0 _
  have hval : ∀ (j : Nat) t v, Try.f3.params[j]? = some t → args[j]? = some v → Value.okWide Try.prog W .any base t v := hval0
  have hW' := hW
  obtain ⟨p, q, hA0, hV, rfl, hfz, hnd⟩ := hW
  have hA : DataW.TrodAll enc Try.prog W 0 (fun _ => true) true Try.f3.params.toList args.toList ds p := hA0
  rw [Try.params3] at hA hval
  obtain ⟨v0, vs0, d0, ds0, p0, q0, hargs, rfl, rfl, h0, r0⟩ := trodAll_cons hA
  obtain ⟨v1, vs1, d1, ds1, p1, q1, rfl, rfl, rfl, h1, r1⟩ := trodAll_cons r0
  obtain ⟨rfl, rfl, rfl⟩ := trodAll_nil r1
  obtain rfl : args = #[v0, v1] := by cases args; simp_all
  obtain ⟨rfl, rfl⟩ := trodVars_none hV
  obtain ⟨a0, rfl, rfl, rfl, w0⟩ := open_int Try.underlying3 (hval 0 3 v0 rfl rfl) h0
  obtain ⟨a1, len1, cap1, rfl⟩ := okWide_slice Try.underlying22 (hval 1 22 v1 rfl rfl)
  have k1 := h1
  have lt1 : ∀ x ∈ p1, x.block < W.heap.size := by obtain ⟨m, hm⟩ := k1; exact DataW.trod_lt m _ _ _ hm
  obtain ⟨qs, hq⟩ := pairs_of (i := 3) Try.underlying22 Try.underlying24 Try.underlying3 (by kernel_rfl) (by kernel_rfl) h1
  have hc : ACalls Try.prog W (all W) 3 #[.int .i64 a0, Sl.v ⟨a1, len1, cap1⟩] (fun _ => none) fun v _ => v = .bool true :=
    ACalls.mono (stands_ok (B := W) (σ := fun _ => none) (a0 := a0) hq) fun v σ ⟨r, hv, hr⟩ => by rw [hv, hr]
  refine (calls_of hc).mono fun e W' ⟨⟨v, he, hv⟩, bel⟩ => ?_
  subst hv
  subst he
  exact ⟨_, rfl, _, _, _, [], _, [], hW', trodAll_mk1 (shut_bool Try.underlying4 _), (trodAll_cons_mk (shut_int Try.underlying3 w0) (trodAll_cons_mk (Below.trod laidOut (by kernel_rfl) (of_decide_eq_true (by kernel_rfl)) k1 bel lt1) trodAll_mk0)), rfl, bel.frame _, fun h => by cases h⟩
theorem over : Rows.judgeStandsRow.holds Try.pinned (OpenSpec.ofChange Rows.judgeStandsSpec) :=
  OpenClaim.holds_of_wide 3 Try.f3 rfl rfl rfl rfl rfl rfl rfl ⟨rfl, rfl, rfl, rfl, rfl⟩ rfl rfl rfl rfl rfl (by kernel_rfl) Try.func3 (by kernel_rfl)
    (of_decide_eq_true (by kernel_rfl)) (by unfold Func.isWrapper; first | (rw [if_pos (by decide +kernel)]; kernel_rfl) | (rw [if_neg (by decide +kernel)]; exact ⟨rfl, rfl⟩))
    (fun os started H enc _ => lifted os started H enc)
end Go.Proofs.Ytoohfcalhlfniaa.Js
namespace Go.Proofs.Ytoohfcalhlfniaa
/-- The row, for the claim. -/
theorem judgeStands_holds : Rows.JudgeStandsSaid := Js.over
end Go.Proofs.Ytoohfcalhlfniaa
#print axioms Go.Proofs.Ytoohfcalhlfniaa.judgeStands_holds
