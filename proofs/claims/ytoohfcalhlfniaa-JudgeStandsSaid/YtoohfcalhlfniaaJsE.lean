/- JudgeStands, the walk of awake: Arrange of three numbers and one pair. -/
import Derived.Test.YtoohfcalhlfniaaJsD
namespace Go.Proofs.Ytoohfcalhlfniaa.Js
open Go Go.Proofs.Ytoohfcalhlfniaa.SL Go.Proofs.Ytoohfcalhlfniaa.G
set_option linter.unusedSimpArgs false
set_option linter.unusedVariables false
variable {B : World} {ro σ σ' : AH} {tag tag' : Nat → Nat}

theorem same_ok {r1 r2 : Nat} {s1 s2 : Sl} {l : List Nat} {Q : Bool → AH → Prop} (h1 : Row tag σ r1 3 s1 (l.map vN)) (h2 : Row tag σ r2 3 s2 (l.map vN)) (hl : l.length ≤ most) (hs : SL.Sep ro σ) (hQ : Q true σ) :
    c_ref01_SameInts B ro s1 s2 σ Q := by
  refine ref01_SameInts_ok fun _ => ?_
  unfold f_ref01_SameInts
  have e1 : s1.len = l.length := by rw [h1.len, List.length_map]
  have e2 : s2.len = l.length := by rw [h2.len, List.length_map]
  rw [e1, e2, if_neg (by simp)]
  simp only [most] at hl
  suffices ∀ m j : Nat, j + m = l.length → lfpD (l2_ref01_SameInts B ro s1 s2 Q) (j : Int) σ from this l.length 0 (Nat.zero_add _)
  intro m
  induction m with
  | zero =>
    intro j hj
    refine lfpD.intro ?_
    unfold l2_ref01_SameInts
    rw [if_neg (by omega)]
    exact hQ
  | succ m ih =>
    intro j hj
    have hjl : j < l.length := by omega
    obtain ⟨p, hp, _, hg⟩ := Row.at h1 hs hjl
    obtain ⟨q, hq, _, hk⟩ := Row.at h2 hs hjl
    refine lfpD.intro ?_
    unfold l2_ref01_SameInts
    rw [if_pos (by omega)]
    refine ⟨p, hp, by omega, by omega, q, hq, by omega, by omega, _, hg j hjl, _, hk j hjl, ?_⟩
    rw [if_neg (by simp), inc j (by omega)]
    exact ih (j + 1) (by omega)

theorem awake_ok {Q : Bool → AH → Prop} (hQ : ∀ σ, SL.Sep ro σ → Q true σ) : c_law23_awake B ro σ Q := by
  refine c_law23_awake_weak (σ := fun _ => none) (law23_awake_ok fun hs => ?_) (fun b o h => by cases h)
  unfold f_law23_awake
  refine nw_cells (tag := fun _ => 0) 0 hs fun t tag1 σ1 st1 r1 => ?_
  have hs1 := (st1 []).sep
  have hd : Disj (one σ1 t) (fun _ => none) := fun _ _ _ => rfl
  have hP : Pairs (join ro (one σ1 t)) ⟨some ⟨t, 0, none⟩, 1, 1⟩ (cst [(2, 0)]) := by
    refine ⟨rfl, fun j p hj => ?_⟩
    rcases j with _ | j
    · cases hj
      exact ⟨_, rfl, fun τ => ⟨r1.lend hs1 (i := 0) rfl, r1.lend hs1 (i := 1) rfl, trivial⟩⟩
    · cases hj
  have main : c_judge_Arrange B (join ro (one σ1 t)) ((3 : Nat) : Int) ⟨some ⟨t, 0, none⟩, 1, 1⟩ (fun _ => none) fun s ok τ => SL.Sep (join ro (one σ1 t)) τ ∧ ok = true ∧ ∃ tag, Row tag τ 4 3 s ([1, 2, 0].map vN) :=
    Arrange_ok (by decide) hP (by decide) (by decide) awake_arrange (fun h => absurd h (by decide)) fun _ s tag2 σ2 r2 h2 => ⟨h2, rfl, tag2, r2⟩
  have main2 := ACalls.lend main hd
  have hle : HLe (join (one σ1 t) fun _ => none) σ1 := by
    intro c o hc
    rcases join_some hc with h | ⟨_, h⟩
    · unfold one at h; split at h
      · exact h
      · cases h
    · cases h
  refine (main2.weaken hle).monoS ?_
  rintro v σ2 hs2 ⟨τ, rfl, hd2, s, ok, hv, hs3, hok, tag2, r2⟩
  refine ⟨s, ok, hv, ?_⟩
  simp only []
  rw [if_pos hok]
  have r3 := r2.back (r' := 0) hd2 r1.tagOf.2
  refine nw_cells (tag := setTag tag2 t 0) 9 hs2 fun u tag4 σ4 st4 r4 => ?_
  have r3 := r3.keep (st4 []) (by simp)
  exact same_ok r3 r4 (by decide) (st4 []).sep (hQ _ (st4 []).sep)
end Go.Proofs.Ytoohfcalhlfniaa.Js
