/- JudgeStands, the walk of Arrange. -/
import Derived.Test.YtoohfcalhlfniaaJsH
namespace Go.Proofs.Ytoohfcalhlfniaa.Js
open Go Go.Proofs.Ytoohfcalhlfniaa.SL Go.Proofs.Ytoohfcalhlfniaa.G
set_option linter.unusedSimpArgs false
set_option linter.unusedVariables false
variable {B : World} {ro σ σ' : AH} {tag tag' : Nat → Nat}

/-- the pairs that stand in the slice s, outside of what is owned -/
def Pairs (ro : AH) (s : Sl) (qs : List (Int × Int)) : Prop := s.len = qs.length ∧ ∀ j p, qs[j]? = some p → ∃ q, s.a = some q ∧ ∀ σ, cellsAt ro σ (q.add (j * 2)) 0 [.int .i64 p.1, .int .i64 p.2]
abbrev cst (ps : List (Nat × Nat)) : List (Int × Int) := ps.map fun p => ((p.1 : Int), (p.2 : Int))

structure Arr (tag : Nat → Nat) (σ : AH) (xb xw n : Nat) (bs : List (List Nat)) (ws : List Int) : Prop where
  bl : bs.length = n
  wl : ws.length = n
  rows : ∃ ss : List Sl, ss.length = n ∧ Row tag σ 1 25 ⟨some ⟨xb, 0, none⟩, n, n⟩ (ss.map Sl.v) ∧ ∀ i, i < n → Row tag σ (6 + i) 3 (ss.getD i ⟨none, 0, 0⟩) ((bs.getD i []).map vN)
  waits : Row tag σ 5 3 ⟨some ⟨xw, 0, none⟩, n, n⟩ (ws.map fun x => .int .i64 x)

theorem Arr.keep {R : List Nat} {xb xw n : Nat} {bs : List (List Nat)} {ws : List Int} (h : Arr tag σ xb xw n bs ws) (st : Step R ro tag σ tag' σ') (hR : ∀ r ∈ R, r < 5 ∧ r ≠ 1) : Arr tag' σ' xb xw n bs ws := by
  obtain ⟨ss, h1, h2, h3⟩ := h.rows
  refine ⟨h.bl, h.wl, ⟨ss, h1, h2.keep st fun m => (hR _ m).2 rfl, fun i hi => (h3 i hi).keep st fun m => ?_⟩, h.waits.keep st fun m => ?_⟩
  · have := (hR _ m).1; omega
  · have := (hR _ m).1; omega
theorem Arr.wget {xb xw n : Nat} {bs : List (List Nat)} {ws : List Int} (h : Arr tag σ xb xw n bs ws) (hs : SL.Sep ro σ) {i : Nat} (hi : i < n) : acell ro σ ((⟨xw, 0, none⟩ : Addr).add (i * 1)) = some (.int .i64 (ws.getD i 0)) := by
  have hl := h.wl
  obtain ⟨p, hp, hg⟩ := h.waits.ptr hs (by simp; omega)
  cases hp
  refine hg i _ ?_
  rw [getD_get _ _ (by omega), List.getElem?_map, List.getElem?_eq_getElem (by omega)]; rfl
theorem Arr.wset {xb xw n : Nat} {bs : List (List Nat)} {ws : List Int} {K : AH → Prop} (h : Arr tag σ xb xw n bs ws) (hs : SL.Sep ro σ) {i : Nat} {x : Int} (hi : i < n)
    (hK : ∀ σ', Step [5] ro tag σ tag σ' → Arr tag σ' xb xw n bs (ws.set i x) → K σ') : stN ((⟨xw, 0, none⟩ : Addr).add (i * 1)) K [.int .i64 x] 0 σ := by
  have hl := h.wl
  refine h.waits.st hs rfl (by simp; omega) rfl fun σ' st r => hK _ st ⟨h.bl, by simpa using h.wl, ?_, ?_⟩
  · obtain ⟨ss, h1, h2, h3⟩ := h.rows
    exact ⟨ss, h1, h2.keep st (by decide), fun i hi => (h3 i hi).keep st (by simp; omega)⟩
  · rw [List.map_set]; exact r

theorem build_ok {n xb xw : Nat} {a1 : Sl} {ps : List (Nat × Nat)} {Q : Sl → Bool → AH → Prop} (hP : Pairs ro a1 (cst ps)) (hp : ∀ p ∈ ps, p.1 < n ∧ p.2 < n) (hl : ps.length ≤ most) :
    ∀ (m j : Nat) (tag : Nat → Nat) (σ : AH) (bs : List (List Nat)) (ws : List Int), j + m = ps.length → Arr tag σ xb xw n bs ws → SL.Sep ro σ → (∀ i, (bs.getD i []).length ≤ j) →
    (∀ tag' σ', Arr tag' σ' xb xw n ((ps.drop j).foldl bump1 bs) ((ps.drop j).foldl bump2 ws) → SL.Sep ro σ' → j3_judge_Arrange B ro n xb xw Q σ') →
    lfpD (l33_judge_Arrange B ro n a1 xb xw Q) (j : Int) σ := by
  have hln : a1.len = ps.length := by rw [hP.1, List.length_map]
  simp only [most] at hl
  intro m
  induction m with
  | zero =>
    intro j tag σ bs ws hj ha hs _ hK
    refine lfpD.intro ?_
    unfold l33_judge_Arrange
    rw [if_neg (by omega)]
    refine hK tag σ ?_ hs
    rw [List.drop_eq_nil_of_le (by omega)]; exact ha
  | succ m ih =>
    intro j tag σ bs ws hj ha hs hb hK
    refine lfpD.intro ?_
    unfold l33_judge_Arrange
    rw [if_pos (by omega)]
    have hjl : j < ps.length := by omega
    obtain ⟨x, y, hxy⟩ : ∃ x y, ps[j] = (x, y) := ⟨_, _, rfl⟩
    have hmem : (x, y) ∈ ps := hxy ▸ List.getElem_mem hjl
    obtain ⟨hx, hy⟩ := hp _ hmem
    simp only at hx hy
    obtain ⟨q, hq, hc⟩ := hP.2 j ((x : Int), (y : Int)) (by rw [List.getElem?_map, List.getElem?_eq_getElem hjl, hxy]; rfl)
    refine ⟨q, hq, by omega, by omega, x, y, hc σ, ?_⟩
    refine nw_st (tag := tag) 0 hs rfl (by simp [storable]) fun t tag1 σ1 st1 r1 => ?_
    have ha := ha.keep (st1 []) (by simp)
    have hs1 := (st1 []).sep
    obtain ⟨pt, hpt, hg⟩ := r1.ptr hs1 (by simp)
    cases hpt
    have c0 := hg 0 _ rfl
    have c1 := hg 1 _ rfl
    refine ⟨x, c0, y, c1, ?_⟩
    rw [if_neg (by split <;> omega)]
    refine ⟨x, c0, y, c1, ?_⟩
    unfold j40_judge_Arrange
    rw [if_neg (by simp; split <;> omega)]
    refine lent_block t ?_
    obtain ⟨ht0, hto⟩ := r1.tagOf
    have hs2 : SL.Sep (join ro (one σ1 t)) (del σ1 t) := hs1.lent
    have d0 : ∀ τ, acell (join ro (one σ1 t)) τ ((⟨t, 0, none⟩ : Addr).add (0 * 1)) = some (.int .i64 (x : Int)) := fun τ => r1.lend hs1 (i := 0) rfl
    have d1 : ∀ τ, acell (join ro (one σ1 t)) τ ((⟨t, 0, none⟩ : Addr).add (1 * 1)) = some (.int .i64 (y : Int)) := fun τ => r1.lend hs1 (i := 1) rfl
    refine ⟨x, d0 _, x, d0 _, _, rfl, by omega, by simp; omega, ?_⟩
    obtain ⟨ss, hsl, hrow, hrows⟩ := ha.rows
    have hrow := hrow.del (b := t) ht0 (by decide)
    have hr1 := (hrows x hx).del (b := t) ht0 (by omega)
    obtain ⟨pb, hpb, hgb⟩ := hrow.ptr hs2 (by simp; omega)
    cases hpb
    refine ⟨ss.getD x ⟨none, 0, 0⟩, hgb x _ (by rw [getD_get _ _ (by omega), List.getElem?_map, List.getElem?_eq_getElem (by omega)]; rfl), y, d1 _, ?_⟩
    refine nw_cells (tag := tag1) 0 hs2 fun u tag2 σ2 st2 r2 => ?_
    have hrow := hrow.keep (st2 []) (by simp)
    have hr1 := hr1.keep (st2 []) (by simp)
    have hs3 := (st2 []).sep
    have hbx := hb x
    refine awp_append1 hr1 hs3 rfl ty3 rfl rfl (Row.one r2 hs3) rfl (by rw [List.length_map]; omega) (by decide) fun s' tag3 σ3 st3 r3 => ?_
    refine ⟨s', rfl, _, rfl, by omega, by simp; omega, ?_⟩
    have hrow := hrow.keep st3 (by simp; omega)
    refine hrow.st st3.sep rfl (by simp; omega) rfl fun σ4 st4 r4 => ?_
    intro hd
    have stA : Step [1, 6 + x] (join ro (one σ1 t)) tag1 (del σ1 t) tag3 σ4 := (st2 _).trans ((st3.mono (by simp)).trans (st4.mono (by simp)))
    have stB := stA.back hs1 hd hto
    have hs5 := stB.sep
    have ha5 : Arr (setTag tag3 t (tag1 t)) (join (one σ1 t) σ4) xb xw n (bump1 bs (x, y)) ws := by
      refine ⟨by simpa [bump1] using ha.bl, ha.wl, ⟨ss.set x s', by simpa using hsl, ?_, fun i hi => ?_⟩, ha.waits.keep stB (by simp; omega)⟩
      · have := r4.back (r' := tag1 t) hd hto
        rw [List.map_set]; simpa using this
      · unfold bump1
        rw [getD_set _ _ _ _ _ (by omega), getD_set _ _ _ _ _ (by rw [ha.bl]; omega)]
        by_cases e : x = i
        · subst e
          rw [if_pos rfl, if_pos rfl]
          have := (r3.keep st4 (by simp; omega)).back (r' := tag1 t) hd hto
          simpa using this
        · rw [if_neg e, if_neg e]
          exact (hrows i hi).keep stB (by simp; omega)
    have r5 := r1.keep stB (by simp; omega)
    obtain ⟨pu, hpu, hgu⟩ := r5.ptr hs5 (by simp)
    cases hpu
    have hw := ha5.wget hs5 hy
    refine ⟨y, hgu 1 _ rfl, _, rfl, by omega, by simp; omega, _, hw, _, rfl, by omega, by simp; omega, ?_⟩
    refine ha5.wset hs5 hy fun σ6 st6 ha6 => ?_
    rw [show IntKind.i64.wrap ((j : Int) + 1) = ((j + 1 : Nat) : Int) by rw [SL.w64_eq (by omega) (by omega)]; rfl]
    refine ih (j + 1) _ σ6 _ _ (by omega) ha6 st6.sep (fun i => ?_) fun tag' σ' h1 h2 => ?_
    · unfold bump1
      rw [getD_set _ _ _ _ _ (by rw [ha.bl]; omega)]
      have := hb i
      split
      · simp only [List.length_append, List.length_cons, List.length_nil]; omega
      · omega
    · refine hK tag' σ' ?_ h2
      rw [List.drop_eq_getElem_cons hjl, hxy]
      exact h1
end Go.Proofs.Ytoohfcalhlfniaa.Js
