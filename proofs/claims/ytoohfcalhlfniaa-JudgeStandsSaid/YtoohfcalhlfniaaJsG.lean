/- JudgeStands, the walk to its end: it answers true for every number and every pairs. -/
import Derived.Test.YtoohfcalhlfniaaJsF
namespace Go.Proofs.Ytoohfcalhlfniaa.Js
open Go Go.Proofs.Ytoohfcalhlfniaa.SL Go.Proofs.Ytoohfcalhlfniaa.G
set_option linter.unusedSimpArgs false
set_option linter.unusedVariables false
variable {B : World} {ro σ σ' : AH} {tag tag' : Nat → Nat}

section order
variable {n : Nat} {a1 : Sl} {ps : List (Nat × Nat)} {xa : Nat} {o : List Nat} {so : Sl}

theorem check_ok (hn : n ≤ 200) (hP : Pairs ro a1 (cst ps)) (hp : ∀ p ∈ ps, p.1 < n ∧ p.2 < n) (hlp : ps.length ≤ most) (hso : so.len = n) (at' : List Int) (hat : at'.length = n) (hord : ∀ p ∈ ps, at'.getD p.1 0 < at'.getD p.2 0) :
    ∀ (m j : Nat) (tag : Nat → Nat) (σ : AH), j + m = ps.length → Row tag σ 1 3 (vb xa n) (vis at') → SL.Sep ro σ → lfpD (l13_law23_JudgeStands B ro n a1 so xa T) (j : Int) σ := by
  have hln : a1.len = ps.length := by rw [hP.1, List.length_map]
  simp only [most] at hlp
  intro m
  induction m with
  | zero =>
    intro j tag σ hj hr hs
    refine lfpD.intro ?_
    unfold l13_law23_JudgeStands
    rw [if_neg (by omega)]
    unfold j9_law23_JudgeStands
    rw [if_pos (by omega)]
    exact awake_ok fun σ' _ => rfl
  | succ m ih =>
    intro j tag σ hj hr hs
    have hjl : j < ps.length := by omega
    obtain ⟨x, y, hxy⟩ : ∃ x y, ps[j] = (x, y) := ⟨_, _, rfl⟩
    have hm : (x, y) ∈ ps := hxy ▸ List.getElem_mem hjl
    obtain ⟨hx, hy⟩ := hp _ hm
    have ho := hord _ hm
    simp only at hx hy ho
    obtain ⟨q, hq, hc⟩ := hP.at hjl
    rw [hxy] at hc
    refine lfpD.intro ?_
    unfold l13_law23_JudgeStands
    simp only [Int.toNat_natCast]
    rw [if_pos (by omega)]
    refine ⟨q, hq, by omega, by omega, x, y, hc σ, ?_⟩
    refine nw_st (tag := tag) 0 hs rfl (by simp [storable]) fun t tag1 σ1 st1 r1 => ?_
    have hr1 := hr.keep (st1 []) (by simp)
    have hs1 := (st1 []).sep
    obtain ⟨pt, hpt, hg⟩ := r1.ptr hs1 (by simp)
    cases hpt
    refine ⟨x, hg 0 _ rfl, _, rfl, by omega, by simp; omega, at'.getD x 0, Row.iget hr1 hs1 (i := x) (by omega), y, hg 1 _ rfl, _, rfl, by omega, by simp; omega, at'.getD y 0, Row.iget hr1 hs1 (i := y) (by omega), ?_⟩
    rw [if_neg (by omega), inc j (by omega)]
    exact ih (j + 1) tag1 σ1 (by omega) hr1 hs1

theorem place_ok (hn : n ≤ 200) (hP : Pairs ro a1 (cst ps)) (hp : ∀ p ∈ ps, p.1 < n ∧ p.2 < n) (hlp : ps.length ≤ most) (hol : o.length = n) (hnd : o.Nodup) (hlt : ∀ x ∈ o, x < n)
    (hord : ∀ pre x post, o = pre ++ x :: post → ∀ p ∈ ps, p.2 = x → p.1 ∈ pre) (hall : ∀ k, k < n → k ∈ o) :
    ∀ (m j : Nat) (tag : Nat → Nat) (σ : AH) (at' : List Int), j + m = n → Row tag σ 1 3 (vb xa n) (vis at') → Row tag σ 4 3 so (o.map vN) → SL.Sep ro σ → at'.length = n →
    (∀ i x, i < j → o[i]? = some x → at'.getD x 0 = i) → (∀ x, x < n → x ∉ o.take j → at'.getD x 0 = -1) → lfpD (l24_law23_JudgeStands B ro n a1 so xa T) (j : Int) σ := by
  intro m
  induction m with
  | zero =>
    intro j tag σ at' hj hr ho hs hl h1 h2
    have hso : so.len = n := by rw [ho.len, List.length_map, hol]
    refine lfpD.intro ?_
    unfold l24_law23_JudgeStands
    rw [if_neg (by omega)]
    unfold j8_law23_JudgeStands
    refine check_ok hn hP hp hlp hso at' hl (fun p hpm => ?_) ps.length 0 tag σ (Nat.zero_add _) hr hs
    obtain ⟨hpx, hpy⟩ := hp p hpm
    obtain ⟨i, hi, hio⟩ := List.getElem_of_mem (hall _ hpy)
    have e : o = o.take i ++ p.2 :: o.drop (i + 1) := by
      rw [← hio, ← List.drop_eq_getElem_cons hi, List.take_append_drop]
    obtain ⟨i', hi', hio'⟩ := List.getElem_of_mem (hord _ _ _ e p hpm rfl)
    rw [List.length_take] at hi'
    rw [List.getElem_take] at hio'
    rw [h1 i p.2 (by omega) (by rw [List.getElem?_eq_getElem hi, hio]), h1 i' p.1 (by omega) (by rw [List.getElem?_eq_getElem (by omega), hio'])]
    omega
  | succ m ih =>
    intro j tag σ at' hj hr ho hs hl h1 h2
    have hso : so.len = n := by rw [ho.len, List.length_map, hol]
    have hjl : j < o.length := by omega
    obtain ⟨x, hx⟩ : ∃ x, o[j] = x := ⟨_, rfl⟩
    have hxn : x < n := hlt x (hx ▸ List.getElem_mem hjl)
    obtain ⟨p, hpp, _, hg⟩ := Row.at ho hs hjl
    have hgj := hg j hjl
    rw [getD_get _ _ hjl, hx] at hgj
    have hxt : x ∉ o.take j := fun hm => by
      obtain ⟨i, hi, e⟩ := List.getElem_of_mem hm
      rw [List.length_take] at hi
      rw [List.getElem_take, ← hx] at e
      have := (List.getElem_inj hnd).1 e
      omega
    refine lfpD.intro ?_
    unfold l24_law23_JudgeStands
    simp only [Int.toNat_natCast]
    rw [if_pos (by omega)]
    refine ⟨p, hpp, by omega, by omega, x, hgj, ?_⟩
    rw [if_neg (by omega)]
    refine ⟨_, rfl, by omega, by simp; omega, at'.getD x 0, Row.iget hr hs (i := x) (by omega), ?_⟩
    rw [h2 x hxn hxt]
    unfold j28_law23_JudgeStands
    simp only [Int.toNat_natCast]
    rw [if_neg (by decide)]
    refine ⟨_, rfl, by omega, by omega, ?_⟩
    refine Row.iset hr hs (by omega) fun σ1 st1 r1 => ?_
    rw [inc j (by omega)]
    refine ih (j + 1) tag σ1 _ (by omega) r1 (ho.keep st1 (by decide)) st1.sep (by simpa using hl) (fun i z hi hz => ?_) (fun z hz hzt => ?_)
    · rw [getD_set _ _ _ _ _ (by omega)]
      rcases Nat.lt_or_ge i j with h | h
      · rw [if_neg, h1 i z h hz]
        intro e
        subst e
        refine hxt ?_
        have : (o.take j)[i]? = some x := by rw [List.getElem?_take, if_pos h]; exact hz
        exact List.mem_of_getElem? this
      · have : i = j := by omega
        subst this
        rw [List.getElem?_eq_getElem hjl, hx] at hz
        cases hz
        rw [if_pos rfl]
    · rw [List.take_succ_eq_append_getElem hjl, hx] at hzt
      rw [getD_set _ _ _ _ _ (by omega), if_neg fun e => hzt (by simp [e])]
      exact h2 z hz fun h => hzt (by simp [h])

theorem clear_ok (hn : n ≤ 200) (hP : Pairs ro a1 (cst ps)) (hp : ∀ p ∈ ps, p.1 < n ∧ p.2 < n) (hlp : ps.length ≤ most) (hol : o.length = n) (hnd : o.Nodup) (hlt : ∀ x ∈ o, x < n)
    (hord : ∀ pre x post, o = pre ++ x :: post → ∀ p ∈ ps, p.2 = x → p.1 ∈ pre) (hall : ∀ k, k < n → k ∈ o) :
    ∀ (m i : Nat) (tag : Nat → Nat) (σ : AH) (at' : List Int), i + m = n → Row tag σ 1 3 (vb xa n) (vis at') → Row tag σ 4 3 so (o.map vN) → SL.Sep ro σ → at'.length = n → (∀ x, x < i → at'.getD x 0 = -1) →
    lfpD (l33_law23_JudgeStands B ro n a1 so xa T) (i : Int) σ := by
  intro m
  induction m with
  | zero =>
    intro i tag σ at' hi hr ho hs hl h
    refine lfpD.intro ?_
    unfold l33_law23_JudgeStands
    simp only [Int.toNat_natCast]
    rw [if_neg (by omega)]
    exact place_ok hn hP hp hlp hol hnd hlt hord hall n 0 tag σ at' (Nat.zero_add _) hr ho hs hl (fun i x h => absurd h (Nat.not_lt_zero _)) fun x hx _ => h x (by omega)
  | succ m ih =>
    intro i tag σ at' hi hr ho hs hl h
    refine lfpD.intro ?_
    unfold l33_law23_JudgeStands
    simp only [Int.toNat_natCast]
    rw [if_pos (by omega)]
    refine ⟨_, rfl, by omega, by omega, ?_⟩
    refine Row.iset hr hs (by omega) fun σ1 st r1 => ?_
    rw [inc i (by omega)]
    refine ih (i + 1) tag σ1 _ (by omega) r1 (ho.keep st (by decide)) st.sep (by simpa using hl) fun x hx => ?_
    rw [getD_set _ _ _ _ _ (by omega)]
    split
    · rfl
    · exact h x (by omega)
end order

theorem mid_ok {n : Nat} {a1 : Sl} {ps : List (Nat × Nat)} (hn : n ≤ 200) (hP : Pairs ro a1 (cst ps)) (hp : ∀ p ∈ ps, p.1 < n ∧ p.2 < n) (hlp : ps.length ≤ 2000) : j2_law23_JudgeStands B ro n a1 T σ := by
  have hl : ps.length ≤ most := by simp only [most]; omega
  obtain ⟨o, he, hnd, hlt, hord, hsh⟩ := arrange_spec n (by omega) ps hl hp
  unfold j2_law23_JudgeStands
  refine c_judge_Arrange_weak (σ := fun _ => none) ?_ (fun b o h => by cases h)
  refine Arrange_ok (by omega) hP hp hl he (fun hs σ1 hs1 => ?_) (fun hs s tag1 σ1 r1 hs1 => ?_)
  · rw [if_pos (by decide)]
    refine ⟨by omega, ?_⟩
    simp only [Int.toNat_natCast]
    refine nw_row (tag := fun _ => 0) 1 hs1 rfl fun xa tag2 σ2 st2 r2 => ?_
    have r2' : Row tag2 σ2 1 4 (vb xa n) (vbs (List.replicate n false)) := by rw [vbs, List.map_replicate]; exact r2
    refine fill_ok (R := fun k => k < n ∧ k ∉ o) hn hP hp hl (fun k hk hR => ?_) ?_ n 0 tag2 σ2 _ (Nat.zero_add _) r2' (st2 []).sep (by simp) (fun k hk => absurd hk (Nat.not_lt_zero _))
    · obtain ⟨p, h1, h2, h3⟩ := hsh k hk hR.2
      exact ⟨p, h1, h2, (hp p h1).1, h3⟩
    · refine Classical.byContradiction fun hno => ?_
      have := sub_len (List.range n) o List.nodup_range fun x hx => Classical.byContradiction fun hxo => hno ⟨x, List.mem_range.1 hx, List.mem_range.1 hx, hxo⟩
      simp at this
      omega
  · rw [if_neg (by decide)]
    have hsm := small hnd hlt
    have hol : o.length = n := by omega
    unfold j5_law23_JudgeStands
    refine ⟨by omega, ?_⟩
    simp only [Int.toNat_natCast]
    refine nw_row (tag := tag1) 1 hs1 rfl fun xa tag2 σ2 st2 r2 => ?_
    have r2' : Row tag2 σ2 1 3 (vb xa n) (vis (List.replicate n 0)) := by rw [vis, List.map_replicate]; exact r2
    refine clear_ok hn hP hp hl hol hnd hlt hord (fun k hk => Classical.byContradiction fun hko => ?_) n 0 tag2 σ2 _ (Nat.zero_add _) r2' (r1.keep (st2 []) (by simp)) (st2 []).sep (by simp) (fun k hk => absurd hk (Nat.not_lt_zero _))
    have := small (n := n) (l := k :: o) (List.nodup_cons.2 ⟨hko, hnd⟩) fun x hx => by
      rcases List.mem_cons.1 hx with h | h
      · omega
      · exact hlt x h
    simp only [List.length_cons] at this
    omega

theorem stands_ok {a0 : Int} {a1 : Sl} {qs : List (Int × Int)} (hP : Pairs ro a1 qs) : c_law23_JudgeStands B ro a0 a1 σ T := by
  refine law23_JudgeStands_ok fun hs => ?_
  unfold f_law23_JudgeStands
  split
  · exact awake_ok fun σ' _ => rfl
  · rename_i hg
    have hln : a1.len = qs.length := hP.1
    obtain ⟨n, rfl⟩ : ∃ n : Nat, a0 = n := ⟨a0.toNat, by omega⟩
    suffices ∀ (m j : Nat) (tag : Nat → Nat) (σ : AH), j + m = qs.length → SL.Sep ro σ → (∀ p ∈ qs.take j, 0 ≤ p.1 ∧ p.1 < n ∧ 0 ≤ p.2 ∧ p.2 < n) → lfpD (l79_law23_JudgeStands B ro n a1 T) (j : Int) σ from
      this qs.length 0 (fun _ => 0) σ (Nat.zero_add _) hs (by simp)
    intro m
    induction m with
    | zero =>
      intro j tag σ hj hs h
      refine lfpD.intro ?_
      unfold l79_law23_JudgeStands
      rw [if_neg (by omega)]
      rw [List.take_of_length_le (by omega)] at h
      have e : cst (qs.map fun p => (p.1.toNat, p.2.toNat)) = qs := by
        rw [cst, List.map_map]
        conv => rhs; rw [← List.map_id qs]
        refine List.map_congr_left fun p hp => ?_
        obtain ⟨h1, h2, h3, h4⟩ := h p hp
        simp only [Function.comp, id]
        rw [Int.toNat_of_nonneg h1, Int.toNat_of_nonneg h3]
      refine mid_ok (ps := qs.map fun p => (p.1.toNat, p.2.toNat)) (by omega) (by rw [e]; exact hP) (fun p hp => ?_) (by rw [List.length_map]; omega)
      obtain ⟨q, hq, rfl⟩ := List.mem_map.1 hp
      obtain ⟨h1, h2, h3, h4⟩ := h q hq
      simp only
      omega
    | succ m ih =>
      intro j tag σ hj hs h
      have hjl : j < qs.length := by omega
      obtain ⟨x, y, hxy⟩ : ∃ x y, qs[j] = (x, y) := ⟨_, _, rfl⟩
      obtain ⟨q, hq, hc⟩ := hP.2 j (x, y) (by rw [List.getElem?_eq_getElem hjl, hxy])
      refine lfpD.intro ?_
      unfold l79_law23_JudgeStands
      rw [if_pos (by omega)]
      refine ⟨q, hq, by omega, by omega, x, y, hc σ, ?_⟩
      refine nw_st (tag := tag) 0 hs rfl (by simp [storable]) fun t tag1 σ1 st1 r1 => ?_
      have hs1 := (st1 []).sep
      obtain ⟨pt, hpt, hg'⟩ := r1.ptr hs1 (by simp)
      cases hpt
      have c0 := hg' 0 _ rfl
      have c1 := hg' 1 _ rfl
      have aw : ∀ b, b = true → j89_law23_JudgeStands B ro n a1 j T (lfpD (l79_law23_JudgeStands B ro n a1 T)) b σ1 := by
        rintro _ rfl
        unfold j89_law23_JudgeStands
        rw [if_pos rfl]
        exact awake_ok fun σ' _ => rfl
      refine ⟨x, c0, ?_⟩
      by_cases b1 : x < 0
      · rw [if_pos b1]
        unfold j85_law23_JudgeStands
        rw [if_pos rfl]
        unfold j87_law23_JudgeStands
        rw [if_pos rfl]
        exact aw _ rfl
      · rw [if_neg b1]
        refine ⟨x, c0, ?_⟩
        unfold j85_law23_JudgeStands
        by_cases b2 : (n : Int) ≤ x
        · rw [if_pos (by simpa using b2)]
          unfold j87_law23_JudgeStands
          rw [if_pos rfl]
          exact aw _ rfl
        · rw [if_neg (by simpa using b2)]
          refine ⟨y, c1, ?_⟩
          unfold j87_law23_JudgeStands
          by_cases b3 : y < 0
          · rw [if_pos (by simpa using b3)]
            exact aw _ rfl
          · rw [if_neg (by simpa using b3)]
            refine ⟨y, c1, ?_⟩
            by_cases b4 : (n : Int) ≤ y
            · exact aw _ (by simpa using b4)
            · unfold j89_law23_JudgeStands
              rw [if_neg (by simpa using b4), inc j (by omega)]
              refine ih (j + 1) tag1 σ1 (by omega) hs1 fun p hp => ?_
              rw [List.take_succ_eq_append_getElem hjl] at hp
              rcases List.mem_append.1 hp with hp | hp
              · exact h p hp
              · rw [List.mem_singleton, hxy] at hp
                subst hp
                simp only
                omega
end Go.Proofs.Ytoohfcalhlfniaa.Js
