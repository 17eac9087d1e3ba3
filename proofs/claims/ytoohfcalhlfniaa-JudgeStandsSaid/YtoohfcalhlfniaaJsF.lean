/- JudgeStands, the walk: it answers true. -/
import Derived.Test.YtoohfcalhlfniaaJsE
namespace Go.Proofs.Ytoohfcalhlfniaa.Js
open Go Go.Proofs.Ytoohfcalhlfniaa.SL Go.Proofs.Ytoohfcalhlfniaa.G
set_option linter.unusedSimpArgs false
set_option linter.unusedVariables false
variable {B : World} {ro σ σ' : AH} {tag tag' : Nat → Nat}

abbrev vbs (l : List Bool) : List Value := l.map fun b => .bool b
abbrev vis (l : List Int) : List Value := l.map fun x => .int .i64 x
theorem Row.bget {r n : Nat} {b : Nat} {l : List Bool} (h : Row tag σ r 4 ⟨some ⟨b, 0, none⟩, n, n⟩ (vbs l)) (hs : SL.Sep ro σ) {i : Nat} (hi : i < l.length) : acell ro σ ((⟨b, 0, none⟩ : Addr).add (i * 1)) = some (.bool (l.getD i false)) := by
  obtain ⟨p, hp, hg⟩ := h.ptr hs (by simp; omega)
  cases hp
  refine hg i _ ?_
  rw [getD_get _ _ hi, List.getElem?_map, List.getElem?_eq_getElem hi]; rfl
theorem Row.iget {r n : Nat} {b : Nat} {l : List Int} (h : Row tag σ r 3 ⟨some ⟨b, 0, none⟩, n, n⟩ (vis l)) (hs : SL.Sep ro σ) {i : Nat} (hi : i < l.length) : acell ro σ ((⟨b, 0, none⟩ : Addr).add (i * 1)) = some (.int .i64 (l.getD i 0)) := by
  obtain ⟨p, hp, hg⟩ := h.ptr hs (by simp; omega)
  cases hp
  refine hg i _ ?_
  rw [getD_get _ _ hi, List.getElem?_map, List.getElem?_eq_getElem hi]; rfl
theorem Row.bset {r n : Nat} {b : Nat} {l : List Bool} {x : Bool} {K : AH → Prop} (h : Row tag σ r 4 ⟨some ⟨b, 0, none⟩, n, n⟩ (vbs l)) (hs : SL.Sep ro σ) {i : Nat} (hi : i < l.length)
    (hK : ∀ σ', Step [r] ro tag σ tag σ' → Row tag σ' r 4 ⟨some ⟨b, 0, none⟩, n, n⟩ (vbs (l.set i x)) → K σ') : stN ((⟨b, 0, none⟩ : Addr).add (i * 1)) K [.bool x] 0 σ :=
  h.st hs rfl (by simpa using hi) rfl fun σ' st r => hK _ st (by rw [vbs, List.map_set]; exact r)
theorem Row.iset {r n : Nat} {b : Nat} {l : List Int} {x : Int} {K : AH → Prop} (h : Row tag σ r 3 ⟨some ⟨b, 0, none⟩, n, n⟩ (vis l)) (hs : SL.Sep ro σ) {i : Nat} (hi : i < l.length)
    (hK : ∀ σ', Step [r] ro tag σ tag σ' → Row tag σ' r 3 ⟨some ⟨b, 0, none⟩, n, n⟩ (vis (l.set i x)) → K σ') : stN ((⟨b, 0, none⟩ : Addr).add (i * 1)) K [.int .i64 x] 0 σ :=
  h.st hs rfl (by simpa using hi) rfl fun σ' st r => hK _ st (by rw [vis, List.map_set]; exact r)
theorem Pairs.at {s : Sl} {ps : List (Nat × Nat)} (h : Pairs ro s (cst ps)) {j : Nat} (hj : j < ps.length) : ∃ q, s.a = some q ∧ ∀ σ, cellsAt ro σ (q.add (j * 2)) 0 [.int .i64 (ps[j].1 : Nat), .int .i64 (ps[j].2 : Nat)] :=
  h.2 j ((ps[j].1 : Int), (ps[j].2 : Int)) (by rw [List.getElem?_map, List.getElem?_eq_getElem hj]; rfl)

abbrev vb (b n : Nat) : Sl := ⟨some ⟨b, 0, none⟩, n, n⟩
abbrev T : Bool → AH → Prop := fun r _ => r = true

section alive
variable {n : Nat} {a1 : Sl} {ps : List (Nat × Nat)} {xa : Nat} {R : Nat → Prop}

/-- the last loop: someone is alive -/
theorem last_ok (hn : n ≤ 200) : ∀ (m i : Nat) (tag : Nat → Nat) (σ : AH) (al : List Bool), i + m = n → Row tag σ 1 4 (vb xa n) (vbs al) → SL.Sep ro σ → al.length = n → (∃ k, i ≤ k ∧ k < n ∧ al.getD k false = true) →
    lfpD (l40_law23_JudgeStands B ro n ⟨none, 0, 0⟩ xa T) (i : Int) σ := by
  intro m
  induction m with
  | zero => intro i tag σ al hi _ _ _ ⟨k, h1, h2, _⟩; omega
  | succ m ih =>
    intro i tag σ al hi hr hs hl ⟨k, h1, h2, h3⟩
    refine lfpD.intro ?_
    unfold l40_law23_JudgeStands
    simp only [Int.toNat_natCast]
    rw [if_pos (by omega)]
    refine ⟨_, rfl, by omega, by omega, _, Row.bget hr hs (by omega), ?_⟩
    by_cases c : al.getD i false = true
    · rw [if_pos c, if_pos (by rfl)]
      exact awake_ok fun σ' _ => rfl
    · rw [if_neg c, inc i (by omega)]
      refine ih (i + 1) tag σ al (by omega) hr hs hl ⟨k, ?_, h2, h3⟩
      rcases Nat.lt_or_ge i k with h | h
      · exact h
      · have : i = k := by omega
        rw [this] at c; exact absurd h3 c

/-- the loop that lets nobody live that doesn't wait -/
theorem and_ok {Y : Int → AH → Prop} {r xw : Nat} (hn : n ≤ 200) : ∀ (m i : Nat) (tag : Nat → Nat) (σ : AH) (al wt : List Bool), i + m = n → Row tag σ 1 4 (vb xa n) (vbs al) → Row tag σ 2 4 (vb xw n) (vbs wt) → SL.Sep ro σ → al.length = n → wt.length = n →
    (∀ k, k < n → R k → al.getD k false = true) → (∀ k, k < n → R k → wt.getD k false = true) →
    (∀ tag' σ' al', Row tag' σ' 1 4 (vb xa n) (vbs al') → SL.Sep ro σ' → al'.length = n → (∀ k, k < n → R k → al'.getD k false = true) → Y ((r + 1 : Nat) : Int) σ') → r < 1000 →
    lfpD (l52_law23_JudgeStands B ro n a1 ⟨none, 0, 0⟩ xa r xw T Y) (i : Int) σ := by
  intro m
  induction m with
  | zero =>
    intro i tag σ al wt hi hr hw hs hl hlw ha _ hY hrr
    refine lfpD.intro ?_
    unfold l52_law23_JudgeStands
    simp only [Int.toNat_natCast]
    rw [if_neg (by omega)]
    unfold j49_law23_JudgeStands
    rw [inc r (by omega)]
    exact hY tag σ al hr hs hl ha
  | succ m ih =>
    intro i tag σ al wt hi hr hw hs hl hlw ha hwt hY hrr
    refine lfpD.intro ?_
    unfold l52_law23_JudgeStands
    simp only [Int.toNat_natCast]
    rw [if_pos (by omega)]
    refine ⟨_, rfl, by omega, by omega, _, Row.bget hr hs (by omega), ?_⟩
    have key : ∀ x : Bool, (R i → x = true) → j56_law23_JudgeStands B ro n a1 ⟨none, 0, 0⟩ xa r xw i T Y (lfpD (l52_law23_JudgeStands B ro n a1 ⟨none, 0, 0⟩ xa r xw T Y)) x σ := by
      intro x hx
      unfold j56_law23_JudgeStands
      simp only [Int.toNat_natCast]
      refine ⟨_, rfl, by omega, by omega, ?_⟩
      refine Row.bset hr hs (by omega) fun σ1 st r1 => ?_
      rw [inc i (by omega)]
      refine ih (i + 1) tag σ1 _ wt (by omega) r1 (hw.keep st (by decide)) st.sep (by simpa using hl) hlw (fun k hk hR => ?_) hwt hY hrr
      rw [getD_set _ _ _ _ _ (by omega)]
      split
      · rename_i e; exact hx (e ▸ hR)
      · exact ha k hk hR
    by_cases c : al.getD i false = true
    · rw [if_pos c]
      refine ⟨_, rfl, by omega, by omega, _, Row.bget hw hs (by omega), key _ fun hR => hwt i (by omega) hR⟩
    · rw [if_neg c]
      exact key false fun hR => absurd (ha i (by omega) hR) c

/-- the loop over the pairs: who waits for one that is alive -/
theorem or_ok {Y : Int → AH → Prop} {r xw : Nat} (hn : n ≤ 200) (hP : Pairs ro a1 (cst ps)) (hp : ∀ p ∈ ps, p.1 < n ∧ p.2 < n) (hlp : ps.length ≤ most) (hR : ∀ k, k < n → R k → ∃ p ∈ ps, p.2 = k ∧ R p.1) :
    ∀ (m j : Nat) (tag : Nat → Nat) (σ : AH) (al wt : List Bool), j + m = ps.length → Row tag σ 1 4 (vb xa n) (vbs al) → Row tag σ 2 4 (vb xw n) (vbs wt) → SL.Sep ro σ → al.length = n → wt.length = n →
    (∀ k, k < n → R k → al.getD k false = true) → (∀ p ∈ ps.take j, R p.1 → wt.getD p.2 false = true) →
    (∀ tag' σ' al', Row tag' σ' 1 4 (vb xa n) (vbs al') → SL.Sep ro σ' → al'.length = n → (∀ k, k < n → R k → al'.getD k false = true) → Y ((r + 1 : Nat) : Int) σ') → r < 1000 →
    lfpD (l61_law23_JudgeStands B ro n a1 ⟨none, 0, 0⟩ xa r xw T Y) (j : Int) σ := by
  have hln : a1.len = ps.length := by rw [hP.1, List.length_map]
  have hlp' := hlp
  simp only [most] at hlp'
  intro m
  induction m with
  | zero =>
    intro j tag σ al wt hj hr hw hs hl hlw ha hwt hY hrr
    refine lfpD.intro ?_
    unfold l61_law23_JudgeStands
    rw [if_neg (by omega)]
    unfold j51_law23_JudgeStands
    refine and_ok (R := R) hn n 0 tag σ al wt (Nat.zero_add _) hr hw hs hl hlw ha (fun k hk hRk => ?_) hY hrr
    obtain ⟨p, h1, h2, h3⟩ := hR k hk hRk
    rw [← h2]
    exact hwt p (by rw [List.take_of_length_le (by omega)]; exact h1) h3
  | succ m ih =>
    intro j tag σ al wt hj hr hw hs hl hlw ha hwt hY hrr
    have hjl : j < ps.length := by omega
    obtain ⟨x, y, hxy⟩ : ∃ x y, ps[j] = (x, y) := ⟨_, _, rfl⟩
    obtain ⟨hx, hy⟩ := hp _ (hxy ▸ List.getElem_mem hjl : (x, y) ∈ ps)
    simp only at hx hy
    obtain ⟨q, hq, hc⟩ := hP.at hjl
    rw [hxy] at hc
    refine lfpD.intro ?_
    unfold l61_law23_JudgeStands
    simp only [Int.toNat_natCast]
    rw [if_pos (by omega)]
    refine ⟨q, hq, by omega, by omega, x, y, hc σ, ?_⟩
    refine nw_st (tag := tag) 0 hs rfl (by simp [storable]) fun t tag1 σ1 st1 r1 => ?_
    have hr1 := hr.keep (st1 []) (by simp)
    have hw1 := hw.keep (st1 []) (by simp)
    have hs1 := (st1 []).sep
    obtain ⟨pt, hpt, hg⟩ := r1.ptr hs1 (by simp)
    cases hpt
    have c0 := hg 0 _ rfl
    have c1 := hg 1 _ rfl
    refine ⟨y, c1, y, c1, _, rfl, by omega, by simp; omega, wt.getD y false, Row.bget hw1 hs1 (i := y) (by omega), ?_⟩
    have fin : ∀ b : Bool, (b = (wt.getD y false || al.getD x false)) → stN ((⟨xw, 0, none⟩ : Addr).add (y * 1)) (fun σ => j63_law23_JudgeStands B ro n a1 ⟨none, 0, 0⟩ xa r xw j T Y (lfpD (l61_law23_JudgeStands B ro n a1 ⟨none, 0, 0⟩ xa r xw T Y)) σ) [.bool b] 0 σ1 := by
      intro b hb
      refine Row.bset hw1 hs1 (by omega) fun σ2 st2 r2 => ?_
      unfold j63_law23_JudgeStands
      rw [inc j (by omega)]
      refine ih (j + 1) tag1 σ2 al _ (by omega) (hr1.keep st2 (by decide)) r2 st2.sep hl (by simpa using hlw) ha (fun p hpm hRp => ?_) hY hrr
      rw [List.take_succ_eq_append_getElem hjl] at hpm
      rw [getD_set _ _ _ _ _ (by omega)]
      rcases List.mem_append.1 hpm with h | h
      · have := hwt p h hRp
        split
        · rename_i e; rw [hb, e, this]; rfl
        · exact this
      · rw [List.mem_singleton, hxy] at h
        subst h
        rw [if_pos rfl, hb, ha x hx hRp, Bool.or_true]
    by_cases c : wt.getD y false = true
    · rw [if_pos c]
      refine ⟨_, rfl, by omega, by simp; omega, fin true (by rw [c]; rfl)⟩
    · rw [if_neg c]
      refine ⟨x, c0, _, rfl, by omega, by simp; omega, al.getD x false, Row.bget hr1 hs1 (i := x) (by omega), _, rfl, by omega, by simp; omega, fin _ ?_⟩
      have : wt.getD y false = false := by simpa using c
      rw [this, Bool.false_or]

/-- the rounds -/
theorem rounds_ok (hn : n ≤ 200) (hP : Pairs ro a1 (cst ps)) (hp : ∀ p ∈ ps, p.1 < n ∧ p.2 < n) (hlp : ps.length ≤ most) (hR : ∀ k, k < n → R k → ∃ p ∈ ps, p.2 = k ∧ R p.1) (hne : ∃ k, k < n ∧ R k) :
    ∀ (m r : Nat) (tag : Nat → Nat) (σ : AH) (al : List Bool), r + m = n → Row tag σ 1 4 (vb xa n) (vbs al) → SL.Sep ro σ → al.length = n → (∀ k, k < n → R k → al.getD k false = true) →
    lfpD (l47_law23_JudgeStands B ro n a1 ⟨none, 0, 0⟩ xa T) (r : Int) σ := by
  intro m
  induction m with
  | zero =>
    intro r tag σ al hr h hs hl ha
    refine lfpD.intro ?_
    unfold l47_law23_JudgeStands
    rw [if_neg (by omega)]
    unfold j38_law23_JudgeStands
    obtain ⟨k, h1, h2⟩ := hne
    exact last_ok hn n 0 tag σ al (Nat.zero_add _) h hs hl ⟨k, Nat.zero_le _, h1, ha k h1 h2⟩
  | succ m ih =>
    intro r tag σ al hr h hs hl ha
    refine lfpD.intro ?_
    unfold l47_law23_JudgeStands
    simp only [Int.toNat_natCast]
    rw [if_pos (by omega)]
    refine ⟨by omega, ?_⟩
    refine nw_row (tag := tag) 2 hs rfl fun xw tag1 σ1 st1 r1 => ?_
    have r1' : Row tag1 σ1 2 4 (vb xw n) (vbs (List.replicate n false)) := by rw [vbs, List.map_replicate]; exact r1
    exact or_ok (R := R) hn hP hp hlp hR ps.length 0 tag1 σ1 al _ (Nat.zero_add _) (h.keep (st1 []) (by simp)) r1' (st1 []).sep hl (by simp) ha (by simp) (fun tag' σ' al' h1 h2 h3 h4 => ih (r + 1) tag' σ' al' (by omega) h1 h2 h3 h4) (by omega)

/-- at first all are alive -/
theorem fill_ok (hn : n ≤ 200) (hP : Pairs ro a1 (cst ps)) (hp : ∀ p ∈ ps, p.1 < n ∧ p.2 < n) (hlp : ps.length ≤ most) (hR : ∀ k, k < n → R k → ∃ p ∈ ps, p.2 = k ∧ R p.1) (hne : ∃ k, k < n ∧ R k) :
    ∀ (m i : Nat) (tag : Nat → Nat) (σ : AH) (al : List Bool), i + m = n → Row tag σ 1 4 (vb xa n) (vbs al) → SL.Sep ro σ → al.length = n → (∀ k, k < i → al.getD k false = true) →
    lfpD (l76_law23_JudgeStands B ro n a1 ⟨none, 0, 0⟩ xa T) (i : Int) σ := by
  intro m
  induction m with
  | zero =>
    intro i tag σ al hi h hs hl ha
    refine lfpD.intro ?_
    unfold l76_law23_JudgeStands
    simp only [Int.toNat_natCast]
    rw [if_neg (by omega)]
    exact rounds_ok (R := R) hn hP hp hlp hR hne n 0 tag σ al (Nat.zero_add _) h hs hl fun k hk _ => ha k (by omega)
  | succ m ih =>
    intro i tag σ al hi h hs hl ha
    refine lfpD.intro ?_
    unfold l76_law23_JudgeStands
    simp only [Int.toNat_natCast]
    rw [if_pos (by omega)]
    refine ⟨_, rfl, by omega, by omega, ?_⟩
    refine Row.bset h hs (by omega) fun σ1 st r1 => ?_
    rw [inc i (by omega)]
    refine ih (i + 1) tag σ1 _ (by omega) r1 st.sep (by simpa using hl) fun k hk => ?_
    rw [getD_set _ _ _ _ _ (by omega)]
    split
    · rfl
    · exact ha k (by omega)
end alive
end Go.Proofs.Ytoohfcalhlfniaa.Js
