/- JudgeStands, the plain part: the order that Arrange makes is one, and where it is short of a number, that number waits for another one. -/
import Derived.Test.YtoohfcalhlfniaaJsA
namespace Go.Proofs.Ytoohfcalhlfniaa.Js
open Go
set_option linter.unusedSimpArgs false

theorem w64_eq {n : Int} (h0 : -4611686018427387904 ≤ n) (h1 : n < 4611686018427387904) : w64 n = n := by
  show IntKind.i64.wrap n = n
  exact SL.w64_eq (by omega) (by omega)
theorem getD_set {α : Type} (l : List α) (d v : α) (i k : Nat) (hi : i < l.length) : (l.set i v).getD k d = if i = k then v else l.getD k d := by
  by_cases h : i = k
  · subst h; simp [List.getD, hi]
  · simp [List.getD, List.getElem?_set_ne h, h]
theorem sub_len {α : Type} [DecidableEq α] : ∀ (l o : List α), l.Nodup → (∀ x ∈ l, x ∈ o) → l.length ≤ o.length := by
  intro l
  induction l with
  | nil => intro o _ _; exact Nat.zero_le _
  | cons x l ih =>
    intro o hn hs
    rw [List.nodup_cons] at hn
    have hx : x ∈ o := hs x (by simp)
    have := ih (o.erase x) hn.2 fun y hy => (List.mem_erase_of_ne (fun h => hn.1 (by rw [← h]; exact hy))).2 (hs y (by simp [hy]))
    rw [List.length_erase_of_mem hx] at this
    have := List.length_pos_of_mem hx
    simp only [List.length_cons]
    omega
theorem small {n : Nat} {l : List Nat} (h : l.Nodup) (hl : ∀ x ∈ l, x < n) : l.length ≤ n := by
  have := sub_len l (List.range n) h fun x hx => List.mem_range.2 (hl x hx)
  simpa using this

theorem bump1_len : ∀ (ps : List (Nat × Nat)) (bs : List (List Nat)), (ps.foldl bump1 bs).length = bs.length := by
  intro ps
  induction ps with
  | nil => intro bs; rfl
  | cons p ps ih => intro bs; rw [List.foldl_cons, ih]; simp [bump1]
theorem bump2_len : ∀ (ps : List (Nat × Nat)) (w : List Int), (ps.foldl bump2 w).length = w.length := by
  intro ps
  induction ps with
  | nil => intro bs; rfl
  | cons p ps ih => intro bs; rw [List.foldl_cons, ih]; simp [bump2]
theorem bump1_get : ∀ (ps : List (Nat × Nat)) (bs : List (List Nat)), (∀ p ∈ ps, p.1 < bs.length) → ∀ i, (ps.foldl bump1 bs).getD i [] = bs.getD i [] ++ (ps.filter (fun p => p.1 = i)).map (·.2) := by
  intro ps
  induction ps with
  | nil => intro bs _ i; simp
  | cons p ps ih =>
    intro bs h i
    rw [List.foldl_cons, ih _ (fun q hq => by simp [bump1]; exact h q (by simp [hq]))]
    unfold bump1
    rw [getD_set _ _ _ _ _ (h p (by simp))]
    by_cases e : p.1 = i
    · simp [e]
    · simp [e]
theorem bump2_get : ∀ (ps : List (Nat × Nat)) (w : List Int), (∀ p ∈ ps, p.2 < w.length) → (∀ k, 0 ≤ w.getD k 0 ∧ w.getD k 0 + ps.length < 4611686018427387904) → ∀ k, (ps.foldl bump2 w).getD k 0 = w.getD k 0 + (ps.countP (fun p => p.2 = k) : Nat) := by
  intro ps
  induction ps with
  | nil => intro bs _ _ i; simp
  | cons p ps ih =>
    intro w h hb k
    have hk := hb p.2
    simp only [List.length_cons] at hk hb
    have e1 : w64 (w.getD p.2 0 + 1) = w.getD p.2 0 + 1 := w64_eq (by omega) (by omega)
    have e2 : ∀ k, (bump2 w p).getD k 0 = if p.2 = k then w.getD p.2 0 + 1 else w.getD k 0 := fun k => by
      unfold bump2; rw [e1, getD_set _ _ _ _ _ (h p (by simp))]
    rw [List.foldl_cons, ih _ (fun q hq => by simp [bump2]; exact h q (by simp [hq])) (fun k => by
      rw [e2]; have := hb k; split <;> omega), e2]
    by_cases e : p.2 = k
    · simp [e, List.countP_cons]; omega
    · simp [e, List.countP_cons]

theorem start_ok (w : List Int) : ∀ (m i : Nat) (f : List Nat), f.Nodup → (∀ x ∈ f, x < i) → (∀ k, k < i → (k ∈ f ↔ w.getD k 0 = 0)) → i + m ≤ most →
    ∃ f', start m i f w = some f' ∧ f'.Nodup ∧ (∀ x ∈ f', x < i + m) ∧ ∀ k, k < i + m → (k ∈ f' ↔ w.getD k 0 = 0) := by
  intro m
  induction m with
  | zero => intro i f h1 h2 h3 _; exact ⟨f, rfl, h1, h2, h3⟩
  | succ m ih =>
    intro i f h1 h2 h3 h4
    unfold start
    have hs := small h1 h2
    by_cases hw : w.getD i 0 = 0
    · rw [if_pos hw, if_pos (by omega)]
      have hp := push_perm f i
      obtain ⟨f', e, a, b, c⟩ := ih (i + 1) (push f i) (hp.nodup_iff.2 (List.nodup_cons.2 ⟨fun h => Nat.lt_irrefl _ (h2 i h), h1⟩)) (fun x hx => by
        rcases List.mem_cons.1 (hp.mem_iff.1 hx) with h | h
        · omega
        · have := h2 x h; omega) (fun k hk => by
        rw [hp.mem_iff, List.mem_cons]
        by_cases e : k = i
        · subst e; simp only [true_or, hw]
        · simp only [e, false_or]; exact h3 k (by omega)) (by omega)
      exact ⟨f', e, a, fun x hx => by have := b x hx; omega, fun k hk => c k (by omega)⟩
    · rw [if_neg hw]
      obtain ⟨f', e, a, b, c⟩ := ih (i + 1) f h1 (fun x hx => by have := h2 x hx; omega) (fun k hk => by
        by_cases e : k = i
        · subst e; exact ⟨fun h => absurd (h2 k h) (Nat.lt_irrefl _), fun h => absurd h hw⟩
        · exact h3 k (by omega)) (by omega)
      exact ⟨f', e, a, fun x hx => by have := b x hx; omega, fun k hk => c k (by omega)⟩

def cnt (ps : List (Nat × Nat)) (out : List Nat) (k : Nat) : Nat := ps.countP (fun p => p.2 = k ∧ p.1 ∉ out)
structure KI (n : Nat) (ps : List (Nat × Nat)) (f : List Nat) (w : List Int) (out : List Nat) : Prop where
  len : w.length = n
  nd : (f ++ out).Nodup
  lt : ∀ x ∈ f ++ out, x < n
  cn : ∀ k, k < n → w.getD k 0 = (cnt ps out k : Nat)
  zero : ∀ k, k < n → (k ∈ f ++ out ↔ w.getD k 0 = 0)
  order : ∀ pre x post, out = pre ++ x :: post → ∀ p ∈ ps, p.2 = x → p.1 ∈ pre

theorem inner_ok (n : Nat) (hn : n ≤ 4096) (ps : List (Nat × Nat)) (hl : ps.length ≤ most) (out : List Nat) : ∀ (ks f : List Nat) (w : List Int), (∀ k ∈ ks, k < n) → w.length = n → (f ++ out).Nodup → (∀ x ∈ f ++ out, x < n) →
    (∀ k, k < n → w.getD k 0 = ((cnt ps out k + ks.count k : Nat) : Int)) → (∀ k, k < n → (k ∈ f ++ out ↔ w.getD k 0 = 0)) → ks.length ≤ most →
    ∃ f' w', inner ks f w = some (f', w') ∧ w'.length = n ∧ (f' ++ out).Nodup ∧ (∀ x ∈ f' ++ out, x < n) ∧ (∀ k, k < n → w'.getD k 0 = (cnt ps out k : Nat)) ∧ (∀ k, k < n → (k ∈ f' ++ out ↔ w'.getD k 0 = 0)) := by
  intro ks
  induction ks with
  | nil => intro f w _ h1 h2 h3 h4 h5 _; exact ⟨f, w, rfl, h1, h2, h3, fun k hk => by simpa using h4 k hk, h5⟩
  | cons k ks ih =>
    intro f w hk h1 h2 h3 h4 h5 h6
    have hkn := hk k (by simp)
    have hc : cnt ps out k ≤ most := Nat.le_trans List.countP_le_length hl
    have hq : (k :: ks).count k ≤ most := Nat.le_trans List.count_le_length h6
    have hwk := h4 k hkn
    rw [List.count_cons_self] at hwk hq
    have ex : w64 (w.getD k 0 - 1) = ((cnt ps out k + ks.count k : Nat) : Int) := by
      simp only [most] at hc hq
      rw [w64_eq (by omega) (by omega)]; omega
    have hlen : f.length ≤ n := by
      have := small (n := n) (l := f) (List.Nodup.sublist (List.sublist_append_left _ _) h2) fun x hx => h3 x (by simp [hx])
      exact this
    have hnk : k ∉ f ++ out := fun h => by have := (h5 k hkn).1 h; omega
    have hg : ∀ j, j < n → (w.set k (w64 (w.getD k 0 - 1))).getD j 0 = ((cnt ps out j + ks.count j : Nat) : Int) := fun j hj => by
      rw [getD_set _ _ _ _ _ (by omega), ex]
      by_cases e : k = j
      · subst e; simp
      · rw [if_neg e, h4 j hj, List.count_cons_of_ne e]
    unfold inner
    by_cases hz : w64 (w.getD k 0 - 1) = 0
    · rw [if_pos hz, if_pos (by simp only [most]; omega)]
      have hp := push_perm f k
      have hp2 : (push f k ++ out).Perm (k :: (f ++ out)) := hp.append_right out
      refine ih _ _ (fun x hx => hk x (by simp [hx])) (by simpa using h1) (hp2.nodup_iff.2 (List.nodup_cons.2 ⟨hnk, h2⟩)) (fun x hx => ?_) hg (fun j hj => ?_) (by simp only [List.length_cons] at h6; omega)
      · rcases List.mem_cons.1 (hp2.mem_iff.1 hx) with h | h
        · omega
        · exact h3 x h
      · rw [hp2.mem_iff, List.mem_cons, getD_set _ _ _ _ _ (by omega)]
        by_cases e : k = j
        · subst e; simp only [true_or, if_true, hz]
        · rw [if_neg e]; simp only [show j ≠ k from fun h => e h.symm, false_or]; exact h5 j hj
    · rw [if_neg hz]
      refine ih _ _ (fun x hx => hk x (by simp [hx])) (by simpa using h1) h2 h3 hg (fun j hj => ?_) (by simp only [List.length_cons] at h6; omega)
      rw [getD_set _ _ _ _ _ (by omega)]
      by_cases e : k = j
      · subst e; rw [if_pos rfl]; exact ⟨fun h => absurd h hnk, fun h => absurd h hz⟩
      · rw [if_neg e]; exact h5 j hj

theorem cnt_snoc (ps : List (Nat × Nat)) (out : List Nat) (i k : Nat) (hi : i ∉ out) : cnt ps out k = cnt ps (out ++ [i]) k + ((ps.filter (fun p => p.1 = i)).map (·.2)).count k := by
  unfold cnt
  induction ps with
  | nil => rfl
  | cons p ps ih =>
    simp only [List.countP_cons, ih, List.filter_cons]
    by_cases e : p.1 = i
    · have e1 : p.1 ∉ out := e ▸ hi
      by_cases e2 : p.2 = k
      · simp [e, e2, hi, List.count_cons]; omega
      · simp [e, e2, List.count_cons]
    · by_cases e2 : p.2 = k
      · by_cases e3 : p.1 ∈ out
        · simp [e, e2, e3]
        · simp [e, e2, e3]; omega
      · simp [e, e2]

theorem run_ok (n : Nat) (hn : n ≤ 4096) (ps : List (Nat × Nat)) (hl : ps.length ≤ most) (hp : ∀ p ∈ ps, p.1 < n ∧ p.2 < n) (bs : List (List Nat)) (hbs : ∀ i, bs.getD i [] = (ps.filter (fun p => p.1 = i)).map (·.2)) :
    ∀ (F : Nat) (f : List Nat) (w : List Int) (out : List Nat), KI n ps f w out → out.length + F = n + 1 → ∃ o w', run F bs f w out = some o ∧ KI n ps [] w' o := by
  intro F
  induction F with
  | zero =>
    intro f w out h e
    have := small (n := n) (l := out) (List.Nodup.sublist (List.sublist_append_right _ _) h.nd) fun x hx => h.lt x (by simp [hx])
    omega
  | succ F ih =>
    intro f w out h e
    have ho := small (n := n) (l := out) (List.Nodup.sublist (List.sublist_append_right _ _) h.nd) fun x hx => h.lt x (by simp [hx])
    unfold run
    by_cases hf : f.length = 0
    · rw [if_pos hf]
      have := List.eq_nil_of_length_eq_zero hf
      subst this
      exact ⟨out, w, rfl, h⟩
    · rw [if_neg hf, if_neg (by simp only [most]; omega)]
      have hpm := pop_perm f (by omega)
      have hmem : popTop f ∈ f := hpm.mem_iff.2 (by simp)
      have hin : popTop f < n := h.lt _ (by simp [hmem])
      have hno : popTop f ∉ out := fun ho => by
        have := (List.nodup_append.1 h.nd).2.2 _ hmem _ ho
        exact this rfl
      have hq : (popRest f ++ (out ++ [popTop f])).Perm (f ++ out) := by
        have h1 : (f ++ out).Perm (popTop f :: popRest f ++ out) := hpm.append_right out
        have h2 : (popRest f ++ (out ++ [popTop f])).Perm (popTop f :: popRest f ++ out) := by
          rw [← List.append_assoc]; exact List.perm_append_singleton _ _
        exact h2.trans h1.symm
      obtain ⟨f', w', e1, a1, a2, a3, a4, a5⟩ := inner_ok n hn ps hl (out ++ [popTop f]) (bs.getD (popTop f) []) (popRest f) w (fun k hk => by
        rw [hbs] at hk
        obtain ⟨p, hp1, hp2⟩ := List.mem_map.1 hk
        rw [← hp2]; exact (hp p (List.mem_filter.1 hp1).1).2) h.len (hq.nodup_iff.2 h.nd) (fun x hx => h.lt x (hq.mem_iff.1 hx)) (fun k hk => by
        rw [h.cn k hk, cnt_snoc ps out _ k hno, hbs]) (fun k hk => by rw [hq.mem_iff]; exact h.zero k hk) (by
        rw [hbs, List.length_map]; exact Nat.le_trans (List.length_filter_le _ _) hl)
      rw [e1]
      refine ih f' w' _ ⟨a1, a2, a3, a4, a5, ?_⟩ (by simp; omega)
      intro pre x post ep p hps hpx
      rcases List.eq_nil_or_concat post with rfl | ⟨post', y, rfl⟩
      · have := List.append_inj' ep rfl
        obtain ⟨rfl, hx⟩ := this
        simp only [List.cons.injEq, and_true] at hx
        have hz : w.getD (popTop f) 0 = 0 := (h.zero _ hin).1 (by simp [hmem])
        rw [h.cn _ hin] at hz
        have hz : cnt ps out (popTop f) = 0 := by omega
        unfold cnt at hz
        rw [List.countP_eq_zero] at hz
        have := hz p hps
        simp only [decide_eq_true_eq, not_and, Decidable.not_not] at this
        exact this (by rw [hpx, hx])
      · rw [List.concat_eq_append, ← List.cons_append, ← List.append_assoc] at ep
        have := (List.append_inj' ep rfl).1
        exact h.order pre x post' this p hps hpx

theorem arrange_spec (n : Nat) (hn : n ≤ 4096) (ps : List (Nat × Nat)) (hl : ps.length ≤ most) (hp : ∀ p ∈ ps, p.1 < n ∧ p.2 < n) :
    ∃ o, arrange n ps = some o ∧ o.Nodup ∧ (∀ x ∈ o, x < n) ∧ (∀ pre x post, o = pre ++ x :: post → ∀ p ∈ ps, p.2 = x → p.1 ∈ pre) ∧ (∀ k, k < n → k ∉ o → ∃ p ∈ ps, p.2 = k ∧ p.1 ∉ o) := by
  have hw : ∀ k, (ps.foldl bump2 (List.replicate n 0)).getD k 0 = (ps.countP (fun p => p.2 = k) : Nat) := fun k => by
    have hr : ∀ k, (List.replicate n (0 : Int)).getD k 0 = 0 := fun k => by simp [List.getD, List.getElem?_replicate]; split <;> rfl
    rw [bump2_get ps _ (fun p h => by simpa using (hp p h).2) (fun k => by rw [hr]; simp only [most] at hl; omega), hr]; simp
  have hb : ∀ i, (ps.foldl bump1 (List.replicate n [])).getD i [] = (ps.filter (fun p => p.1 = i)).map (·.2) := fun i => by
    rw [bump1_get ps _ (fun p h => by simpa using (hp p h).1)]
    have : (List.replicate n ([] : List Nat)).getD i [] = [] := by simp [List.getD, List.getElem?_replicate]; split <;> rfl
    rw [this]; rfl
  obtain ⟨f, e1, a1, a2, a3⟩ := start_ok (ps.foldl bump2 (List.replicate n 0)) n 0 [] (by simp) (by simp) (by simp) (by simp only [most]; omega)
  rw [Nat.zero_add] at a2 a3
  have hc : ∀ k, cnt ps [] k = ps.countP (fun p => p.2 = k) := fun k => by unfold cnt; congr 1; funext p; simp
  obtain ⟨o, w', e2, h⟩ := run_ok n hn ps hl hp _ hb (n + 1) f (ps.foldl bump2 (List.replicate n 0)) [] ⟨by rw [bump2_len]; simp, by simpa using a1, by simpa using a2, fun k _ => by rw [hw, hc], fun k hk => by simpa using a3 k hk, by simp⟩ (by simp)
  refine ⟨o, ?_, by simpa using h.nd, fun x hx => h.lt x (by simpa using hx), h.order, fun k hk hko => ?_⟩
  · unfold arrange; rw [e1]; exact e2
  · have h1 : ¬ w'.getD k 0 = 0 := fun hz => hko (by simpa using (h.zero k hk).2 hz)
    rw [h.cn k hk] at h1
    have h2 : 0 < cnt ps o k := by omega
    unfold cnt at h2
    rw [List.countP_pos_iff] at h2
    obtain ⟨p, hp1, hp2⟩ := h2
    simp only [decide_eq_true_eq] at hp2
    exact ⟨p, hp1, hp2⟩
end Go.Proofs.Ytoohfcalhlfniaa.Js
