/- The tree, the plain part, on: each call keeps what is always true. -/
import Derived.Test.YthfpmipeejjogaaGreatDoorZtP
namespace Go.Proofs.YthfpmipeejjogaaGreatDoor.Zt
open Go Go.Proofs.YthfpmipeejjogaaGreatDoor.SL Go.Proofs.YthfpmipeejjogaaGreatDoor.Pa
set_option linter.unusedSimpArgs false
set_option linter.unusedVariables false

theorem kc_pos {ks : List Str} {u : Str} (h : kc ks u ≠ 0) : ∃ k ∈ ks, parent k = some u := by
  have : 0 < kc ks u := by omega
  unfold kc at this
  rw [List.countP_pos_iff] at this
  obtain ⟨k, h1, h2⟩ := this
  exact ⟨k, h1, by simpa using h2⟩
theorem kc_in {ks : List Str} {u k : Str} (h : k ∈ ks) (hp : parent k = some u) : kc ks u ≠ 0 := by
  have : 0 < kc ks u := by
    unfold kc
    rw [List.countP_pos_iff]
    exact ⟨k, h, by simpa using hp⟩
  omega
theorem root_parent : parent [47] = none := rfl
theorem Inv.no_kids {st : St} (h : Inv st) {q : Str} (hq : st.lookup q = none) : kc (st.map (·.1)) q = 0 := by
  refine Classical.byContradiction fun hn => ?_
  obtain ⟨k, hk, hp⟩ := kc_pos hn
  obtain ⟨n, hl⟩ := lookup_in hk
  have hne : k ≠ [47] := fun e => by rw [e, root_parent] at hp; cases hp
  obtain ⟨u, m, h1, h2, _⟩ := h.up k n hl hne
  rw [hp] at h1
  cases h1
  rw [hq] at h2; cases h2
theorem parts_parent {q : Str} {u : Str} (h : parent q = some u) : ∃ ps, parts q = some ps := by
  unfold parent at h
  cases hp : parts q with
  | none => rw [hp] at h; cases h
  | some ps => exact ⟨ps, rfl⟩

theorem inv_add {st : St} {q u d : Str} {n : Nd} {o : Int} (h : Inv st) (hlen : st.length ≤ 4398046511104) (hu : st.lookup u = some n) (ho : n.own = 0) (hc : ¬ 9999999999 < n.ctr) (hq : st.lookup q = none) (hpq : parent q = some u) (hd : d.length ≤ 256) :
    Inv (modN (st ++ [(q, ⟨0, 0, o, 0, d⟩)]) u bump) := by
  have hqu : q ≠ u := fun e => by rw [e, hu] at hq; cases hq
  have hkids := h.kids u n hu
  have hctr := h.ctr u n hu
  have hle : kc (st.map (·.1)) u ≤ st.length := by unfold kc; exact Nat.le_trans List.countP_le_length (by simp)
  have lk : ∀ k, (modN (st ++ [(q, (⟨0, 0, o, 0, d⟩ : Nd))]) u bump).lookup k = if k = u then some (bump n) else if k = q then some ⟨0, 0, o, 0, d⟩ else st.lookup k := fun k => by
    rw [lookup_mod, lookup_app]
    by_cases e : k = u
    · subst e; rw [if_pos rfl, if_pos rfl, hu]; rfl
    · rw [if_neg e, if_neg e]
      by_cases e2 : k = q
      · subst e2; rw [hq]
      · rw [if_neg e2, if_neg e2]; cases st.lookup k <;> rfl
  have hb : bump n = { n with ctr := n.ctr + 1, kids := n.kids + 1 } := by
    unfold bump
    rw [SL.w64_eq (by omega) (by omega), SL.w64_eq (by omega) (by omega)]
  have hkeys : (modN (st ++ [(q, (⟨0, 0, o, 0, d⟩ : Nd))]) u bump).map (·.1) = st.map (·.1) ++ [q] := by rw [keys_mod, List.map_append]; rfl
  have hkc : ∀ k, kc ((modN (st ++ [(q, (⟨0, 0, o, 0, d⟩ : Nd))]) u bump).map (·.1)) k = kc (st.map (·.1)) k + if u = k then 1 else 0 := fun k => by
    rw [hkeys, kc_app, kc_one, hpq]
    simp
  have old : ∀ v m, st.lookup v = some m → ∃ m', (modN (st ++ [(q, (⟨0, 0, o, 0, d⟩ : Nd))]) u bump).lookup v = some m' ∧ m'.own = m.own := fun v m hv => by
    rw [lk]
    by_cases e : v = u
    · subst e
      rw [hu] at hv; cases hv
      exact ⟨_, if_pos rfl, rfl⟩
    · have e2 : v ≠ q := fun e => by rw [e, hq] at hv; cases hv
      exact ⟨m, by rw [if_neg e, if_neg e2]; exact hv, rfl⟩
  have cases3 : ∀ k m, (modN (st ++ [(q, (⟨0, 0, o, 0, d⟩ : Nd))]) u bump).lookup k = some m → (k = u ∧ m = bump n) ∨ (k = q ∧ k ≠ u ∧ m = ⟨0, 0, o, 0, d⟩) ∨ (k ≠ u ∧ k ≠ q ∧ st.lookup k = some m) := fun k m hk => by
    rw [lk] at hk
    by_cases e : k = u
    · rw [if_pos e] at hk; exact .inl ⟨e, (Option.some.inj hk).symm⟩
    · rw [if_neg e] at hk
      by_cases e2 : k = q
      · rw [if_pos e2] at hk; exact .inr (.inl ⟨e2, e, (Option.some.inj hk).symm⟩)
      · rw [if_neg e2] at hk; exact .inr (.inr ⟨e, e2, hk⟩)
  refine ⟨?_, ?_, fun k m hk => ?_, fun k m hk hne => ?_, fun k m hk => ?_, fun k m hk => ?_, fun k m hk => ?_⟩
  · rw [hkeys, List.nodup_append]
    refine ⟨h.keys, by simp, ?_⟩
    intro x hx y hy
    simp at hy
    intro e
    exact lookup_none hq (by rw [← hy, ← e]; exact hx)
  · obtain ⟨n0, h0⟩ := h.root
    obtain ⟨m', h1, _⟩ := old _ _ h0
    exact ⟨m', h1⟩
  · rcases cases3 k m hk with ⟨rfl, _⟩ | ⟨rfl, _, _⟩ | ⟨_, _, h3⟩
    · exact h.path _ n hu
    · exact parts_parent hpq
    · exact h.path k m h3
  · have fin : ∀ v mm, parent k = some v → st.lookup v = some mm → mm.own = 0 → ∃ u' m', parent k = some u' ∧ (modN (st ++ [(q, (⟨0, 0, o, 0, d⟩ : Nd))]) u bump).lookup u' = some m' ∧ m'.own = 0 := fun v mm h1 h2 h3 => by
      obtain ⟨m', h4, h5⟩ := old v mm h2
      exact ⟨v, m', h1, h4, by rw [h5]; exact h3⟩
    rcases cases3 k m hk with ⟨rfl, _⟩ | ⟨rfl, _, _⟩ | ⟨_, _, h3⟩
    · obtain ⟨v, mm, h1, h2, h3⟩ := h.up _ n hu hne
      exact fin v mm h1 h2 h3
    · exact fin u n hpq hu ho
    · obtain ⟨v, mm, h1, h2, h4⟩ := h.up k m h3 hne
      exact fin v mm h1 h2 h4
  · rw [hkc]
    rcases cases3 k m hk with ⟨rfl, rfl⟩ | ⟨rfl, hne, rfl⟩ | ⟨h1, _, h3⟩
    · rw [if_pos rfl, hb]; show n.kids + 1 = _; omega
    · rw [if_neg (fun e => hne e.symm), h.no_kids hq]; rfl
    · rw [if_neg (fun e => h1 e.symm)]; exact h.kids k m h3
  · rcases cases3 k m hk with ⟨rfl, rfl⟩ | ⟨rfl, hne, rfl⟩ | ⟨h1, _, h3⟩
    · rw [hb]; show n.kids + 1 ≤ n.ctr + 1 ∧ n.ctr + 1 ≤ _; omega
    · exact ⟨Int.le_refl _, show (0 : Int) ≤ 10000000000 by decide⟩
    · exact h.ctr k m h3
  · rcases cases3 k m hk with ⟨rfl, rfl⟩ | ⟨rfl, hne, rfl⟩ | ⟨h1, _, h3⟩
    · exact h.data _ n hu
    · exact hd
    · exact h.data k m h3

theorem create_len (st : St) (p d : Str) (o : Int) (seq : Bool) : (create st p d o seq).1.length ≤ st.length + 1 := by
  unfold create
  repeat' split
  all_goals first | exact Nat.le_succ _ | (simp [modN])
theorem inv_create {st : St} {p d : Str} {o : Int} {seq : Bool} (h : Inv st) (hlen : st.length ≤ 4398046511104) : Inv (create st p d o seq).1 := by
  unfold create
  cases hp : parent p with
  | none => exact h
  | some u =>
    simp only
    split
    · exact h
    · rename_i hd
      split
      · exact h
      · cases hu : st.lookup u with
        | none => exact h
        | some n =>
          simp only
          split
          · exact h
          · rename_i ho
            split
            · exact h
            · rename_i hc
              cases hq : (if seq = true then suffix p n.ctr else some p) with
              | none => exact h
              | some q =>
                simp only
                split
                · exact h
                · rename_i hs
                  have hqn : st.lookup q = none := by
                    cases e : st.lookup q with
                    | none => rfl
                    | some x => rw [e] at hs; exact absurd rfl hs
                  have hpq : parent q = some u := by
                    split at hq
                    · obtain ⟨_, _, e⟩ := suffix_parent hq
                      rw [e]; exact hp
                    · cases hq; exact hp
                  exact inv_add h hlen hu (by simpa using ho) hc hqn hpq (by omega)

theorem remove_len (st : St) (p : Str) (v : Int) : (remove st p v).1.length ≤ st.length := by
  have hdel : ∀ (s : St) q, (delK s q).length ≤ s.length := fun s q => by
    induction s with
    | nil => simp [delK]
    | cons x s ih =>
      obtain ⟨k, n⟩ := x
      unfold delK
      split
      · simp
      · simp; exact ih
  unfold remove
  repeat' split
  all_goals first | exact Nat.le_refl _ | (refine Nat.le_trans (hdel _ _) ?_; simp [modN])
theorem inv_remove {st : St} {p : Str} {v : Int} (h : Inv st) (hlen : st.length ≤ 4398046511104) : Inv (remove st p v).1 := by
  unfold remove
  split
  · exact h
  · rename_i hg
    cases hl : st.lookup p with
    | none => exact h
    | some n =>
      simp only
      split
      · exact h
      · split
        · exact h
        · rename_i hk0
          cases hpp : parent p with
          | none => exact h
          | some u =>
            simp only
            have hne : p ≠ [47] := fun e => hg (.inl e)
            obtain ⟨u', m, h1, hu, ho⟩ := h.up p n hl hne
            rw [hpp] at h1; cases h1
            have hpu := parent_ne hpp
            have hkn := h.kids p n hl
            have hz : kc (st.map (·.1)) p = 0 := by omega
            have hkm := h.kids u m hu
            have hcm := h.ctr u m hu
            have hin := in_lookup hl
            have hpos := kc_in hin hpp
            have hle : kc (st.map (·.1)) u ≤ st.length := by unfold kc; exact Nat.le_trans List.countP_le_length (by simp)
            have hb : less m = { m with kids := m.kids - 1 } := by
              unfold less; rw [SL.w64_eq (by omega) (by omega)]
            have hkM : ((modN st u less).map (·.1)).Nodup := by rw [keys_mod]; exact h.keys
            have lk : ∀ k, (delK (modN st u less) p).lookup k = if k = p then none else if k = u then some (less m) else st.lookup k := fun k => by
              rw [lookup_del hkM, lookup_mod]
              by_cases e : k = p
              · rw [if_pos e, if_pos e]
              · rw [if_neg e, if_neg e]
                by_cases e2 : k = u
                · subst e2; rw [if_pos rfl, if_pos rfl, hu]; rfl
                · rw [if_neg e2, if_neg e2]
            have hlM : (modN st u less).lookup p = some n := by rw [lookup_mod, if_neg hpu]; exact hl
            obtain ⟨a, b, k1, k2⟩ := keys_del hlM
            rw [keys_mod] at k1
            have hkc : ∀ k, kc (st.map (·.1)) k = kc ((delK (modN st u less) p).map (·.1)) k + if u = k then 1 else 0 := fun k => by
              rw [k1, k2, show a ++ p :: b = a ++ ([p] ++ b) from rfl, kc_app, kc_app, kc_app, kc_one, hpp]
              simp; omega
            have cases2 : ∀ k x, (delK (modN st u less) p).lookup k = some x → k ≠ p ∧ ((k = u ∧ x = less m) ∨ (k ≠ u ∧ st.lookup k = some x)) := fun k x hk => by
              rw [lk] at hk
              by_cases e : k = p
              · rw [if_pos e] at hk; cases hk
              · rw [if_neg e] at hk
                by_cases e2 : k = u
                · rw [if_pos e2] at hk; exact ⟨e, .inl ⟨e2, (Option.some.inj hk).symm⟩⟩
                · rw [if_neg e2] at hk; exact ⟨e, .inr ⟨e2, hk⟩⟩
            have old : ∀ v x, st.lookup v = some x → v ≠ p → ∃ x', (delK (modN st u less) p).lookup v = some x' ∧ x'.own = x.own := fun v x hv hvp => by
              rw [lk, if_neg hvp]
              by_cases e : v = u
              · subst e
                rw [hu] at hv; cases hv
                exact ⟨_, if_pos rfl, rfl⟩
              · exact ⟨x, by rw [if_neg e]; exact hv, rfl⟩
            refine ⟨?_, ?_, fun k x hk => ?_, fun k x hk hkn => ?_, fun k x hk => ?_, fun k x hk => ?_, fun k x hk => ?_⟩
            · rw [k2]
              have := h.keys
              rw [k1] at this
              exact List.Nodup.sublist (List.Sublist.append_left (List.sublist_cons_self _ _) _) this
            · obtain ⟨n0, h0⟩ := h.root
              obtain ⟨x', h1, _⟩ := old _ _ h0 (fun e => hne e.symm)
              exact ⟨x', h1⟩
            · rcases cases2 k x hk with ⟨_, ⟨rfl, _⟩ | ⟨_, h3⟩⟩
              · exact h.path _ m hu
              · exact h.path k x h3
            · have hkin : ∃ y, st.lookup k = some y := by
                rcases cases2 k x hk with ⟨_, ⟨rfl, _⟩ | ⟨_, h3⟩⟩
                · exact ⟨m, hu⟩
                · exact ⟨x, h3⟩
              obtain ⟨y, hy⟩ := hkin
              obtain ⟨w, mm, g1, g2, g3⟩ := h.up k y hy hkn
              have hwp : w ≠ p := fun e => kc_in (in_lookup hy) (by rw [g1, e]) hz
              obtain ⟨x', g4, g5⟩ := old w mm g2 hwp
              exact ⟨w, x', g1, g4, by rw [g5]; exact g3⟩
            · have hkc' := hkc k
              rcases cases2 k x hk with ⟨_, ⟨rfl, rfl⟩ | ⟨h2, h3⟩⟩
              · rw [if_pos rfl] at hkc'
                rw [hb]; show m.kids - 1 = _; omega
              · rw [if_neg (fun e => h2 e.symm)] at hkc'
                have := h.kids k x h3
                omega
            · rcases cases2 k x hk with ⟨_, ⟨rfl, rfl⟩ | ⟨h2, h3⟩⟩
              · rw [hb]; show m.kids - 1 ≤ m.ctr ∧ m.ctr ≤ _; omega
              · exact h.ctr k x h3
            · rcases cases2 k x hk with ⟨_, ⟨rfl, rfl⟩ | ⟨h2, h3⟩⟩
              · exact h.data _ m hu
              · exact h.data k x h3
theorem setD_len (st : St) (p d : Str) (v : Int) : (setD st p d v).1.length = st.length := by
  unfold setD
  repeat' split
  all_goals first | rfl | simp [modN]
theorem inv_set {st : St} {p d : Str} {v : Int} (h : Inv st) : Inv (setD st p d v).1 := by
  unfold setD
  split
  · exact h
  · split
    · exact h
    · rename_i hd
      cases hl : st.lookup p with
      | none => exact h
      | some n =>
        simp only
        split
        · exact h
        · have lk : ∀ k x, (modN st p (setNd d)).lookup k = some x → ∃ y, st.lookup k = some y ∧ x.kids = y.kids ∧ x.ctr = y.ctr ∧ x.own = y.own ∧ x.data.length ≤ 256 := fun k x hk => by
            rw [lookup_mod] at hk
            by_cases e : k = p
            · subst e
              rw [if_pos rfl, hl] at hk
              cases hk
              exact ⟨n, hl, rfl, rfl, rfl, by show d.length ≤ 256; omega⟩
            · rw [if_neg e] at hk
              exact ⟨x, hk, rfl, rfl, rfl, h.data k x hk⟩
          have old : ∀ k y, st.lookup k = some y → ∃ x, (modN st p (setNd d)).lookup k = some x ∧ x.own = y.own := fun k y hk => by
            rw [lookup_mod]
            by_cases e : k = p
            · rw [if_pos e, hk]; exact ⟨_, rfl, rfl⟩
            · rw [if_neg e]; exact ⟨y, hk, rfl⟩
          refine ⟨by rw [keys_mod]; exact h.keys, ?_, fun k x hk => ?_, fun k x hk hne => ?_, fun k x hk => ?_, fun k x hk => ?_, fun k x hk => ?_⟩
          · obtain ⟨n0, h0⟩ := h.root
            obtain ⟨x, h1, _⟩ := old _ _ h0
            exact ⟨x, h1⟩
          · obtain ⟨y, h1, _⟩ := lk k x hk
            exact h.path k y h1
          · obtain ⟨y, h1, _⟩ := lk k x hk
            obtain ⟨u, m, g1, g2, g3⟩ := h.up k y h1 hne
            obtain ⟨m', g4, g5⟩ := old u m g2
            exact ⟨u, m', g1, g4, by rw [g5]; exact g3⟩
          · obtain ⟨y, h1, h2, _⟩ := lk k x hk
            rw [keys_mod, h2]; exact h.kids k y h1
          · obtain ⟨y, h1, h2, h3, _⟩ := lk k x hk
            rw [h2, h3]; exact h.ctr k y h1
          · obtain ⟨y, _, _, _, _, h5⟩ := lk k x hk
            exact h5
end Go.Proofs.YthfpmipeejjogaaGreatDoor.Zt
