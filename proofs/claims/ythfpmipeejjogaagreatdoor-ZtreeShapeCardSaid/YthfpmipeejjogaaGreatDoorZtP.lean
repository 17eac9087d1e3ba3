/- The tree, the plain part: what is always true of a tree, and that each call keeps it. No program in sight. -/
import Derived.Test.YthfpmipeejjogaaGreatDoorZtD
namespace Go.Proofs.YthfpmipeejjogaaGreatDoor.Zt
open Go Go.Proofs.YthfpmipeejjogaaGreatDoor.SL Go.Proofs.YthfpmipeejjogaaGreatDoor.Pa
set_option linter.unusedSimpArgs false
set_option linter.unusedVariables false

def kc (ks : List Str) (u : Str) : Nat := ks.countP fun k => parent k = some u
theorem lookup_mod (st : St) (u : Str) (f : Nd → Nd) (k : Str) : (modN st u f).lookup k = if k = u then (st.lookup k).map f else st.lookup k := by
  induction st with
  | nil => simp [modN]
  | cons p st ih =>
    obtain ⟨p, n⟩ := p
    unfold modN at ih ⊢
    rw [List.map_cons]
    by_cases e : p = u
    · subst e
      simp only [if_true]
      rw [List.lookup_cons, List.lookup_cons, ih]
      by_cases c : k = p
      · subst c; simp
      · rw [show (k == p) = false by simpa using c]
    · simp only [e, if_false]
      rw [List.lookup_cons, List.lookup_cons, ih]
      by_cases c : k = p
      · subst c; simp [e]
      · rw [show (k == p) = false by simpa using c]
theorem lookup_app (st : St) (q : Str) (n : Nd) (k : Str) : (st ++ [(q, n)]).lookup k = match st.lookup k with | some m => some m | none => if k = q then some n else none := by
  induction st with
  | nil =>
    rw [List.nil_append, List.lookup_cons]
    by_cases c : k = q
    · subst c; simp
    · rw [show (k == q) = false by simpa using c]; simp [c]
  | cons p st ih =>
    obtain ⟨p, m⟩ := p
    rw [List.cons_append, List.lookup_cons, List.lookup_cons, ih]
    by_cases c : k = p
    · subst c; simp
    · rw [show (k == p) = false by simpa using c]
theorem lookup_notin {st : St} {k : Str} (h : k ∉ st.map (·.1)) : st.lookup k = none := by
  rw [List.lookup_eq_none_iff]
  intro p hp
  simp
  intro e
  exact h (List.mem_map.2 ⟨p, hp, e.symm⟩)
theorem lookup_del {st : St} (hk : (st.map (·.1)).Nodup) (q k : Str) : (delK st q).lookup k = if k = q then none else st.lookup k := by
  induction st with
  | nil => simp [delK]
  | cons p st ih =>
    obtain ⟨p, n⟩ := p
    rw [List.map_cons, List.nodup_cons] at hk
    unfold delK
    by_cases e : q = p
    · subst e
      rw [if_pos rfl]
      by_cases c : k = q
      · subst c; rw [if_pos rfl]; exact lookup_notin hk.1
      · rw [if_neg c, List.lookup_cons, show (k == q) = false by simpa using c]
    · rw [if_neg e, List.lookup_cons, List.lookup_cons, ih hk.2]
      by_cases c : k = p
      · subst c; simp [show ¬ k = q from fun h => e h.symm]
      · rw [show (k == p) = false by simpa using c]
theorem keys_mod (st : St) (u : Str) (f : Nd → Nd) : (modN st u f).map (·.1) = st.map (·.1) := by
  unfold modN; rw [List.map_map]
  refine List.map_congr_left fun p _ => ?_
  simp only [Function.comp]
  split <;> rfl
theorem keys_del {st : St} {q : Str} {n : Nd} (h : st.lookup q = some n) : ∃ a b, st.map (·.1) = a ++ q :: b ∧ (delK st q).map (·.1) = a ++ b := by
  induction st with
  | nil => cases h
  | cons p st ih =>
    obtain ⟨p, m⟩ := p
    unfold delK
    by_cases e : q = p
    · subst e; exact ⟨[], st.map (·.1), rfl, by rw [if_pos rfl]; rfl⟩
    · rw [List.lookup_cons, show (q == p) = false by simpa using e] at h
      obtain ⟨a, b, h1, h2⟩ := ih h
      exact ⟨p :: a, b, by rw [List.map_cons, h1]; rfl, by rw [if_neg e, List.map_cons, h2]; rfl⟩
theorem lookup_in {st : St} {k : Str} (h : k ∈ st.map (·.1)) : ∃ n, st.lookup k = some n := by
  cases e : st.lookup k with
  | some n => exact ⟨n, rfl⟩
  | none => exact absurd h (lookup_none e)
theorem in_lookup {st : St} {k : Str} {n : Nd} (h : st.lookup k = some n) : k ∈ st.map (·.1) := Classical.byContradiction fun hn => by
  rw [lookup_notin hn] at h; cases h

structure Inv (st : St) : Prop where
  keys : (st.map (·.1)).Nodup
  root : ∃ n, st.lookup [47] = some n
  path : ∀ k n, st.lookup k = some n → ∃ ps, parts k = some ps
  up : ∀ k n, st.lookup k = some n → k ≠ [47] → ∃ u m, parent k = some u ∧ st.lookup u = some m ∧ m.own = 0
  kids : ∀ k n, st.lookup k = some n → n.kids = (kc (st.map (·.1)) k : Nat)
  ctr : ∀ k n, st.lookup k = some n → n.kids ≤ n.ctr ∧ n.ctr ≤ 10000000000
  data : ∀ k n, st.lookup k = some n → n.data.length ≤ 256
theorem inv_new : Inv St.new := by
  have hl : ∀ k n, St.new.lookup k = some n → k = [47] ∧ n = ⟨0, 0, 0, 0, []⟩ := fun k n h => by
    unfold St.new at h
    rw [List.lookup_cons] at h
    by_cases c : k = [47]
    · subst c; simp at h; exact ⟨rfl, h.symm⟩
    · rw [show (k == [47]) = false by simpa using c] at h; cases h
  refine ⟨by simp [St.new], ⟨_, rfl⟩, fun k n h => ?_, fun k n h hne => absurd (hl k n h).1 hne, fun k n h => ?_, fun k n h => ?_, fun k n h => ?_⟩
  · rw [(hl k n h).1]; exact ⟨[], rfl⟩
  · obtain ⟨rfl, rfl⟩ := hl k n h
    decide
  · rw [(hl k n h).2]; decide
  · rw [(hl k n h).2]; decide
theorem tens_no (k n : Nat) : ∀ c ∈ tens k n, c ≠ 47 := by
  induction k generalizing n with
  | zero => intro c h; cases h
  | succ k ih =>
    intro c h
    rw [tens] at h
    rcases List.mem_append.1 h with h | h
    · exact ih _ c h
    · rw [List.mem_singleton] at h
      intro e
      have h1 := congrArg UInt8.toNat (h.symm.trans e)
      have : n % 10 < 10 := Nat.mod_lt _ (by omega)
      simp at h1
      omega
/-- the path with digits behind it has the same parent -/
theorem suffix_parent {p q : Str} {n : Int} (h : suffix p n = some q) : ∃ ps, parts q = some ps ∧ parent q = parent p := by
  unfold suffix at h
  cases hp : parts p with
  | none => rw [hp] at h; cases h
  | some ps =>
    rw [hp] at h
    simp only at h
    split at h
    · cases h
    · rename_i hn
      split at h
      · rename_i hs
        cases h
        obtain ⟨qs, hqs⟩ := Option.isSome_iff_exists.1 hs
        refine ⟨qs, hqs, ?_⟩
        obtain ⟨hl, hg⟩ := parts_iff.1 hp
        obtain ⟨hql, hqg⟩ := parts_iff.1 hqs
        have hne : ps ≠ [] := fun e => hn (.inl e)
        obtain ⟨zs, x, rfl⟩ : ∃ zs x, ps = zs ++ [x] := by
          rcases List.eq_nil_or_concat ps with e | ⟨zs, x, e⟩
          · exact absurd e hne
          · exact ⟨zs, x, by rw [e, List.concat_eq_append]⟩
        have e1 : p ++ digits n = mk (zs ++ [x ++ digits n]) := by
          rw [hl, mk_snoc, mk_snoc]; simp
        have hqn : qs ≠ [] := by
          intro e
          subst e
          have h1 := congrArg List.length hql
          rw [List.length_append] at h1
          have h2 : 1 ≤ p.length := by rw [hl]; exact mk_pos _
          have h3 : (digits n).length = 10 := tens_len 10 _
          simp [mk] at h1; omega
        have e2 : qs = zs ++ [x ++ digits n] := by
          have c1 : cut ((mk qs).drop 1) = qs := by unfold mk; rw [if_neg hqn]; exact cut_mk qs hqn fun y hy => name_no (hqg.ok y hy)
          have c2 : cut ((mk (zs ++ [x ++ digits n])).drop 1) = zs ++ [x ++ digits n] := by
            unfold mk; rw [if_neg (by simp)]
            refine cut_mk _ (by simp) fun y hy => ?_
            rcases List.mem_append.1 hy with h | h
            · exact name_no (hg.ok y (by simp [h]))
            · rw [List.mem_singleton] at h
              rw [h]
              intro hm
              rcases List.mem_append.1 hm with h' | h'
              · exact name_no (hg.ok x (by simp)) h'
              · exact tens_no _ _ 47 h' rfl
          rw [← c1, ← hql, e1, c2]
        unfold parent
        rw [hqs, hp, e2]
        simp
      · cases h
theorem kc_app (a b : List Str) (u : Str) : kc (a ++ b) u = kc a u + kc b u := by unfold kc; rw [List.countP_append]
theorem kc_one (q u : Str) : kc [q] u = if parent q = some u then 1 else 0 := by unfold kc; simp [List.countP_cons]
end Go.Proofs.YthfpmipeejjogaaGreatDoor.Zt
