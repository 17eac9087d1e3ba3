/- ZtQ, NmA, GL7, NmB, NmC -/
import Derived.Sort.Walk0
import Derived.Test.YthfpmipeejjogaaDoorXD
/- The tree, the plain part, on: each call keeps what is always true. -/
namespace Go.Proofs.YthfpmipeejjogaaDoor.Zt
open Go Go.Proofs.YthfpmipeejjogaaDoor.SL Go.Proofs.YthfpmipeejjogaaDoor.Pa
set_option linter.unusedSimpArgs false
set_option linter.unusedVariables false

theorem kc_pos {ks : List Str} {u : Str} (h : kc ks u ≠ 0) : ∃ k ∈ ks, parent k = some u := by
  have : 0 < kc ks u := by omega
  unfold kc at this
  rw [List.countP_pos_iff] at this
  obtain ⟨k, h1, h2⟩ := this
  exact ⟨k, h1, by simpa using h2⟩
theorem kc_in {ks : List Str} {u k : Str} (h : k ∈ ks) (hp : parent k = some u) : kc ks u ≠ 0 := by
  have : 0 < kc ks u := by
    unfold kc
    rw [List.countP_pos_iff]
    exact ⟨k, h, by simpa using hp⟩
  omega
theorem root_parent : parent [47] = none := rfl
theorem Inv.no_kids {st : St} (h : Inv st) {q : Str} (hq : st.lookup q = none) : kc (st.map (·.1)) q = 0 := by
  refine Classical.byContradiction fun hn => ?_
  obtain ⟨k, hk, hp⟩ := kc_pos hn
  obtain ⟨n, hl⟩ := lookup_in hk
  have hne : k ≠ [47] := fun e => by rw [e, root_parent] at hp; cases hp
  obtain ⟨u, m, h1, h2, _⟩ := h.up k n hl hne
  rw [hp] at h1
  cases h1
  rw [hq] at h2; cases h2
theorem parts_parent {q : Str} {u : Str} (h : parent q = some u) : ∃ ps, parts q = some ps := by
  unfold parent at h
  cases hp : parts q with
  | none => rw [hp] at h; cases h
  | some ps => exact ⟨ps, rfl⟩

theorem inv_add {st : St} {q u d : Str} {n : Nd} {o : Int} (h : Inv st) (hlen : st.length ≤ 4398046511104) (hu : st.lookup u = some n) (ho : n.own = 0) (hc : ¬ 9999999999 < n.ctr) (hq : st.lookup q = none) (hpq : parent q = some u) (hd : d.length ≤ 256) :
    Inv (modN (st ++ [(q, ⟨0, 0, o, 0, d⟩)]) u bump) := by
  have hqu : q ≠ u := fun e => by rw [e, hu] at hq; cases hq
  have hkids := h.kids u n hu
  have hctr := h.ctr u n hu
  have hle : kc (st.map (·.1)) u ≤ st.length := by unfold kc; exact Nat.le_trans List.countP_le_length (by simp)
  have lk : ∀ k, (modN (st ++ [(q, (⟨0, 0, o, 0, d⟩ : Nd))]) u bump).lookup k = if k = u then some (bump n) else if k = q then some ⟨0, 0, o, 0, d⟩ else st.lookup k := fun k => by
    rw [lookup_mod, lookup_app]
    by_cases e : k = u
    · subst e; rw [if_pos rfl, if_pos rfl, hu]; rfl
    · rw [if_neg e, if_neg e]
      by_cases e2 : k = q
      · subst e2; rw [hq]
      · rw [if_neg e2, if_neg e2]; cases st.lookup k <;> rfl
  have hb : bump n = { n with ctr := n.ctr + 1, kids := n.kids + 1 } := by
    unfold bump
    rw [SL.w64_eq (by omega) (by omega), SL.w64_eq (by omega) (by omega)]
  have hkeys : (modN (st ++ [(q, (⟨0, 0, o, 0, d⟩ : Nd))]) u bump).map (·.1) = st.map (·.1) ++ [q] := by rw [keys_mod, List.map_append]; rfl
  have hkc : ∀ k, kc ((modN (st ++ [(q, (⟨0, 0, o, 0, d⟩ : Nd))]) u bump).map (·.1)) k = kc (st.map (·.1)) k + if u = k then 1 else 0 := fun k => by
    rw [hkeys, kc_app, kc_one, hpq]
    simp
  have old : ∀ v m, st.lookup v = some m → ∃ m', (modN (st ++ [(q, (⟨0, 0, o, 0, d⟩ : Nd))]) u bump).lookup v = some m' ∧ m'.own = m.own := fun v m hv => by
    rw [lk]
    by_cases e : v = u
    · subst e
      rw [hu] at hv; cases hv
      exact ⟨_, if_pos rfl, rfl⟩
    · have e2 : v ≠ q := fun e => by rw [e, hq] at hv; cases hv
      exact ⟨m, by rw [if_neg e, if_neg e2]; exact hv, rfl⟩
  have cases3 : ∀ k m, (modN (st ++ [(q, (⟨0, 0, o, 0, d⟩ : Nd))]) u bump).lookup k = some m → (k = u ∧ m = bump n) ∨ (k = q ∧ k ≠ u ∧ m = ⟨0, 0, o, 0, d⟩) ∨ (k ≠ u ∧ k ≠ q ∧ st.lookup k = some m) := fun k m hk => by
    rw [lk] at hk
    by_cases e : k = u
    · rw [if_pos e] at hk; exact .inl ⟨e, (Option.some.inj hk).symm⟩
    · rw [if_neg e] at hk
      by_cases e2 : k = q
      · rw [if_pos e2] at hk; exact .inr (.inl ⟨e2, e, (Option.some.inj hk).symm⟩)
      · rw [if_neg e2] at hk; exact .inr (.inr ⟨e, e2, hk⟩)
  refine ⟨?_, ?_, fun k m hk => ?_, fun k m hk hne => ?_, fun k m hk => ?_, fun k m hk => ?_, fun k m hk => ?_⟩
  · rw [hkeys, List.nodup_append]
    refine ⟨h.keys, by simp, ?_⟩
    intro x hx y hy
    simp at hy
    intro e
    exact lookup_none hq (by rw [← hy, ← e]; exact hx)
  · obtain ⟨n0, h0⟩ := h.root
    obtain ⟨m', h1, _⟩ := old _ _ h0
    exact ⟨m', h1⟩
  · rcases cases3 k m hk with ⟨rfl, _⟩ | ⟨rfl, _, _⟩ | ⟨_, _, h3⟩
    · exact h.path _ n hu
    · exact parts_parent hpq
    · exact h.path k m h3
  · have fin : ∀ v mm, parent k = some v → st.lookup v = some mm → mm.own = 0 → ∃ u' m', parent k = some u' ∧ (modN (st ++ [(q, (⟨0, 0, o, 0, d⟩ : Nd))]) u bump).lookup u' = some m' ∧ m'.own = 0 := fun v mm h1 h2 h3 => by
      obtain ⟨m', h4, h5⟩ := old v mm h2
      exact ⟨v, m', h1, h4, by rw [h5]; exact h3⟩
    rcases cases3 k m hk with ⟨rfl, _⟩ | ⟨rfl, _, _⟩ | ⟨_, _, h3⟩
    · obtain ⟨v, mm, h1, h2, h3⟩ := h.up _ n hu hne
      exact fin v mm h1 h2 h3
    · exact fin u n hpq hu ho
    · obtain ⟨v, mm, h1, h2, h4⟩ := h.up k m h3 hne
      exact fin v mm h1 h2 h4
  · rw [hkc]
    rcases cases3 k m hk with ⟨rfl, rfl⟩ | ⟨rfl, hne, rfl⟩ | ⟨h1, _, h3⟩
    · rw [if_pos rfl, hb]; show n.kids + 1 = _; omega
    · rw [if_neg (fun e => hne e.symm), h.no_kids hq]; rfl
    · rw [if_neg (fun e => h1 e.symm)]; exact h.kids k m h3
  · rcases cases3 k m hk with ⟨rfl, rfl⟩ | ⟨rfl, hne, rfl⟩ | ⟨h1, _, h3⟩
    · rw [hb]; show n.kids + 1 ≤ n.ctr + 1 ∧ n.ctr + 1 ≤ _; omega
    · exact ⟨Int.le_refl _, show (0 : Int) ≤ 10000000000 by decide⟩
    · exact h.ctr k m h3
  · rcases cases3 k m hk with ⟨rfl, rfl⟩ | ⟨rfl, hne, rfl⟩ | ⟨h1, _, h3⟩
    · exact h.data _ n hu
    · exact hd
    · exact h.data k m h3

theorem inv_create {st : St} {p d : Str} {o : Int} {seq : Bool} (h : Inv st) (hlen : st.length ≤ 4398046511104) : Inv (create st p d o seq).1 := by
  unfold create
  cases hp : parent p with
  | none => exact h
  | some u =>
    simp only
    split
    · exact h
    · rename_i hd
      split
      · exact h
      · cases hu : st.lookup u with
        | none => exact h
        | some n =>
          simp only
          split
          · exact h
          · rename_i ho
            split
            · exact h
            · rename_i hc
              cases hq : (if seq = true then suffix p n.ctr else some p) with
              | none => exact h
              | some q =>
                simp only
                split
                · exact h
                · rename_i hs
                  have hqn : st.lookup q = none := by
                    cases e : st.lookup q with
                    | none => rfl
                    | some x => rw [e] at hs; exact absurd rfl hs
                  have hpq : parent q = some u := by
                    split at hq
                    · obtain ⟨_, _, e⟩ := suffix_parent hq
                      rw [e]; exact hp
                    · cases hq; exact hp
                  exact inv_add h hlen hu (by simpa using ho) hc hqn hpq (by omega)

theorem remove_len (st : St) (p : Str) (v : Int) : (remove st p v).1.length ≤ st.length := by
  have hdel : ∀ (s : St) q, (delK s q).length ≤ s.length := fun s q => by
    induction s with
    | nil => simp [delK]
    | cons x s ih =>
      obtain ⟨k, n⟩ := x
      unfold delK
      split
      · simp
      · simp; exact ih
  unfold remove
  repeat' split
  all_goals first | exact Nat.le_refl _ | (refine Nat.le_trans (hdel _ _) ?_; simp [modN])
theorem inv_remove {st : St} {p : Str} {v : Int} (h : Inv st) (hlen : st.length ≤ 4398046511104) : Inv (remove st p v).1 := by
  unfold remove
  split
  · exact h
  · rename_i hg
    cases hl : st.lookup p with
    | none => exact h
    | some n =>
      simp only
      split
      · exact h
      · split
        · exact h
        · rename_i hk0
          cases hpp : parent p with
          | none => exact h
          | some u =>
            simp only
            have hne : p ≠ [47] := fun e => hg (.inl e)
            obtain ⟨u', m, h1, hu, ho⟩ := h.up p n hl hne
            rw [hpp] at h1; cases h1
            have hpu := parent_ne hpp
            have hkn := h.kids p n hl
            have hz : kc (st.map (·.1)) p = 0 := by omega
            have hkm := h.kids u m hu
            have hcm := h.ctr u m hu
            have hin := in_lookup hl
            have hpos := kc_in hin hpp
            have hle : kc (st.map (·.1)) u ≤ st.length := by unfold kc; exact Nat.le_trans List.countP_le_length (by simp)
            have hb : less m = { m with kids := m.kids - 1 } := by
              unfold less; rw [SL.w64_eq (by omega) (by omega)]
            have hkM : ((modN st u less).map (·.1)).Nodup := by rw [keys_mod]; exact h.keys
            have lk : ∀ k, (delK (modN st u less) p).lookup k = if k = p then none else if k = u then some (less m) else st.lookup k := fun k => by
              rw [lookup_del hkM, lookup_mod]
              by_cases e : k = p
              · rw [if_pos e, if_pos e]
              · rw [if_neg e, if_neg e]
                by_cases e2 : k = u
                · subst e2; rw [if_pos rfl, if_pos rfl, hu]; rfl
                · rw [if_neg e2, if_neg e2]
            have hlM : (modN st u less).lookup p = some n := by rw [lookup_mod, if_neg hpu]; exact hl
            obtain ⟨a, b, k1, k2⟩ := keys_del hlM
            rw [keys_mod] at k1
            have hkc : ∀ k, kc (st.map (·.1)) k = kc ((delK (modN st u less) p).map (·.1)) k + if u = k then 1 else 0 := fun k => by
              rw [k1, k2, show a ++ p :: b = a ++ ([p] ++ b) from rfl, kc_app, kc_app, kc_app, kc_one, hpp]
              simp; omega
            have cases2 : ∀ k x, (delK (modN st u less) p).lookup k = some x → k ≠ p ∧ ((k = u ∧ x = less m) ∨ (k ≠ u ∧ st.lookup k = some x)) := fun k x hk => by
              rw [lk] at hk
              by_cases e : k = p
              · rw [if_pos e] at hk; cases hk
              · rw [if_neg e] at hk
                by_cases e2 : k = u
                · rw [if_pos e2] at hk; exact ⟨e, .inl ⟨e2, (Option.some.inj hk).symm⟩⟩
                · rw [if_neg e2] at hk; exact ⟨e, .inr ⟨e2, hk⟩⟩
            have old : ∀ v x, st.lookup v = some x → v ≠ p → ∃ x', (delK (modN st u less) p).lookup v = some x' ∧ x'.own = x.own := fun v x hv hvp => by
              rw [lk, if_neg hvp]
              by_cases e : v = u
              · subst e
                rw [hu] at hv; cases hv
                exact ⟨_, if_pos rfl, rfl⟩
              · exact ⟨x, by rw [if_neg e]; exact hv, rfl⟩
            refine ⟨?_, ?_, fun k x hk => ?_, fun k x hk hkn => ?_, fun k x hk => ?_, fun k x hk => ?_, fun k x hk => ?_⟩
            · rw [k2]
              have := h.keys
              rw [k1] at this
              exact List.Nodup.sublist (List.Sublist.append_left (List.sublist_cons_self _ _) _) this
            · obtain ⟨n0, h0⟩ := h.root
              obtain ⟨x', h1, _⟩ := old _ _ h0 (fun e => hne e.symm)
              exact ⟨x', h1⟩
            · rcases cases2 k x hk with ⟨_, ⟨rfl, _⟩ | ⟨_, h3⟩⟩
              · exact h.path _ m hu
              · exact h.path k x h3
            · have hkin : ∃ y, st.lookup k = some y := by
                rcases cases2 k x hk with ⟨_, ⟨rfl, _⟩ | ⟨_, h3⟩⟩
                · exact ⟨m, hu⟩
                · exact ⟨x, h3⟩
              obtain ⟨y, hy⟩ := hkin
              obtain ⟨w, mm, g1, g2, g3⟩ := h.up k y hy hkn
              have hwp : w ≠ p := fun e => kc_in (in_lookup hy) (by rw [g1, e]) hz
              obtain ⟨x', g4, g5⟩ := old w mm g2 hwp
              exact ⟨w, x', g1, g4, by rw [g5]; exact g3⟩
            · have hkc' := hkc k
              rcases cases2 k x hk with ⟨_, ⟨rfl, rfl⟩ | ⟨h2, h3⟩⟩
              · rw [if_pos rfl] at hkc'
                rw [hb]; show m.kids - 1 = _; omega
              · rw [if_neg (fun e => h2 e.symm)] at hkc'
                have := h.kids k x h3
                omega
            · rcases cases2 k x hk with ⟨_, ⟨rfl, rfl⟩ | ⟨h2, h3⟩⟩
              · rw [hb]; show m.kids - 1 ≤ m.ctr ∧ m.ctr ≤ _; omega
              · exact h.ctr k x h3
            · rcases cases2 k x hk with ⟨_, ⟨rfl, rfl⟩ | ⟨h2, h3⟩⟩
              · exact h.data _ m hu
              · exact h.data k x h3
end Go.Proofs.YthfpmipeejjogaaDoor.Zt

/- Sequential nodes of one name: the names that rise (pure). -/
namespace Go.Proofs.YthfpmipeejjogaaDoor.Zt
open Go Go.Proofs.YthfpmipeejjogaaDoor.SL Go.Proofs.YthfpmipeejjogaaDoor.Pa
set_option linter.unusedSimpArgs false
set_option linter.unusedVariables false

theorem tens_lt : ∀ (k i j : Nat), i < j → j < 10 ^ k → tens k i < tens k j := by
  intro k
  induction k with
  | zero => intro i j h hj; simp at hj; omega
  | succ k ih =>
    intro i j h hj
    rw [tens, tens]
    rw [Nat.pow_succ] at hj
    have hj' : j / 10 < 10 ^ k := by rw [Nat.div_lt_iff_lt_mul (by omega)]; exact hj
    by_cases c : i / 10 = j / 10
    · rw [c]
      refine (List.append_left_lt ?_)
      rw [List.cons_lt_cons_iff]
      refine .inl ?_
      rw [UInt8.lt_iff_toNat_lt, UInt8.toNat_ofNat_of_lt' (by have := Nat.mod_lt i (show 10 > 0 by omega); show _ < 256; omega), UInt8.toNat_ofNat_of_lt' (by have := Nat.mod_lt j (show 10 > 0 by omega); show _ < 256; omega)]
      omega
    · have := ih (i / 10) (j / 10) (by omega) hj'
      exact app_lt (by rw [tens_len, tens_len]) this
where
  app_lt : ∀ {a b c d : Str}, a.length = b.length → a < b → a ++ c < b ++ d := by
    intro a
    induction a with
    | nil => intro b c d hl h; cases b with
      | nil => exact absurd h (List.lt_irrefl _)
      | cons x b => simp at hl
    | cons x a ih =>
      intro b c d hl h
      cases b with
      | nil => simp at hl
      | cons y b =>
        rw [List.cons_append, List.cons_append]
        rw [List.cons_lt_cons_iff] at h ⊢
        rcases h with h | ⟨h1, h2⟩
        · exact .inl h
        · exact .inr ⟨h1, ih (by simpa using hl) h2⟩
abbrev qq : Str := [47, 113]
def seqn (p : Str) (i : Nat) : Str := 47 :: 113 :: 47 :: (p ++ digits (i : Int))
theorem digits_len (n : Int) : (digits n).length = 10 := tens_len 10 _
theorem seqn_lt {p : Str} {i j : Nat} (h : i < j) (hj : j < 10000000000) : seqn p i < seqn p j := by
  unfold seqn
  have : digits (i : Int) < digits (j : Int) := by unfold digits; rw [Int.toNat_natCast, Int.toNat_natCast]; exact tens_lt 10 i j h hj
  have := List.append_left_lt (l₁ := p) this
  rw [List.cons_lt_cons_iff]; refine .inr ⟨rfl, ?_⟩
  rw [List.cons_lt_cons_iff]; refine .inr ⟨rfl, ?_⟩
  rw [List.cons_lt_cons_iff]; exact .inr ⟨rfl, this⟩
theorem tens_okc (k n : Nat) : ∀ c ∈ tens k n, okc c = true := by
  induction k generalizing n with
  | zero => intro c h; cases h
  | succ k ih =>
    intro c h
    rw [tens] at h
    rcases List.mem_append.1 h with h | h
    · exact ih _ c h
    · rw [List.mem_singleton] at h
      have : n % 10 < 10 := Nat.mod_lt _ (by omega)
      subst h
      unfold okc
      rw [UInt8.toNat_ofNat_of_lt' (by show _ < 256; omega)]
      have h1 : decide (48 ≤ 48 + n % 10) = true := by simp
      have h2 : decide (48 + n % 10 ≤ 57) = true := by simp; omega
      rw [h1, h2]; simp
theorem name_digits {p : Str} {n : Int} (h : nameOk p = true) (hl : p.length ≤ 22) : nameOk (p ++ digits n) = true := by
  unfold nameOk at h ⊢
  simp only [Bool.and_eq_true, decide_eq_true_eq, List.all_eq_true, bne_iff_ne] at h ⊢
  have hd := digits_len n
  refine ⟨⟨⟨⟨by rw [List.length_append]; omega, by rw [List.length_append]; omega⟩, fun e => ?_⟩, fun e => ?_⟩, fun c hc => ?_⟩
  · have := congrArg List.length e; rw [List.length_append] at this; simp at this; omega
  · have := congrArg List.length e; rw [List.length_append] at this; simp at this; omega
  · rcases List.mem_append.1 hc with hc | hc
    · exact h.2 c hc
    · exact tens_okc _ _ c hc
theorem good2 {x : Str} (h : nameOk x = true) : Pa.Good [[113], x] := by
  have hl := (name_len h).2
  refine ⟨by simp, fun y hy => ?_, ?_⟩
  · simp at hy
    rcases hy with rfl | rfl
    · decide
    · exact h
  · unfold mk; simp; omega
theorem parts_qp {x : Str} (h : nameOk x = true) : parts (47 :: 113 :: 47 :: x) = some [[113], x] := parts_iff.2 ⟨by unfold mk; simp, good2 h⟩
theorem parent_qp {x : Str} (h : nameOk x = true) : parent (47 :: 113 :: 47 :: x) = some qq := by unfold parent; rw [parts_qp h]; rfl
theorem suffix_qp {p : Str} {i : Nat} (h : nameOk p = true) (hl : p.length ≤ 22) (hi : i ≤ 9999999999) : suffix (47 :: 113 :: 47 :: p) (i : Int) = some (seqn p i) := by
  unfold suffix
  rw [parts_qp h]
  simp only
  rw [if_neg (by simp; omega)]
  have : (47 :: 113 :: 47 :: p) ++ digits (i : Int) = seqn p i := by unfold seqn; simp
  rw [this, show parts (seqn p i) = some [[113], p ++ digits (i : Int)] from parts_qp (name_digits h hl)]
  rfl
structure Nst (p : Str) (i : Nat) (st : St) : Prop where
  inv : Inv st
  q : ∃ n, st.lookup qq = some n ∧ n.ctr = i ∧ n.own = 0
  keys : ∀ k n, st.lookup k = some n → k = [47] ∨ k = qq ∨ ∃ j, j < i ∧ k = seqn p j
  len : st.length ≤ i + 2
theorem seqn_ne {p : Str} (i : Nat) : seqn p i ≠ [47] ∧ seqn p i ≠ qq := by
  unfold seqn qq
  exact ⟨by simp, by simp⟩
theorem create_q : create St.new qq [] 0 false = ([([47], ⟨0, 1, 0, 1, []⟩), (qq, ⟨0, 0, 0, 0, []⟩)], qq, 0) := by rfl
theorem nst_start {p : Str} {st : St} (h : create St.new qq [] 0 false = (st, qq, 0)) : Nst p 0 st := by
  have e : st = (create St.new qq [] 0 false).1 := by rw [h]
  have hi := inv_create (p := qq) (d := []) (o := 0) (seq := false) inv_new (by decide)
  have hv := create_q
  rw [← e] at hi
  rw [hv] at e
  refine ⟨hi, ⟨_, by rw [e]; rfl, rfl, rfl⟩, fun k n hk => ?_, by rw [e]; decide⟩
  have := in_lookup hk
  rw [e] at this
  simp at this
  rcases this with h | h
  · exact .inl h
  · exact .inr (.inl h)
theorem nst_create {p : Str} {i : Nat} {st : St} (h : Nst p i st) (hp : nameOk p = true) (hl : p.length ≤ 22) (hi : i ≤ 500) :
    ∃ st', create st (47 :: 113 :: 47 :: p) [] 0 true = (st', seqn p i, 0) ∧ Nst p (i + 1) st' ∧ ∃ n, st'.lookup (seqn p i) = some n ∧ n.ver = 0 ∧ n.kids = 0 := by
  obtain ⟨n, hq, hc, ho⟩ := h.q
  have hlen := h.len
  have hno : st.lookup (seqn p i) = none := by
    cases e : st.lookup (seqn p i) with
    | none => rfl
    | some m =>
      rcases h.keys _ _ e with k | k | ⟨j, hj, k⟩
      · exact absurd k (seqn_ne i).1
      · exact absurd k (seqn_ne i).2
      · exact absurd (k ▸ seqn_lt hj (by omega)) (List.lt_irrefl _)
  have e : create st (47 :: 113 :: 47 :: p) [] 0 true = (modN (st ++ [(seqn p i, ⟨0, 0, 0, 0, []⟩)]) qq bump, seqn p i, 0) := by
    unfold create
    rw [parent_qp hp]
    simp only
    rw [if_neg (by simp), if_neg (by omega), hq]
    simp only
    rw [if_neg (by simpa using ho), if_neg (by omega), hc, suffix_qp hp hl (by omega)]
    simp [hno]
  have hne := (seqn_ne (p := p) i)
  have lk : ∀ k, (modN (st ++ [(seqn p i, (⟨0, 0, 0, 0, []⟩ : Nd))]) qq bump).lookup k = if k = seqn p i then some ⟨0, 0, 0, 0, []⟩ else if k = qq then (st.lookup k).map bump else st.lookup k := fun k => by
    rw [lookup_mod, lookup_app]
    by_cases c : k = seqn p i
    · subst c
      rw [if_neg hne.2, hno, if_pos rfl]; simp
    · rw [if_neg c]
      by_cases c2 : k = qq
      · subst c2; rw [if_pos rfl, if_pos rfl, hq, if_neg c]
      · rw [if_neg c2, if_neg c2]; cases st.lookup k <;> simp [c]
  have hinv := inv_create (p := 47 :: 113 :: 47 :: p) (d := []) (o := 0) (seq := true) h.inv (by omega)
  rw [e] at hinv
  refine ⟨_, e, ⟨hinv, ⟨bump n, by rw [lk, if_neg (Ne.symm hne.2), if_pos rfl, hq]; rfl, ?_, ho⟩, fun k m hk => ?_, ?_⟩, ⟨0, 0, 0, 0, []⟩, by rw [lk, if_pos rfl], rfl, rfl⟩
  · show IntKind.i64.wrap (n.ctr + 1) = _
    rw [hc, Pa.inc i (by omega)]
  · rw [lk] at hk
    by_cases c : k = seqn p i
    · exact .inr (.inr ⟨i, by omega, c⟩)
    · rw [if_neg c] at hk
      have : ∃ m', st.lookup k = some m' := by
        by_cases c2 : k = qq
        · rw [c2]; exact ⟨n, hq⟩
        · rw [if_neg c2] at hk; exact ⟨m, hk⟩
      obtain ⟨m', hm'⟩ := this
      rcases h.keys k m' hm' with k1 | k1 | ⟨j, hj, k1⟩
      · exact .inl k1
      · exact .inr (.inl k1)
      · exact .inr (.inr ⟨j, by omega, k1⟩)
  · unfold modN; simp; omega
theorem nst_remove {p : Str} {i : Nat} {st : St} {n : Nd} (h : Nst p (i + 1) st) (hp : nameOk p = true) (hl : p.length ≤ 22) (hi : i ≤ 500) (hn : st.lookup (seqn p i) = some n) (hv : n.ver = 0) (hk : n.kids = 0) :
    ∃ st', remove st (seqn p i) 0 = (st', 0) ∧ Nst p (i + 1) st' := by
  have hne := (seqn_ne (p := p) i)
  have hlen := h.len
  have hps := parts_qp (name_digits (n := (i : Int)) hp hl)
  have hpar : parent (seqn p i) = some qq := parent_qp (name_digits hp hl)
  have e : remove st (seqn p i) 0 = (delK (modN st qq less) (seqn p i), 0) := by
    unfold remove
    rw [if_neg (by
      rintro (h | h)
      · exact hne.1 h
      · rw [show parts (seqn p i) = _ from hps] at h; cases h), hn]
    simp only
    rw [if_neg (by rw [hv]; simp), if_neg (by omega), hpar]
  obtain ⟨m, hq, hc, ho⟩ := h.q
  have hkn : ((modN st qq less).map (·.1)).Nodup := by rw [keys_mod]; exact h.inv.keys
  have hinv := inv_remove (p := seqn p i) (v := 0) h.inv (by omega)
  have hlen2 := remove_len st (seqn p i) 0
  rw [e] at hinv hlen2
  refine ⟨_, e, hinv, ⟨less m, ?_, hc, ho⟩, fun k m' hk' => ?_, ?_⟩
  · rw [lookup_del hkn, if_neg (Ne.symm hne.2), lookup_mod, if_pos rfl, hq]; rfl
  · rw [lookup_del hkn] at hk'
    split at hk'
    · cases hk'
    · rw [lookup_mod] at hk'
      have : ∃ m', st.lookup k = some m' := by
        split at hk'
        · cases hx : st.lookup k with
          | none => rw [hx] at hk'; cases hk'
          | some x => exact ⟨x, rfl⟩
        · exact ⟨_, hk'⟩
      obtain ⟨x, hx⟩ := this
      exact h.keys k x hx
  · simp only at hlen2; omega
end Go.Proofs.YthfpmipeejjogaaDoor.Zt

/- Functions as predicate transformers, and the proofs that the code does what they tell: printed by wip/tools/gen.py. -/
namespace Go.Proofs.YthfpmipeejjogaaDoor.G
open Go Go.Proofs.YthfpmipeejjogaaDoor.SL
set_option linter.unusedVariables false
set_option linter.unusedSimpArgs false

def j6_law07_ZtreeNames (B : World) (ro : AH) (Q : Bool → AH → Prop) (σ : AH) : Prop :=
 c_law07_awake B ro σ fun x76_7 σ =>
 Q x76_7 σ

def j17_law07_ZtreeNames (B : World) (ro : AH) (a0 : ByteArray) (a1 : Sl) (x13_1 : Option Addr) (x39_10 : Int) (x48_13 : ByteArray) (Q : Bool → AH → Prop) (Y8 : (ByteArray × Int) → AH → Prop) (x74_18 : Bool) (σ : AH) : Prop :=
 if x74_18 = true then
  Q false σ
 else
 Y8 (x48_13, IntKind.i64.wrap (x39_10 + 1)) σ

def j15_law07_ZtreeNames (B : World) (ro : AH) (a0 : ByteArray) (a1 : Sl) (x13_1 : Option Addr) (x39_10 : Int) (x43_12 : Bool) (x48_13 : ByteArray) (Q : Bool → AH → Prop) (Y8 : (ByteArray × Int) → AH → Prop) (x66_16 : Bool) (σ : AH) : Prop :=
 if x66_16 = true then
  Q false σ
 else
 if x43_12 = true then
  c_ztree_Tree_Delete B ro x13_1 x48_13 0 σ fun x72_19 σ =>
  j17_law07_ZtreeNames B ro a0 a1 x13_1 x39_10 x48_13 Q Y8 (!(decide (x72_19 = 0))) σ
 else
 j17_law07_ZtreeNames B ro a0 a1 x13_1 x39_10 x48_13 Q Y8 false σ

def l8_law07_ZtreeNames (B : World) (ro : AH) (a0 : ByteArray) (a1 : Sl) (x13_1 : Option Addr) (Q : Bool → AH → Prop) : (ByteArray × Int) → AH → ((ByteArray × Int) → AH → Prop) → Prop := fun ⟨x8_9, x39_10⟩ σ Y8 =>
 if x39_10 < (a1.len : Int) then
  ∃ p42_11 : Addr, a1.a = some p42_11 ∧ (0 : Int) ≤ x39_10 ∧ x39_10 < (a1.len : Int) ∧
  ∃ (x43_12 : Bool), acell ro σ (p42_11.add (Int.toNat x39_10 * 1)) = some (.bool x43_12) ∧
  (⟨#[47, 113, 47]⟩ : ByteArray).size + a0.size ≤ 9223372036854775807 ∧
  c_ztree_Tree_Create B ro x13_1 ((⟨#[47, 113, 47]⟩ : ByteArray) ++ a0) (⟨none, 0, 0⟩ : Sl) 0 true σ fun x48_13 x48_14 σ =>
  if (¬ (x48_14 = 0)) ∨ (((lessS x48_13 x8_9) = true) ∨ (x48_13 = x8_9)) then
   j15_law07_ZtreeNames B ro a0 a1 x13_1 x39_10 x43_12 x48_13 Q Y8 true σ
  else
  (⟨#[47, 113, 47]⟩ : ByteArray).size + a0.size ≤ 9223372036854775807 ∧
  c_ref02_Digits B ro x39_10 σ fun x63_20 σ =>
  ((⟨#[47, 113, 47]⟩ : ByteArray) ++ a0).size + x63_20.size ≤ 9223372036854775807 ∧
  j15_law07_ZtreeNames B ro a0 a1 x13_1 x39_10 x43_12 x48_13 Q Y8 (!(decide (x48_13 = (((⟨#[47, 113, 47]⟩ : ByteArray) ++ a0) ++ x63_20)))) σ
 else
 j6_law07_ZtreeNames B ro Q σ

def f_law07_ZtreeNames (B : World) (ro : AH) (a0 : ByteArray) (a1 : Sl) (σ : AH) (Q : Bool → AH → Prop) : Prop :=
 c_ztree_New B ro σ fun x13_1 σ =>
 if x13_1 = none then
  Q false σ
 else
 c_ztree_Tree_Create B ro x13_1 (⟨#[47, 113]⟩ : ByteArray) (⟨none, 0, 0⟩ : Sl) 0 false σ fun x18_2 x18_3 σ =>
 if ¬ (x18_3 = 0) then
  Q false σ
 else
 c_ref02_Name B ro a0 σ fun x24_4 σ =>
 if ((¬ (x24_4 = true)) ∨ (22 < (a0.size : Int))) ∨ (500 < (a1.len : Int)) then
  c_law07_awake B ro σ fun x36_5 σ =>
  Q x36_5 σ
 else
 lfpD (l8_law07_ZtreeNames B ro a0 a1 x13_1 Q ) ((⟨#[]⟩ : ByteArray), 0) σ

set_option maxRecDepth 100000 in
set_option maxHeartbeats 4000000 in
theorem law07_ZtreeNames_ok {B : World} {ro : AH} {a0 : ByteArray} {a1 : Sl} {σ : AH} {Q : Bool → AH → Prop} (h : Sep ro σ → f_law07_ZtreeNames B ro a0 a1 σ Q) : c_law07_ZtreeNames B ro a0 a1 σ Q := by
  refine ACalls.of_sep fun hsep => ?_
  replace h := h hsep
  refine ACalls.of_body (args := [.string a0, Sl.v a1]) Tryd.func3 rfl (by rw [Tryd.ntmps3]; simp) ?_
  rw [Tryd.ntmps3]
  unfold f_law07_ZtreeNames at h
  refine AW.seq ?_
  refine AW.reg ?_
  refine Lp (V_asg rfl rfl) rfl rfl ?_
  refine Lnil ?_
  refine thenN ?_
  refine AW.seq ?_
  refine AW.reg ?_
  refine Ls rfl rfl (X_call rfl Tryd.func4 rfl rfl rfl (ACalls.mono h ?_))
  rintro v σ ⟨x13_1, rfl, h⟩
  refine Lp (V_asg rfl rfl) rfl rfl ?_
  refine Lnil ?_
  refine thenN ?_
  refine AW.seq ?_
  refine AW.seq ?_
  refine AW.reg ?_
  refine Lp (V_move rfl rfl) rfl rfl ?_
  refine Lp (V_eqP rfl Tryd.underlying23 rfl rfl) rfl rfl ?_
  refine Lnil ?_
  refine thenN ?_
  refine AW.iff rfl isNone_iff h (fun h => ?_) (fun h => ?_)
  · refine AW.seq ?_
    refine AW.reg ?_
    refine Lp (V_asg rfl rfl) rfl rfl ?_
    refine Lnil ?_
    refine thenN ?_
    refine AW.ret ?_
    refine thenR ?_
    exact bR1 Tryd.results3 rfl ⟨_, rfl, h⟩
  refine AW.skip ?_
  refine thenN ?_
  refine AW.seq ?_
  refine AW.seq ?_
  refine AW.reg ?_
  refine Lp (V_move rfl rfl) rfl rfl ?_
  refine Ls rfl rfl (X_call rfl Tryd.func5 rfl rfl rfl (ACalls.mono h ?_))
  rintro v σ ⟨x18_2, x18_3, rfl, h⟩
  refine Lp (V_move rfl rfl) rfl rfl ?_
  refine Lp (V_ext rfl rfl rfl) rfl rfl ?_
  refine Lp (V_ext rfl rfl rfl) rfl rfl ?_
  refine Lp (V_asg rfl rfl) rfl rfl ?_
  refine Lp (V_asg rfl rfl) rfl rfl ?_
  refine Lnil ?_
  refine thenN ?_
  refine AW.seq ?_
  refine AW.reg ?_
  refine Lp (V_move rfl rfl) rfl rfl ?_
  refine Lp (V_neq rfl rfl rfl) rfl rfl ?_
  refine Lnil ?_
  refine thenN ?_
  refine AW.iff rfl (bnot_iff decide_eq_true_iff) h (fun h => ?_) (fun h => ?_)
  · refine AW.seq ?_
    refine AW.reg ?_
    refine Lp (V_asg rfl rfl) rfl rfl ?_
    refine Lnil ?_
    refine thenN ?_
    refine AW.ret ?_
    refine thenR ?_
    exact bR1 Tryd.results3 rfl ⟨_, rfl, h⟩
  refine AW.skip ?_
  refine thenN ?_
  refine AW.seq ?_
  refine AW.seq ?_
  refine AW.reg ?_
  refine Lp (V_move rfl rfl) rfl rfl ?_
  refine Ls rfl rfl (X_call rfl Tryd.func6 rfl rfl rfl (ACalls.mono h ?_))
  rintro v σ ⟨x24_4, rfl, h⟩
  refine Lp (V_not rfl rfl) rfl rfl ?_
  refine Lp (V_move rfl rfl) rfl rfl ?_
  refine Lsplit 4 (!x24_4) [(0, .string a0), (1, Sl.v a1), (5, .pointer x13_1), (30, .bool ((!x24_4) || (decide (22 < (a0.size : Int)))))] ?_ ?_ ?_
  · intro e3 hk3
    refine Ln rfl rfl rfl rfl (.inl (by rw [e3]; rfl)) ?_
    refine Ln rfl rfl rfl rfl (.inl (by rw [e3]; rfl)) ?_
    refine Ln rfl rfl rfl rfl (.inl (by rw [e3]; rfl)) ?_
    refine Lp (V_pickT rfl (evb e3) rfl) rfl rfl ?_
    exact hk3 _ (FrLe.cons rfl (FrLe.cons rfl (FrLe.cons rfl (FrLe.cons (by rw [e3]; rfl) (FrLe.nil _)))))
  · intro e3 hk3
    refine Lypb (V_move rfl rfl) rfl rfl rfl rfl e3 ?_
    refine Lypb (V_lenS rfl rfl Tryd.underlying9 rfl rfl) rfl rfl rfl rfl e3 ?_
    refine Lypb (V_gtr rfl rfl rfl) rfl rfl rfl rfl e3 ?_
    refine Lp (V_pickF rfl (evb e3) rfl) rfl rfl ?_
    exact hk3 _ (FrLe.cons rfl (FrLe.cons rfl (FrLe.cons rfl (FrLe.cons (by rw [e3]; rfl) (FrLe.nil _)))))
  intro fr hl
  refine Lfr hl ?_
  refine Lp (V_move rfl rfl) rfl rfl ?_
  refine Lsplit 4 ((!x24_4) || (decide (22 < (a0.size : Int)))) [(0, .string a0), (1, Sl.v a1), (5, .pointer x13_1), (35, .bool (((!x24_4) || (decide (22 < (a0.size : Int)))) || (decide (500 < (a1.len : Int)))))] ?_ ?_ ?_
  · intro e8 hk8
    refine Ln rfl rfl rfl rfl (.inl (by rw [e8]; rfl)) ?_
    refine Ln rfl rfl rfl rfl (.inl (by rw [e8]; rfl)) ?_
    refine Ln rfl rfl rfl rfl (.inl (by rw [e8]; rfl)) ?_
    refine Lp (V_pickT rfl (evb e8) rfl) rfl rfl ?_
    exact hk8 _ (FrLe.cons rfl (FrLe.cons rfl (FrLe.cons rfl (FrLe.cons (by rw [e8]; rfl) (FrLe.nil _)))))
  · intro e8 hk8
    refine Lypb (V_move rfl rfl) rfl rfl rfl rfl e8 ?_
    refine Lypb (V_lenL rfl rfl Tryd.underlying22 rfl rfl) rfl rfl rfl rfl e8 ?_
    refine Lypb (V_gtr rfl rfl rfl) rfl rfl rfl rfl e8 ?_
    refine Lp (V_pickF rfl (evb e8) rfl) rfl rfl ?_
    exact hk8 _ (FrLe.cons rfl (FrLe.cons rfl (FrLe.cons rfl (FrLe.cons (by rw [e8]; rfl) (FrLe.nil _)))))
  intro fr hl
  refine Lfr hl ?_
  refine Lnil ?_
  refine thenN ?_
  refine AW.iff rfl (bor_iff (bor_iff (bnot_iff Iff.rfl) decide_eq_true_iff) decide_eq_true_iff) h (fun h => ?_) (fun h => ?_)
  · refine AW.seq ?_
    refine AW.reg ?_
    refine Ls rfl rfl (X_call rfl Tryd.func7 rfl rfl rfl (ACalls.mono h ?_))
    rintro v σ ⟨x36_5, rfl, h⟩
    refine Lp (V_asg rfl rfl) rfl rfl ?_
    refine Lnil ?_
    refine thenN ?_
    refine AW.ret ?_
    refine thenR ?_
    exact bR1 Tryd.results3 rfl ⟨_, rfl, h⟩
  refine AW.skip ?_
  refine thenN ?_
  refine AW.seq ?_
  refine AW.reg ?_
  refine Lp (V_asg rfl rfl) rfl rfl ?_
  refine Lnil ?_
  refine thenN ?_
  refine AW.seqJ (fun fr σ => FrLe [] fr ∧ j6_law07_ZtreeNames B ro Q σ) ?_ ?_
  · rintro fr σ ⟨hl, h⟩
    refine AW.weaken ?_ hl (HLe.refl _)
    unfold j6_law07_ZtreeNames at h
    refine AW.seq ?_
    refine AW.reg ?_
    refine Ls rfl rfl (X_call rfl Tryd.func7 rfl rfl rfl (ACalls.mono h ?_))
    rintro v σ ⟨x76_7, rfl, h⟩
    refine Lp (V_asg rfl rfl) rfl rfl ?_
    refine Lnil ?_
    refine thenN ?_
    refine AW.ret ?_
    exact bR1 Tryd.results3 rfl ⟨_, rfl, h⟩
  refine AW.seq ?_
  refine AW.reg ?_
  refine Lp (V_move rfl rfl) rfl rfl ?_
  refine Lp (V_lenL rfl rfl Tryd.underlying22 rfl rfl) rfl rfl ?_
  refine Lp (V_move rfl rfl) rfl rfl ?_
  refine Lnil ?_
  refine thenN ?_
  refine AW.block ?_
  refine ARound.loop (fr' := [(0, .string a0), (5, .pointer x13_1), (37, Sl.v a1), (38, .int .i64 (a1.len : Int)), (8, .string (⟨#[]⟩ : ByteArray)), (39, .int .i64 0)]) ?_ (FrLe.cons rfl (FrLe.cons rfl (FrLe.cons rfl (FrLe.cons rfl (FrLe.cons rfl (FrLe.cons rfl (FrLe.nil _)))))))
  refine h (fun ⟨x8_9, x39_10⟩ σ => ARound _ _ _ _ _ _ [(0, .string a0), (5, .pointer x13_1), (37, Sl.v a1), (38, .int .i64 (a1.len : Int)), (8, .string x8_9), (39, .int .i64 x39_10)] σ) ?_
  rintro ⟨x8_9, x39_10⟩ σ Y8 hY8 h
  show AW _ _ _ _ _ _ _ _
  unfold l8_law07_ZtreeNames at h
  dsimp only at h
  refine AW.seq ?_
  refine AW.reg ?_
  refine Lp (V_lss rfl rfl rfl) rfl rfl ?_
  refine Lnil ?_
  refine thenN ?_
  refine AW.seq ?_
  refine AW.iff rfl decide_eq_true_iff h (fun h => ?_) (fun h => ?_)
  rotate_left
  · refine AW.exit ?_
    refine thenE ?_
    refine thenE ?_
    refine blockE ?_
    refine thenN ?_
    exact ⟨(FrLe.nil _), h⟩
  refine AW.skip ?_
  refine thenN ?_
  refine AW.seq ?_
  refine AW.block ?_
  refine AW.seq ?_
  refine AW.reg ?_
  refine Lp (V_move rfl rfl) rfl rfl ?_
  obtain ⟨p42_11, ha, h0, h1, h⟩ := h
  refine Lp (V_ixA rfl Tryd.underlying22 ty4 (ixL rfl ha) rfl h0 h1) rfl rfl ?_
  obtain ⟨x43_12, hc, h⟩ := h
  refine Ls rfl rfl (X_ld rfl Tryd.underlying4 rfl rfl hc ?_)
  refine Lp (V_asg rfl rfl) rfl rfl ?_
  refine Lp (V_asg rfl rfl) rfl rfl ?_
  refine Lnil ?_
  refine thenN ?_
  refine AW.seq ?_
  refine AW.reg ?_
  refine Lp (V_move rfl rfl) rfl rfl ?_
  refine Lp (V_move rfl rfl) rfl rfl ?_
  obtain ⟨hc, h⟩ := h
  refine Lp (V_cat rfl rfl rfl hc) rfl rfl ?_
  refine Ls rfl rfl (X_call rfl Tryd.func5 rfl rfl rfl (ACalls.mono h ?_))
  rintro v σ ⟨x48_13, x48_14, rfl, h⟩
  refine Lp (V_move rfl rfl) rfl rfl ?_
  refine Lp (V_ext rfl rfl rfl) rfl rfl ?_
  refine Lp (V_ext rfl rfl rfl) rfl rfl ?_
  refine Lp (V_asg rfl rfl) rfl rfl ?_
  refine Lp (V_asg rfl rfl) rfl rfl ?_
  refine Lnil ?_
  refine thenN ?_
  refine AW.seq ?_
  refine AW.seq ?_
  refine AW.reg ?_
  refine Lp (V_move rfl rfl) rfl rfl ?_
  refine Lp (V_neq rfl rfl rfl) rfl rfl ?_
  refine Lp (V_move rfl rfl) rfl rfl ?_
  refine Lsplit 4 (!(decide (x48_14 = 0))) [(0, .string a0), (5, .pointer x13_1), (9, .int .i64 x39_10), (10, .bool x43_12), (11, .string x48_13), (37, Sl.v a1), (38, .int .i64 (a1.len : Int)), (39, .int .i64 x39_10), (57, .bool ((!(decide (x48_14 = 0))) || ((lessS x48_13 x8_9) || (decide (x48_13 = x8_9)))))] ?_ ?_ ?_
  · intro e2 hk2
    refine Ln rfl rfl rfl rfl (.inl (by rw [e2]; rfl)) ?_
    refine Ln rfl rfl rfl rfl (.inl (by rw [e2]; rfl)) ?_
    refine Ln rfl rfl rfl rfl (.inl (by rw [e2]; rfl)) ?_
    refine Lp (V_pickT rfl (evb e2) rfl) rfl rfl ?_
    exact hk2 _ (FrLe.cons rfl (FrLe.cons rfl (FrLe.cons rfl (FrLe.cons rfl (FrLe.cons rfl (FrLe.cons rfl (FrLe.cons rfl (FrLe.cons rfl (FrLe.cons (by rw [e2]; rfl) (FrLe.nil _))))))))))
  · intro e2 hk2
    refine Lypb (V_move rfl rfl) rfl rfl rfl rfl e2 ?_
    refine Lypb (V_move rfl rfl) rfl rfl rfl rfl e2 ?_
    refine Lypb (V_leqS rfl rfl rfl) rfl rfl rfl rfl e2 ?_
    refine Lp (V_pickF rfl (evb e2) rfl) rfl rfl ?_
    exact hk2 _ (FrLe.cons rfl (FrLe.cons rfl (FrLe.cons rfl (FrLe.cons rfl (FrLe.cons rfl (FrLe.cons rfl (FrLe.cons rfl (FrLe.cons rfl (FrLe.cons (by rw [e2]; rfl) (FrLe.nil _))))))))))
  intro fr hl
  refine Lfr hl ?_
  refine Lp (V_move rfl rfl) rfl rfl ?_
  refine LsplitJ 8 ((!(decide (x48_14 = 0))) || ((lessS x48_13 x8_9) || (decide (x48_13 = x8_9)))) (bor_iff (bnot_iff decide_eq_true_iff) (bor_iff Iff.rfl decide_eq_true_iff)) h (fun fr σ => ∃ (x66_16 : Bool), FrLe [(0, .string a0), (5, .pointer x13_1), (10, .bool x43_12), (11, .string x48_13), (37, Sl.v a1), (38, .int .i64 (a1.len : Int)), (39, .int .i64 x39_10), (66, .bool x66_16)] fr ∧ j15_law07_ZtreeNames B ro a0 a1 x13_1 x39_10 x43_12 x48_13 Q Y8 x66_16 σ) ?_ ?_ ?_
  · intro h e7 hk7
    refine Ln rfl rfl rfl rfl (.inl (by rw [e7]; rfl)) ?_
    refine Ln rfl rfl rfl rfl (.inl (by rw [e7]; rfl)) ?_
    refine Ln rfl rfl rfl rfl (.inl (by rw [e7]; rfl)) ?_
    refine Ln rfl rfl rfl rfl (.inl (by rw [e7]; rfl)) ?_
    refine Ln rfl rfl rfl rfl (.inl (by rw [e7]; rfl)) ?_
    refine Ln rfl rfl rfl rfl (.inl (by rw [e7]; rfl)) ?_
    refine Ln rfl rfl rfl rfl (.inl (by rw [e7]; rfl)) ?_
    refine Lp (V_pickT rfl (evb e7) rfl) rfl rfl ?_
    exact hk7 _ _ ⟨_, (FrLe.cons rfl (FrLe.cons rfl (FrLe.cons rfl (FrLe.cons rfl (FrLe.cons rfl (FrLe.cons rfl (FrLe.cons rfl (FrLe.cons rfl (FrLe.nil _))))))))), h⟩
  · intro h e7 hk7
    refine Lypb (V_move rfl rfl) rfl rfl rfl rfl e7 ?_
    refine Lypb (V_move rfl rfl) rfl rfl rfl rfl e7 ?_
    obtain ⟨hc, h⟩ := h
    refine Lypb (V_cat rfl rfl rfl hc) rfl rfl rfl rfl e7 ?_
    refine Lypb (V_move rfl rfl) rfl rfl rfl rfl e7 ?_
    refine Lyb rfl rfl rfl rfl e7 (X_call rfl Tryd.func8 rfl rfl rfl (ACalls.mono h ?_))
    rintro v σ ⟨x63_20, rfl, h⟩
    obtain ⟨hc, h⟩ := h
    refine Lypb (V_cat rfl rfl rfl hc) rfl rfl rfl rfl e7 ?_
    refine Lypb (V_neqS rfl rfl rfl) rfl rfl rfl rfl e7 ?_
    refine Lp (V_pickF rfl (evb e7) rfl) rfl rfl ?_
    exact hk7 _ _ ⟨_, (FrLe.cons rfl (FrLe.cons rfl (FrLe.cons rfl (FrLe.cons rfl (FrLe.cons rfl (FrLe.cons rfl (FrLe.cons rfl (FrLe.cons rfl (FrLe.nil _))))))))), h⟩
  rintro fr σ ⟨x66_16, hl, h⟩
  unfold j15_law07_ZtreeNames at h
  refine Lfr hl ?_
  refine Lnil ?_
  refine thenN ?_
  refine AW.iff rfl Iff.rfl h (fun h => ?_) (fun h => ?_)
  · refine AW.seq ?_
    refine AW.reg ?_
    refine Lp (V_asg rfl rfl) rfl rfl ?_
    refine Lnil ?_
    refine thenN ?_
    refine AW.ret ?_
    refine thenR ?_
    refine blockR ?_
    refine thenR ?_
    refine thenR ?_
    refine blockR ?_
    refine thenR ?_
    exact bR1 Tryd.results3 rfl ⟨_, rfl, h⟩
  refine AW.skip ?_
  refine thenN ?_
  refine AW.seq ?_
  refine AW.reg ?_
  refine Lp (V_move rfl rfl) rfl rfl ?_
  refine Lp (V_asg rfl rfl) rfl rfl ?_
  refine Lnil ?_
  refine thenN ?_
  refine AW.seq ?_
  refine AW.reg ?_
  refine Lp (V_move rfl rfl) rfl rfl ?_
  refine Lp (V_move rfl rfl) rfl rfl ?_
  refine LsplitJ 5 x43_12 Iff.rfl h (fun fr σ => ∃ (x74_18 : Bool), FrLe [(0, .string a0), (5, .pointer x13_1), (8, .string x48_13), (37, Sl.v a1), (38, .int .i64 (a1.len : Int)), (39, .int .i64 x39_10), (74, .bool x74_18)] fr ∧ j17_law07_ZtreeNames B ro a0 a1 x13_1 x39_10 x48_13 Q Y8 x74_18 σ) ?_ ?_ ?_
  · intro h e1 hk1
    refine Lypb (V_move rfl rfl) rfl rfl rfl rfl e1 ?_
    refine Lypb (V_move rfl rfl) rfl rfl rfl rfl e1 ?_
    refine Lyb rfl rfl rfl rfl e1 (X_call rfl Tryd.func9 rfl rfl rfl (ACalls.mono h ?_))
    rintro v σ ⟨x72_19, rfl, h⟩
    refine Lypb (V_neq rfl rfl rfl) rfl rfl rfl rfl e1 ?_
    refine Lp (V_pickT rfl (evb e1) rfl) rfl rfl ?_
    exact hk1 _ _ ⟨_, (FrLe.cons rfl (FrLe.cons rfl (FrLe.cons rfl (FrLe.cons rfl (FrLe.cons rfl (FrLe.cons rfl (FrLe.cons rfl (FrLe.nil _)))))))), h⟩
  · intro h e1 hk1
    refine Ln rfl rfl rfl rfl (.inl (by rw [e1]; rfl)) ?_
    refine Ln rfl rfl rfl rfl (.inl (by rw [e1]; rfl)) ?_
    refine Ln rfl rfl rfl rfl (.inl (by rw [e1]; rfl)) ?_
    refine Ln rfl rfl rfl rfl (.inl (by rw [e1]; rfl)) ?_
    refine Lp (V_pickF rfl (evb e1) rfl) rfl rfl ?_
    exact hk1 _ _ ⟨_, (FrLe.cons rfl (FrLe.cons rfl (FrLe.cons rfl (FrLe.cons rfl (FrLe.cons rfl (FrLe.cons rfl (FrLe.cons rfl (FrLe.nil _)))))))), h⟩
  rintro fr σ ⟨x74_18, hl, h⟩
  unfold j17_law07_ZtreeNames at h
  refine Lfr hl ?_
  refine Lnil ?_
  refine thenN ?_
  refine AW.iff rfl Iff.rfl h (fun h => ?_) (fun h => ?_)
  · refine AW.seq ?_
    refine AW.reg ?_
    refine Lp (V_asg rfl rfl) rfl rfl ?_
    refine Lnil ?_
    refine thenN ?_
    refine AW.ret ?_
    refine blockR ?_
    refine thenR ?_
    refine thenR ?_
    refine blockR ?_
    refine thenR ?_
    exact bR1 Tryd.results3 rfl ⟨_, rfl, h⟩
  refine AW.skip ?_
  refine blockN ?_
  refine thenN ?_
  refine AW.reg ?_
  refine Lp (V_add rfl rfl rfl) rfl rfl ?_
  refine Lp (V_move rfl rfl) rfl rfl ?_
  refine Lnil ?_
  refine thenN ?_
  refine ARound.head (fr' := [(0, .string a0), (5, .pointer x13_1), (37, Sl.v a1), (38, .int .i64 (a1.len : Int)), (8, .string x48_13), (39, .int .i64 (IntKind.i64.wrap (x39_10 + 1)))]) ?_ (FrLe.cons rfl (FrLe.cons rfl (FrLe.cons rfl (FrLe.cons rfl (FrLe.cons rfl (FrLe.cons rfl (FrLe.nil _)))))))
  exact hY8 _ _ h

def j8_law07_awake (B : World) (ro : AH) (Q : Bool → AH → Prop) (x39_9 : Bool) (σ : AH) : Prop :=
 Q x39_9 σ

def f_law07_awake (B : World) (ro : AH) (σ : AH) (Q : Bool → AH → Prop) : Prop :=
 c_ztree_New B ro σ fun x6_1 σ =>
 if x6_1 = none then
  Q false σ
 else
 nw ro σ (.cells #[.int .u8 120] 5) fun x11_2 σ =>
 awp Tryd.prog ro (convert 36 36 (Sl.v (⟨some ⟨x11_2, 0, none⟩, 1, 1⟩ : Sl))) (fun v σ =>
  (∃ (x12_3 : Sl), v = Sl.v x12_3 ∧
   c_ztree_Tree_Create B ro x6_1 (⟨#[47, 97]⟩ : ByteArray) x12_3 0 false σ fun x13_4 x13_5 σ =>
   c_ztree_Tree_Create B ro x6_1 (⟨#[47, 97, 47, 115]⟩ : ByteArray) (⟨none, 0, 0⟩ : Sl) 0 true σ fun x18_6 x18_7 σ =>
   if (((x13_5 = 0) ∧ (x18_7 = 0)) ∧ (x13_4 = (⟨#[47, 97]⟩ : ByteArray))) ∧ (x18_6 = (⟨#[47, 97, 47, 115, 48, 48, 48, 48, 48, 48, 48, 48, 48, 48]⟩ : ByteArray)) then
    c_ztree_Tree_Size B ro x6_1 σ fun x37_10 σ =>
    j8_law07_awake B ro Q (decide (x37_10 = 3)) σ
   else
   j8_law07_awake B ro Q false σ)) σ

set_option maxRecDepth 100000 in
set_option maxHeartbeats 4000000 in
theorem law07_awake_ok {B : World} {ro : AH} {σ : AH} {Q : Bool → AH → Prop} (h : Sep ro σ → f_law07_awake B ro σ Q) : c_law07_awake B ro σ Q := by
  refine ACalls.of_sep fun hsep => ?_
  replace h := h hsep
  refine ACalls.of_body (args := []) Tryd.func7 rfl (by rw [Tryd.ntmps7]; simp) ?_
  rw [Tryd.ntmps7]
  unfold f_law07_awake at h
  refine AW.seq ?_
  refine AW.reg ?_
  refine Lp (V_asg rfl rfl) rfl rfl ?_
  refine Lnil ?_
  refine thenN ?_
  refine AW.seq ?_
  refine AW.reg ?_
  refine Ls rfl rfl (X_call rfl Tryd.func4 rfl rfl rfl (ACalls.mono h ?_))
  rintro v σ ⟨x6_1, rfl, h⟩
  refine Lp (V_asg rfl rfl) rfl rfl ?_
  refine Lnil ?_
  refine thenN ?_
  refine AW.seq ?_
  refine AW.seq ?_
  refine AW.reg ?_
  refine Lp (V_move rfl rfl) rfl rfl ?_
  refine Lp (V_eqP rfl Tryd.underlying23 rfl rfl) rfl rfl ?_
  refine Lnil ?_
  refine thenN ?_
  refine AW.iff rfl isNone_iff h (fun h => ?_) (fun h => ?_)
  · refine AW.seq ?_
    refine AW.reg ?_
    refine Lp (V_asg rfl rfl) rfl rfl ?_
    refine Lnil ?_
    refine thenN ?_
    refine AW.ret ?_
    refine thenR ?_
    exact bR1 Tryd.results7 rfl ⟨_, rfl, h⟩
  refine AW.skip ?_
  refine thenN ?_
  refine AW.seq ?_
  refine AW.reg ?_
  refine Lp (V_move rfl rfl) rfl rfl ?_
  refine Ls rfl rfl (X_new (A_bsl (vs := [(0, .int .u8 120)]) (cs := #[.int .u8 120]) rfl Tryd.underlying36 ty5 (by decide) rfl rfl) fun x11_2 g1 g2 => ?_)
  replace h := h x11_2 g1 g2
  refine Ls rfl rfl (X_cvt rfl rfl (awp_mono _ h ?_))
  rintro v σ ⟨x12_3, rfl, h⟩
  refine Ls rfl rfl (X_call rfl Tryd.func5 rfl rfl rfl (ACalls.mono h ?_))
  rintro v σ ⟨x13_4, x13_5, rfl, h⟩
  refine Lp (V_move rfl rfl) rfl rfl ?_
  refine Lp (V_ext rfl rfl rfl) rfl rfl ?_
  refine Lp (V_ext rfl rfl rfl) rfl rfl ?_
  refine Lp (V_asg rfl rfl) rfl rfl ?_
  refine Lp (V_asg rfl rfl) rfl rfl ?_
  refine Lnil ?_
  refine thenN ?_
  refine AW.seq ?_
  refine AW.reg ?_
  refine Lp (V_move rfl rfl) rfl rfl ?_
  refine Ls rfl rfl (X_call rfl Tryd.func5 rfl rfl rfl (ACalls.mono h ?_))
  rintro v σ ⟨x18_6, x18_7, rfl, h⟩
  refine Lp (V_move rfl rfl) rfl rfl ?_
  refine Lp (V_ext rfl rfl rfl) rfl rfl ?_
  refine Lp (V_ext rfl rfl rfl) rfl rfl ?_
  refine Lp (V_asg rfl rfl) rfl rfl ?_
  refine Lp (V_asg rfl rfl) rfl rfl ?_
  refine Lnil ?_
  refine thenN ?_
  refine AW.seq ?_
  refine AW.reg ?_
  refine Lp (V_move rfl rfl) rfl rfl ?_
  refine Lp (V_eql rfl rfl rfl) rfl rfl ?_
  refine Lp (V_move rfl rfl) rfl rfl ?_
  refine Lsplit 3 (decide (x13_5 = 0)) [(1, .pointer x6_1), (2, .string x13_4), (4, .string x18_6), (26, .bool ((decide (x13_5 = 0)) && (decide (x18_7 = 0))))] ?_ ?_ ?_
  · intro e2 hk2
    refine Lypb (V_move rfl rfl) rfl rfl rfl rfl e2 ?_
    refine Lypb (V_eql rfl rfl rfl) rfl rfl rfl rfl e2 ?_
    refine Lp (V_pickT rfl (evb e2) rfl) rfl rfl ?_
    exact hk2 _ (FrLe.cons rfl (FrLe.cons rfl (FrLe.cons rfl (FrLe.cons (by rw [e2]; rfl) (FrLe.nil _)))))
  · intro e2 hk2
    refine Ln rfl rfl rfl rfl (.inl (by rw [e2]; rfl)) ?_
    refine Ln rfl rfl rfl rfl (.inl (by rw [e2]; rfl)) ?_
    refine Lp (V_pickF rfl (evb e2) rfl) rfl rfl ?_
    exact hk2 _ (FrLe.cons rfl (FrLe.cons rfl (FrLe.cons rfl (FrLe.cons (by rw [e2]; rfl) (FrLe.nil _)))))
  intro fr hl
  refine Lfr hl ?_
  refine Lp (V_move rfl rfl) rfl rfl ?_
  refine Lsplit 3 ((decide (x13_5 = 0)) && (decide (x18_7 = 0))) [(1, .pointer x6_1), (4, .string x18_6), (30, .bool (((decide (x13_5 = 0)) && (decide (x18_7 = 0))) && (decide (x13_4 = (⟨#[47, 97]⟩ : ByteArray)))))] ?_ ?_ ?_
  · intro e6 hk6
    refine Lypb (V_move rfl rfl) rfl rfl rfl rfl e6 ?_
    refine Lypb (V_eqlS rfl rfl rfl) rfl rfl rfl rfl e6 ?_
    refine Lp (V_pickT rfl (evb e6) rfl) rfl rfl ?_
    exact hk6 _ (FrLe.cons rfl (FrLe.cons rfl (FrLe.cons (by rw [e6]; rfl) (FrLe.nil _))))
  · intro e6 hk6
    refine Ln rfl rfl rfl rfl (.inl (by rw [e6]; rfl)) ?_
    refine Ln rfl rfl rfl rfl (.inl (by rw [e6]; rfl)) ?_
    refine Lp (V_pickF rfl (evb e6) rfl) rfl rfl ?_
    exact hk6 _ (FrLe.cons rfl (FrLe.cons rfl (FrLe.cons (by rw [e6]; rfl) (FrLe.nil _))))
  intro fr hl
  refine Lfr hl ?_
  refine Lp (V_move rfl rfl) rfl rfl ?_
  refine Lsplit 3 (((decide (x13_5 = 0)) && (decide (x18_7 = 0))) && (decide (x13_4 = (⟨#[47, 97]⟩ : ByteArray)))) [(1, .pointer x6_1), (34, .bool ((((decide (x13_5 = 0)) && (decide (x18_7 = 0))) && (decide (x13_4 = (⟨#[47, 97]⟩ : ByteArray)))) && (decide (x18_6 = (⟨#[47, 97, 47, 115, 48, 48, 48, 48, 48, 48, 48, 48, 48, 48]⟩ : ByteArray)))))] ?_ ?_ ?_
  · intro e10 hk10
    refine Lypb (V_move rfl rfl) rfl rfl rfl rfl e10 ?_
    refine Lypb (V_eqlS rfl rfl rfl) rfl rfl rfl rfl e10 ?_
    refine Lp (V_pickT rfl (evb e10) rfl) rfl rfl ?_
    exact hk10 _ (FrLe.cons rfl (FrLe.cons (by rw [e10]; rfl) (FrLe.nil _)))
  · intro e10 hk10
    refine Ln rfl rfl rfl rfl (.inl (by rw [e10]; rfl)) ?_
    refine Ln rfl rfl rfl rfl (.inl (by rw [e10]; rfl)) ?_
    refine Lp (V_pickF rfl (evb e10) rfl) rfl rfl ?_
    exact hk10 _ (FrLe.cons rfl (FrLe.cons (by rw [e10]; rfl) (FrLe.nil _)))
  intro fr hl
  refine Lfr hl ?_
  refine Lp (V_move rfl rfl) rfl rfl ?_
  refine LsplitJ 4 ((((decide (x13_5 = 0)) && (decide (x18_7 = 0))) && (decide (x13_4 = (⟨#[47, 97]⟩ : ByteArray)))) && (decide (x18_6 = (⟨#[47, 97, 47, 115, 48, 48, 48, 48, 48, 48, 48, 48, 48, 48]⟩ : ByteArray)))) (band_iff (band_iff (band_iff decide_eq_true_iff decide_eq_true_iff) decide_eq_true_iff) decide_eq_true_iff) h (fun fr σ => ∃ (x39_9 : Bool), FrLe [(39, .bool x39_9)] fr ∧ j8_law07_awake B ro Q x39_9 σ) ?_ ?_ ?_
  · intro h e14 hk14
    refine Lypb (V_move rfl rfl) rfl rfl rfl rfl e14 ?_
    refine Lyb rfl rfl rfl rfl e14 (X_call rfl Tryd.func13 rfl rfl rfl (ACalls.mono h ?_))
    rintro v σ ⟨x37_10, rfl, h⟩
    refine Lypb (V_eql rfl rfl rfl) rfl rfl rfl rfl e14 ?_
    refine Lp (V_pickT rfl (evb e14) rfl) rfl rfl ?_
    exact hk14 _ _ ⟨_, (FrLe.cons rfl (FrLe.nil _)), h⟩
  · intro h e14 hk14
    refine Ln rfl rfl rfl rfl (.inl (by rw [e14]; rfl)) ?_
    refine Ln rfl rfl rfl rfl (.inl (by rw [e14]; rfl)) ?_
    refine Ln rfl rfl rfl rfl (.inl (by rw [e14]; rfl)) ?_
    refine Lp (V_pickF rfl (evb e14) rfl) rfl rfl ?_
    exact hk14 _ _ ⟨_, (FrLe.cons rfl (FrLe.nil _)), h⟩
  rintro fr σ ⟨x39_9, hl, h⟩
  unfold j8_law07_awake at h
  refine Lfr hl ?_
  refine Lp (V_asg rfl rfl) rfl rfl ?_
  refine Lnil ?_
  refine thenN ?_
  refine AW.ret ?_
  exact bR1 Tryd.results7 rfl ⟨_, rfl, h⟩

end Go.Proofs.YthfpmipeejjogaaDoor.G

/- What a tree's size is, when it is awake; bytes as text; order of texts (for the seat of ZtreeNames). -/
namespace Go.Proofs.YthfpmipeejjogaaDoor.Zt
open Go Go.Proofs.YthfpmipeejjogaaDoor.SL Go.Proofs.YthfpmipeejjogaaDoor.G Go.Proofs.YthfpmipeejjogaaDoor.Pa
set_option linter.unusedSimpArgs false
set_option linter.unusedVariables false
variable {B : World} {ro σ σ' : AH} {tag tag' : Nat → Nat}
theorem kv_keys : ∀ (st : St) (bs : List Nat), bs.length = st.length → (kv st bs).map (·.1) = st.map (·.1) := by
  intro st
  induction st with
  | nil => intro bs h; cases bs <;> rfl
  | cons p st ih =>
    intro bs h
    cases bs with
    | nil => simp at h
    | cons b bs => obtain ⟨p, n⟩ := p; unfold kv; rw [List.map_cons, ih bs (by simpa using h)]; rfl
theorem kv_length (st : St) (bs : List Nat) (h : bs.length = st.length) : (kv st bs).length = st.length := by
  have := congrArg List.length (kv_keys st bs h)
  simpa using this
set_option maxRecDepth 100000 in
theorem size_ok {r T M : Nat} {bs : List Nat} {st : St} {Q : Int → AH → Prop} (h : TreeAt tag σ r T M bs st) (hQ : Q (st.length : Int) σ) : c_ztree_Tree_Size B ro (some ⟨T, 0, none⟩) σ Q := by
  refine ztree_Tree_Size_ok fun hs => ?_
  unfold f_ztree_Tree_Size
  refine ⟨_, rfl, _, Row.cell1 h.cell hs, ?_⟩
  obtain ⟨es, clock, hb, he, hbn⟩ := h.map.obj
  have hsz : es.size = st.length := by
    have := congrArg List.length he
    simp only [List.length_map, Array.length_toList] at this
    rw [this, kv_length _ _ h.len]
  unfold Builtin.len_
  refine ⟨.map es clock, by unfold SL.rd; rw [hs M _ hb]; exact hb, rfl, ?_⟩
  exact ⟨(st.length : Int), by rw [hsz]; rfl, hQ⟩
theorem u5'' : Tryd.prog.underlying 5 = some (.int .u8) := by kernel_rfl
theorem forIn_bytes {P : Program} {f : Value → ByteArray → Sem (ForInStep ByteArray)} (hf : ∀ (c : UInt8) (r : ByteArray), f (vU c) r = Sem.pure (.yield (r.push c))) :
    ∀ (l : Str) (s : Str), (forIn (l.map vU) (S s) f : Sem ByteArray) = Sem.pure (S (s ++ l)) := by
  intro l
  induction l with
  | nil => intro s; simp; rfl
  | cons c l ih =>
    intro s
    simp only [List.map_cons, List.forIn_cons]
    rw [hf]
    show (match ForInStep.yield ((S s).push c) with | _ => _ : Sem ByteArray) = _
    have e : (S s).push c = S (s ++ [c]) := by unfold S; simp [ByteArray.push]
    show forIn (l.map vU) ((S s).push c) f = _
    rw [e, ih]
    simp
theorem awp_b2s {s : Sl} {l : Str} {K : Value → AH → Prop} (h : SL.Read ro σ s (l.map vU)) (hK : K (.string (S l)) σ) : awp Tryd.prog ro (convert 36 9 (Sl.v s)) K σ := by
  unfold convert
  simp only [bind_def]
  rw [awp_underlying u30, awp_underlying u9]
  simp only [Sl.v]
  rw [awp_underlying u5'']
  simp only
  unfold Conv.bytesToString
  cases hs : s.a with
  | none =>
    have : l = [] := by have := h.2.1 hs; simpa using this
    subst this
    exact hK
  | some p =>
    simp only
    rw [h.1]
    refine (awp_bind _ _).2 ?_
    refine awp_loadCells (l.map vU) 0 #[] (cellsAt_of 0 fun j v hj => by rw [Nat.zero_add]; exact h.2.2 p hs j v hj) ?_
    simp only [List.nil_append, List.forIn_toArray, Array.empty_append]
    refine (awp_bind _ _).2 ?_
    refine cast (congrArg (fun z => awp Tryd.prog ro z _ σ) (forIn_bytes (P := Tryd.prog) ?_ l [])).symm ?_
    · intro c r
      simp only [vU]
      show Sem.pure (ForInStep.yield (r.push (UInt8.ofNat (Int.toNat (c.toNat : Int))))) = _
      rw [Int.toNat_natCast]; simp
    · exact hK
theorem u5 : Tryd.prog.underlying 5 = some (.int .u8) := by kernel_rfl
set_option maxRecDepth 100000 in
theorem awake_ok {Q : Bool → AH → Prop} (g : Glob ro) (hQ : ∀ σ, SL.Sep ro σ → Q true σ) : c_law07_awake B ro σ Q := by
  refine law07_awake_ok fun hs => ?_
  unfold f_law07_awake
  refine new_ok (tag := fun _ => 0) 10 (by decide) (by decide) fun T tag1 σ1 st1 h1 => ?_
  rw [if_neg (by simp)]
  refine nw_cells (tag := tag1) 0 st1.sep fun x tag2 σ2 st2 r2 => ?_
  have h2 := h1.keep (st2 []) (by simp)
  have hs2 := (st2 []).sep
  have hcv : ∀ K : Value → AH → Prop, (∀ σ', Step [0] ro tag2 σ2 tag2 σ' → SL.Read ro σ' ⟨some ⟨x, 0, none⟩, 1, 1⟩ [vU 120] → K (Sl.v ⟨some ⟨x, 0, none⟩, 1, 1⟩) σ') → awp Tryd.prog ro (convert 36 36 (Sl.v ⟨some ⟨x, 0, none⟩, 1, 1⟩)) K σ2 := by
    intro K hK
    rcases r2 with ⟨h, _⟩ | ⟨b', cs, ha, ht, hb, hln, hc, hle, hg⟩
    · cases h
    · cases ha
      have hrd : SL.rd ro σ2 x = some (.cells cs 5) := by unfold SL.rd; rw [hs2 x _ hb]; exact hb
      unfold convert
      simp only [bind_def]
      rw [awp_underlying u30, awp_underlying u30]
      simp only [Sl.v]
      rw [awp_underlying u5]
      refine ⟨.cells cs 5, hrd, ?_⟩
      refine ⟨by decide, .cells cs 5, hb, ?_⟩
      refine hK _ (step_obj hs2 ht hb) ⟨rfl, (fun h => by cases h), fun p hp i v hv => ?_⟩
      cases hp
      rcases i with _ | i
      · cases hv
        rw [add_zero]
        unfold acell SL.rd
        rw [hs2 x _ hb]
        simp only [upd_same]
        show (if (⟨x, 0, none⟩ : Addr).spot.isSome then none else cs[0]?) = _
        rw [if_neg (by simp), hg 0 (by simp)]; rfl
      · cases hv
  refine hcv _ fun σx stx rdx => ⟨_, rfl, ?_⟩
  have h2 := h2.keep stx (by simp)
  refine create_ok (d := [120]) g (by decide) (by decide) (by decide) h2 rdx (by decide) fun tag3 σ3 st3 h3 => ?_
  have e1 : (create St.new (L (⟨#[47, 97]⟩ : ByteArray)) [120] 0 false).2 = ([47, 97], 0) := by decide
  rw [show (create St.new (L (⟨#[47, 97]⟩ : ByteArray)) [120] 0 false).2.1 = [47, 97] from by rw [e1], show (create St.new (L (⟨#[47, 97]⟩ : ByteArray)) [120] 0 false).2.2 = 0 from by rw [e1]]
  refine create_ok (d := []) g (by decide) (by decide) (by decide) h3 ⟨rfl, fun _ => rfl, fun p h => by cases h⟩ (by decide) fun tag4 σ4 st4 h4 => ?_
  have e2 : (create (create St.new (L (⟨#[47, 97]⟩ : ByteArray)) [120] 0 false).1 (L (⟨#[47, 97, 47, 115]⟩ : ByteArray)) [] 0 true).2 = ([47, 97, 47, 115, 48, 48, 48, 48, 48, 48, 48, 48, 48, 48], 0) := by decide
  have e3 : (create (create St.new (L (⟨#[47, 97]⟩ : ByteArray)) [120] 0 false).1 (L (⟨#[47, 97, 47, 115]⟩ : ByteArray)) [] 0 true).1.length = 3 := by decide
  generalize create (create St.new (L (⟨#[47, 97]⟩ : ByteArray)) [120] 0 false).1 (L (⟨#[47, 97, 47, 115]⟩ : ByteArray)) [] 0 true = y at e2 e3 h4
  rw [e2]
  rw [if_pos (by decide)]
  obtain ⟨M, bs, hA⟩ := h4
  refine size_ok hA ?_
  unfold j8_law07_awake
  rw [e3]
  exact hQ _ st4.sep
theorem lessS_iff (a b : ByteArray) : lessS a b = true ↔ L a < L b := by
  unfold lessS
  rw [Go.Proofs.bytesLess_eq, ByteArray.toList_eq, ByteArray.toList_eq]
  simp [L]
theorem le_iff_lessS (a b : ByteArray) : (lessS a b = true ∨ a = b) ↔ L a ≤ L b := by
  rw [lessS_iff, List.le_iff_lt_or_eq]
  constructor
  · rintro (h | h)
    · exact .inl h
    · exact .inr (by rw [h])
  · rintro (h | h)
    · exact .inl h
    · exact .inr (L_inj h)
end Go.Proofs.YthfpmipeejjogaaDoor.Zt

/- ZtreeNames, the walk. -/
namespace Go.Proofs.YthfpmipeejjogaaDoor.Pa
open Go Go.Proofs.YthfpmipeejjogaaDoor.SL Go.Proofs.YthfpmipeejjogaaDoor.G
set_option linter.unusedSimpArgs false
set_option linter.unusedVariables false
variable {B : World} {ro σ σ' : AH} {tag tag' : Nat → Nat}
theorem tens_cons : ∀ (k n : Nat), tens (k + 1) n = UInt8.ofNat (48 + n / 10 ^ k % 10) :: tens k n := by
  intro k
  induction k with
  | zero => intro n; simp [tens]
  | succ k ih =>
    intro n
    have e : tens (k + 1) n = tens k (n / 10) ++ [UInt8.ofNat (48 + n % 10)] := rfl
    rw [e, tens, ih, List.cons_append, Nat.div_div_eq_div_mul, Nat.pow_succ, Nat.mul_comm 10]
end Go.Proofs.YthfpmipeejjogaaDoor.Pa
namespace Go.Proofs.YthfpmipeejjogaaDoor.Zt
open Go Go.Proofs.YthfpmipeejjogaaDoor.SL Go.Proofs.YthfpmipeejjogaaDoor.G Go.Proofs.YthfpmipeejjogaaDoor.Pa
set_option linter.unusedSimpArgs false
set_option linter.unusedVariables false
set_option maxRecDepth 100000
variable {B : World} {ro σ σ' : AH} {tag tag' : Nat → Nat}
theorem digits_ok {n : Nat} {Q : ByteArray → AH → Prop} (hn : n < 10000000000) (hQ : ∀ tag' σ', (∀ R, Step R ro tag σ tag' σ') → Q (S (digits (n : Int))) σ') : c_ref02_Digits B ro (n : Int) σ Q := by
  refine ref02_Digits_ok fun hs => ?_
  unfold f_ref02_Digits
  suffices ∀ d i tag1 σ1, i + d = 10 → (∀ R, Step R ro tag σ tag1 σ1) → lfpD (l3_ref02_Digits B ro Q) (((n / 10 ^ i : Nat) : Int), S (tens i n), (i : Int)) σ1 from by
    have := this 10 0 tag σ rfl (fun R => Step.refl hs)
    rw [Nat.pow_zero, Nat.div_one] at this
    exact this
  intro d
  induction d with
  | zero =>
    intro i tag1 σ1 hi st1
    obtain rfl : i = 10 := by omega
    refine lfpD.intro ?_
    unfold l3_ref02_Digits
    simp only
    rw [if_neg (by decide)]
    unfold j1_ref02_Digits
    have := hQ tag1 σ1 st1
    unfold digits at this
    rwa [Int.toNat_natCast] at this
  | succ d ih =>
    intro i tag1 σ1 hi st1
    obtain ⟨m, hm⟩ : ∃ m, n / 10 ^ i = m := ⟨_, rfl⟩
    have hmn : m ≤ n := by rw [← hm]; exact Nat.div_le_self _ _
    have hmod : m % 10 < 10 := Nat.mod_lt _ (by omega)
    rw [hm]
    refine lfpD.intro ?_
    unfold l3_ref02_Digits
    simp only
    rw [if_pos (by omega)]
    refine nw_cells (tag := tag1) 0 (st1 []).sep fun X tag2 σ2 st2 r2 => ?_
    have e1 : IntKind.u8.wrap (IntKind.i64.wrap (48 + Int.tmod (m : Int) 10)) = ((UInt8.ofNat (48 + m % 10)).toNat : Int) := by
      rw [Int.tmod_eq_emod_of_nonneg (by omega), SL.w64_eq (by omega) (by omega), UInt8.toNat_ofNat_of_lt' (by show _ < 256; omega)]
      rw [show (48 + (m : Int) % 10) = ((48 + m % 10 : Nat) : Int) by omega]
      show IntKind.u8.wrap ((48 + m % 10 : Nat) : Int) = _
      unfold IntKind.wrap
      simp [IntKind.bits, IntKind.signed]
      omega
    rw [e1] at r2
    refine awp_b2s (l := [UInt8.ofNat (48 + m % 10)]) (r2.read (st2 []).sep) ?_
    refine ⟨_, rfl, ?_⟩
    have hlen : (tens i n).length = i := tens_len i n
    refine ⟨by rw [S_size, S_size, hlen]; simp; omega, ?_⟩
    rw [S_append, Pa.inc i (by omega)]
    have e2 : IntKind.i64.wrap (Int.tdiv (m : Int) 10) = ((n / 10 ^ (i + 1) : Nat) : Int) := by
      rw [Int.tdiv_eq_ediv_of_nonneg (by omega), SL.w64_eq (by omega) (by omega), Nat.pow_succ, ← Nat.div_div_eq_div_mul, hm]
      omega
    have e3 : [UInt8.ofNat (48 + m % 10)] ++ tens i n = tens (i + 1) n := by rw [tens_cons, hm]; rfl
    rw [e2, e3]
    exact ih (i + 1) tag2 σ2 (by omega) fun R => (st1 R).trans (st2 R)

theorem names_ok {p : ByteArray} {a1 : Sl} {gs : List Bool} (g : Glob ro) (hG : SL.Read ro (fun _ => none) a1 (gs.map Value.bool)) : c_law07_ZtreeNames B ro p a1 σ fun r _ => r = true := by
  refine law07_ZtreeNames_ok fun hs => ?_
  unfold f_law07_ZtreeNames
  refine new_ok (tag := fun _ => 0) 10 (by decide) (by decide) fun T tag1 σ1 st1 h1 => ?_
  rw [if_neg (by simp)]
  refine create_ok (d := []) g (by decide) (by decide) (by decide) h1 ⟨rfl, fun _ => rfl, fun p h => by cases h⟩ (by decide) fun tag2 σ2 st2 h2 => ?_
  rw [show L (⟨#[47, 113]⟩ : ByteArray) = qq from rfl] at h2 ⊢
  have hN0 := nst_start (p := L p) create_q
  rw [create_q] at h2 ⊢
  rw [if_neg (by simp)]
  refine rname_ok ?_
  have hal := hG.1
  rw [List.length_map] at hal
  by_cases hg : ((¬ (nameOk (L p) = true)) ∨ (22 < (p.size : Int))) ∨ (500 < (a1.len : Int))
  · rw [if_pos hg]
    exact awake_ok g fun _ _ => rfl
  rw [if_neg hg]
  simp only [not_or, Classical.not_not] at hg
  obtain ⟨⟨hp, hpl⟩, hgl⟩ := hg
  have hpl' : (L p).length ≤ 22 := by rw [L_len]; omega
  have ep : (⟨#[47, 113, 47]⟩ : ByteArray) ++ p = S (47 :: 113 :: 47 :: L p) := by
    conv => lhs; rw [← S_L p]
    rw [show (⟨#[47, 113, 47]⟩ : ByteArray) = S [47, 113, 47] from rfl, S_append]; rfl
  simp only at h2
  generalize ([([47], ⟨0, 1, 0, 1, []⟩), (qq, ⟨0, 0, 0, 0, []⟩)] : St) = st0 at h2 hN0
  suffices ∀ d i (last : ByteArray) st tag3 σ3, i + d = gs.length → Nst (L p) i st → TreeIs tag3 σ3 10 T st → SL.Sep ro σ3 → L last < seqn (L p) i → lfpD (l8_law07_ZtreeNames B ro p a1 (some ⟨T, 0, none⟩) fun r _ => r = true) (last, (i : Int)) σ3 from
    this gs.length 0 _ st0 tag2 σ2 (by omega) hN0 h2 st2.sep (by unfold seqn; exact List.nil_lt_cons _ _)
  intro d
  induction d with
  | zero =>
    intro i last st tag3 σ3 hi hN hT hs3 hlt
    refine lfpD.intro ?_
    unfold l8_law07_ZtreeNames
    simp only
    rw [if_neg (by omega)]
    unfold j6_law07_ZtreeNames
    exact awake_ok g fun _ _ => rfl
  | succ d ih =>
    intro i last st tag3 σ3 hi hN hT hs3 hlt
    have hig : i < gs.length := by omega
    refine lfpD.intro ?_
    unfold l8_law07_ZtreeNames
    simp only
    rw [if_pos (by omega)]
    obtain ⟨q, hq⟩ : ∃ q, a1.a = some q := by
      cases e : a1.a with
      | none => have := hG.2.1 e; simp at this; rw [this] at hig; simp at hig
      | some q => exact ⟨q, rfl⟩
    refine ⟨q, hq, by omega, by omega, gs[i], ?_, ?_⟩
    · rw [Int.toNat_natCast, Nat.mul_one]
      exact (hG.keep (σ := σ3)).2.2 q hq i _ (by rw [List.getElem?_map, List.getElem?_eq_getElem hig]; rfl)
    have hsz : (⟨#[47, 113, 47]⟩ : ByteArray).size = 3 := rfl
    refine ⟨by rw [hsz]; omega, ?_⟩
    obtain ⟨st', e, hN', n, hn, hv, hk⟩ := nst_create hN hp hpl' (by omega)
    rw [ep]
    refine create_ok (d := []) g (by decide) (by decide) (by decide) hT ⟨rfl, fun _ => rfl, fun p h => by cases h⟩ (by decide) fun tag4 σ4 st4 h4 => ?_
    rw [L_S, e] at h4 ⊢
    simp only at h4 ⊢
    rw [if_neg (by
      rintro (h | h)
      · simp at h
      · have := (le_iff_lessS _ _).1 h
        rw [L_S] at this
        exact absurd this (List.not_le.2 hlt))]
    refine ⟨by rw [hsz]; omega, ?_⟩
    refine digits_ok (tag := tag4) (by omega) fun tag5 σ5 st5 => ?_
    have h5 := h4.keep (st5 []) (by simp)
    have hdl := digits_len (i : Int)
    refine ⟨by rw [S_size, S_size]; simp only [List.length_cons]; omega, ?_⟩
    have e2 : S (47 :: 113 :: 47 :: L p) ++ S (digits (i : Int)) = S (seqn (L p) i) := by rw [S_append]; rfl
    rw [e2, show (!(decide (S (seqn (L p) i) = S (seqn (L p) i)))) = false by simp]
    unfold j15_law07_ZtreeNames
    rw [if_neg (by simp)]
    have next : ∀ st6 tag6 σ6, Nst (L p) (i + 1) st6 → TreeIs tag6 σ6 10 T st6 → SL.Sep ro σ6 → j17_law07_ZtreeNames B ro p a1 (some ⟨T, 0, none⟩) (i : Int) (S (seqn (L p) i)) (fun r _ => r = true) (lfpD (l8_law07_ZtreeNames B ro p a1 (some ⟨T, 0, none⟩) fun r _ => r = true)) false σ6 := fun st6 tag6 σ6 hN6 h6 hs6 => by
      unfold j17_law07_ZtreeNames
      rw [if_neg (by simp), Pa.inc i (by omega)]
      exact ih (i + 1) _ st6 tag6 σ6 (by omega) hN6 h6 hs6 (by rw [L_S]; exact seqn_lt (by omega) (by omega))
    by_cases c : gs[i] = true
    · rw [if_pos c]
      obtain ⟨st6, e6, hN6⟩ := nst_remove hN' hp hpl' (by omega) hn hv hk
      refine delete_ok g (by decide) (by decide) (by decide) h5 (fun u m hu hm => ?_) fun tag6 σ6 st6' h6 => ?_
      · rw [L_S] at hu
        have : parent (seqn (L p) i) = some qq := parent_qp (name_digits hp hpl')
        rw [this] at hu
        obtain rfl := Option.some.inj hu
        obtain ⟨m', hm', _⟩ := hN'.q
        exact ⟨m', hm'⟩
      · rw [L_S, e6] at h6 ⊢
        simp only at h6 ⊢
        exact next st6 tag6 σ6 hN6 h6 st6'.sep
    · rw [if_neg c]
      exact next st' tag5 σ5 hN' h5 (st5 []).sep
end Go.Proofs.YthfpmipeejjogaaDoor.Zt
