/- The tree in memory: the map of nodes, as a list of paths and nodes; look-ups, changes of a node, new nodes, nodes that go. -/
import Derived.Test.YthfpmipeejjogaaGreatDoorMem2
import Derived.Test.YthfpmipeejjogaaGreatDoorPaF
import Derived.Test.YthfpmipeejjogaaGreatDoorGZt
namespace Go.Proofs.YthfpmipeejjogaaGreatDoor.Zt
open Go Go.Proofs.YthfpmipeejjogaaGreatDoor.SL Go.Proofs.YthfpmipeejjogaaGreatDoor.G Go.Proofs.YthfpmipeejjogaaGreatDoor.Pa
set_option linter.unusedSimpArgs false
set_option linter.unusedVariables false
variable {B : World} {ro σ σ' : AH} {tag tag' : Nat → Nat}

structure Nd where
  ver : Int
  ctr : Int
  own : Int
  kids : Int
  data : Str
abbrev St := List (Str × Nd)
abbrev vI (x : Int) : Value := .int .i64 x
abbrev vU (c : UInt8) : Value := .int .u8 c.toNat
abbrev ptr (b : Nat) : Value := .pointer (some ⟨b, 0, none⟩)
def NodeAt (tag : Nat → Nat) (σ : AH) (r b : Nat) (n : Nd) : Prop :=
  ∃ s : Sl, Row tag σ (r + 64 * (b + 2)) 133 ⟨some ⟨b, 0, none⟩, 5, 5⟩ [vI n.ver, vI n.ctr, vI n.own, vI n.kids, Sl.v s] ∧ Row tag σ 6 5 s (n.data.map vU)
def kv : St → List Nat → KV
  | (p, _) :: st, b :: bs => (p, ptr b) :: kv st bs
  | _, _ => []
structure TreeAt (tag : Nat → Nat) (σ : AH) (r T M : Nat) (bs : List Nat) (st : St) : Prop where
  keys : (st.map (·.1)).Nodup
  len : bs.length = st.length
  nd : bs.Nodup
  cell : Row tag σ r 128 ⟨some ⟨T, 0, none⟩, 1, 1⟩ [.map (some M)]
  map : MapIs tag σ (r + 64) M (kv st bs)
  nodes : ∀ (i b : Nat) (p : Str × Nd), bs[i]? = some b → st[i]? = some p → NodeAt tag σ r b p.2
def TreeIs (tag : Nat → Nat) (σ : AH) (r T : Nat) (st : St) : Prop := ∃ M bs, TreeAt tag σ r T M bs st

theorem NodeAt.keep {R : List Nat} {r b : Nat} {n : Nd} (h : NodeAt tag σ r b n) (k : Step R ro tag σ tag' σ') (h1 : r + 64 * (b + 2) ∉ R) (h2 : 6 ∉ R) : NodeAt tag' σ' r b n := by
  obtain ⟨s, a, c⟩ := h
  exact ⟨s, a.keep k h1, c.keep k h2⟩
theorem TreeAt.keepC {c r T M : Nat} {bs : List Nat} {st : St} (h : TreeAt tag σ r T M bs st) (k : StepC c ro tag σ tag' σ') (hr : r % 64 ≠ c) (h6 : c ≠ 6) : TreeAt tag' σ' r T M bs st :=
  ⟨h.keys, h.len, h.nd, h.cell.keepC k hr, h.map.keepC k (by omega), fun i b p hb hp => by
    obtain ⟨s, a, e⟩ := h.nodes i b p hb hp
    exact ⟨s, a.keepC k (by omega), e.keepC k (by omega)⟩⟩
theorem TreeAt.keep {R : List Nat} {r T M : Nat} {bs : List Nat} {st : St} (h : TreeAt tag σ r T M bs st) (k : Step R ro tag σ tag' σ') (hR : ∀ x ∈ R, x % 64 ≠ r % 64 ∧ x ≠ 6) : TreeAt tag' σ' r T M bs st :=
  ⟨h.keys, h.len, h.nd, h.cell.keep k fun m => (hR _ m).1 rfl, h.map.keep k fun m => (hR _ m).1 (by omega), fun i b p hb hp => (h.nodes i b p hb hp).keep k (fun m => (hR _ m).1 (by omega)) fun m => (hR _ m).2 rfl⟩
theorem TreeIs.keepC {c r T : Nat} {st : St} (h : TreeIs tag σ r T st) (k : StepC c ro tag σ tag' σ') (hr : r % 64 ≠ c) (h6 : c ≠ 6) : TreeIs tag' σ' r T st := by
  obtain ⟨M, bs, h⟩ := h
  exact ⟨M, bs, h.keepC k hr h6⟩
theorem TreeIs.keep {R : List Nat} {r T : Nat} {st : St} (h : TreeIs tag σ r T st) (k : Step R ro tag σ tag' σ') (hR : ∀ x ∈ R, x % 64 ≠ r % 64 ∧ x ≠ 6) : TreeIs tag' σ' r T st := by
  obtain ⟨M, bs, h⟩ := h
  exact ⟨M, bs, h.keep k hR⟩

theorem kv_lookup : ∀ (st : St) (bs : List Nat) (u : Str), bs.length = st.length →
    (st.lookup u = none ∧ (kv st bs).lookup u = none) ∨ ∃ (i b : Nat) (n : Nd), bs[i]? = some b ∧ st[i]? = some (u, n) ∧ st.lookup u = some n ∧ (kv st bs).lookup u = some (ptr b) := by
  intro st
  induction st with
  | nil => intro bs u h; exact .inl ⟨rfl, by cases bs <;> rfl⟩
  | cons p st ih =>
    intro bs u h
    cases bs with
    | nil => simp at h
    | cons b bs =>
      obtain ⟨p, n⟩ := p
      simp only [List.length_cons, Nat.add_right_cancel_iff] at h
      unfold kv
      rw [List.lookup_cons, List.lookup_cons]
      by_cases c : u = p
      · subst c
        rw [show (u == u) = true by simp]
        exact .inr ⟨0, b, n, rfl, rfl, rfl, rfl⟩
      · rw [show (u == p) = false by simpa using c]
        rcases ih bs u h with h' | ⟨i, b', n', h1, h2, h3, h4⟩
        · exact .inl h'
        · exact .inr ⟨i + 1, b', n', by simpa using h1, by simpa using h2, h3, h4⟩
def modN (st : St) (u : Str) (f : Nd → Nd) : St := st.map fun p => if p.1 = u then (p.1, f p.2) else p
theorem modN_set {st : St} (hk : (st.map (·.1)).Nodup) {i : Nat} {u : Str} {n : Nd} (h : st[i]? = some (u, n)) (f : Nd → Nd) : modN st u f = st.set i (u, f n) := by
  unfold modN
  apply List.ext_getElem?
  intro j
  rw [List.getElem?_map, List.getElem?_set]
  have hil : i < st.length := by
    rcases Nat.lt_or_ge i st.length with h' | h'
    · exact h'
    · rw [List.getElem?_eq_none h'] at h; cases h
  by_cases c : i = j
  · subst c; rw [if_pos rfl, if_pos hil, h]; simp
  · rw [if_neg c]
    cases e : st[j]? with
    | none => rfl
    | some p =>
      have hne : p.1 ≠ u := by
        intro hp
        apply c
        have hjl : j < st.length := by
          rcases Nat.lt_or_ge j st.length with h' | h'
          · exact h'
          · rw [List.getElem?_eq_none h'] at e; cases e
        refine (List.getElem_inj (h₀ := by simpa using hil) (h₁ := by simpa using hjl) hk).1 ?_
        rw [List.getElem?_eq_getElem hil] at h
        rw [List.getElem?_eq_getElem hjl] at e
        simp only [List.getElem_map]
        rw [Option.some.inj h, Option.some.inj e, hp]
      simp [hne]
theorem kv_set : ∀ (st : St) (bs : List Nat) (i : Nat) (u : Str) (n n' : Nd), st[i]? = some (u, n) → kv (st.set i (u, n')) bs = kv st bs := by
  intro st
  induction st with
  | nil => intro bs i u n n' h; cases h
  | cons p st ih =>
    intro bs i u n n' h
    cases bs with
    | nil => cases i <;> simp [kv]
    | cons b bs =>
      cases i with
      | zero => cases h; rfl
      | succ i => simp only [List.set_cons_succ]; unfold kv; rw [ih bs i u n n' (by simpa using h)]
theorem keys_set {st : St} {i : Nat} {u : Str} {n n' : Nd} (h : st[i]? = some (u, n)) : (st.set i (u, n')).map (·.1) = st.map (·.1) := by
  rw [List.map_set]
  apply List.ext_getElem?
  intro j
  rw [List.getElem?_set, List.getElem?_map]
  by_cases c : i = j
  · subst c; rw [h]; simp
    rcases Nat.lt_or_ge i st.length with h' | h'
    · exact h'
    · rw [List.getElem?_eq_none h'] at h; cases h
  · rw [if_neg c]
theorem idx_inj {α : Type} {l : List α} (hn : l.Nodup) {i j : Nat} {x : α} (hi : l[i]? = some x) (hj : l[j]? = some x) : i = j := by
  have hil : i < l.length := by
    rcases Nat.lt_or_ge i l.length with h' | h'
    · exact h'
    · rw [List.getElem?_eq_none h'] at hi; cases hi
  have hjl : j < l.length := by
    rcases Nat.lt_or_ge j l.length with h' | h'
    · exact h'
    · rw [List.getElem?_eq_none h'] at hj; cases hj
  rw [List.getElem?_eq_getElem hil] at hi
  rw [List.getElem?_eq_getElem hjl] at hj
  exact (List.getElem_inj hn).1 (by rw [Option.some.inj hi, Option.some.inj hj])
/-- a node is another one now -/
theorem TreeAt.write {r T i b M : Nat} {st : St} {bs : List Nat} {u : Str} {n n' : Nd} (h : TreeAt tag σ r T M bs st) (hr : r < 64) (hr6 : r ≠ 6) (hb : bs[i]? = some b) (hp : st[i]? = some (u, n)) (k : Step [r + 64 * (b + 2)] ro tag σ tag' σ') (hnew : NodeAt tag' σ' r b n') : TreeAt tag' σ' r T M bs (st.set i (u, n')) := by
  refine ⟨by rw [keys_set hp]; exact h.keys, by simpa using h.len, h.nd, h.cell.keep k (by simp), ?_, fun j c p hc hp' => ?_⟩
  · rw [kv_set _ _ _ _ _ _ hp]; exact h.map.keep k (by simp; omega)
  · rw [List.getElem?_set] at hp'
    by_cases e : i = j
    · subst e
      rw [hb] at hc; cases hc
      rw [if_pos rfl] at hp'
      split at hp'
      · cases hp'; exact hnew
      · cases hp'
    · rw [if_neg e] at hp'
      refine (h.nodes j c p hc hp').keep k ?_ ?_
      · simp
        intro h'
        have : b = c := by omega
        subst this
        exact e (idx_inj h.nd hb hc)
      · simp; omega
end Go.Proofs.YthfpmipeejjogaaGreatDoor.Zt
