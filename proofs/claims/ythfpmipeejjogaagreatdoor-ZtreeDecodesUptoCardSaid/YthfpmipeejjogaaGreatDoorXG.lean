/- ZtA, ZtB, ZtC, ZtD, ZtP, ZtQ, WiA, EnA, EnB, Mem3, Mem4 -/
import Derived.Test.YthfpmipeejjogaaGreatDoorXF
/- The tree in memory: the map of nodes, as a list of paths and nodes; look-ups, changes of a node, new nodes, nodes that go. -/
namespace Go.Proofs.YthfpmipeejjogaaGreatDoor.Zt
open Go Go.Proofs.YthfpmipeejjogaaGreatDoor.SL Go.Proofs.YthfpmipeejjogaaGreatDoor.G Go.Proofs.YthfpmipeejjogaaGreatDoor.Pa
set_option linter.unusedSimpArgs false
set_option linter.unusedVariables false
variable {B : World} {ro σ σ' : AH} {tag tag' : Nat → Nat}

structure Nd where
  ver : Int
  ctr : Int
  own : Int
  kids : Int
  data : Str
abbrev St := List (Str × Nd)
abbrev vI (x : Int) : Value := .int .i64 x
abbrev vU (c : UInt8) : Value := .int .u8 c.toNat
abbrev ptr (b : Nat) : Value := .pointer (some ⟨b, 0, none⟩)
def NodeAt (tag : Nat → Nat) (σ : AH) (r b : Nat) (n : Nd) : Prop :=
  ∃ s : Sl, Row tag σ (r + 64 * (b + 2)) 133 ⟨some ⟨b, 0, none⟩, 5, 5⟩ [vI n.ver, vI n.ctr, vI n.own, vI n.kids, Sl.v s] ∧ Row tag σ 6 5 s (n.data.map vU)
def kv : St → List Nat → KV
  | (p, _) :: st, b :: bs => (p, ptr b) :: kv st bs
  | _, _ => []
structure TreeAt (tag : Nat → Nat) (σ : AH) (r T M : Nat) (bs : List Nat) (st : St) : Prop where
  keys : (st.map (·.1)).Nodup
  len : bs.length = st.length
  nd : bs.Nodup
  cell : Row tag σ r 128 ⟨some ⟨T, 0, none⟩, 1, 1⟩ [.map (some M)]
  map : MapIs tag σ (r + 64) M (kv st bs)
  nodes : ∀ (i b : Nat) (p : Str × Nd), bs[i]? = some b → st[i]? = some p → NodeAt tag σ r b p.2
def TreeIs (tag : Nat → Nat) (σ : AH) (r T : Nat) (st : St) : Prop := ∃ M bs, TreeAt tag σ r T M bs st

theorem NodeAt.keep {R : List Nat} {r b : Nat} {n : Nd} (h : NodeAt tag σ r b n) (k : Step R ro tag σ tag' σ') (h1 : r + 64 * (b + 2) ∉ R) (h2 : 6 ∉ R) : NodeAt tag' σ' r b n := by
  obtain ⟨s, a, c⟩ := h
  exact ⟨s, a.keep k h1, c.keep k h2⟩
theorem TreeAt.keepC {c r T M : Nat} {bs : List Nat} {st : St} (h : TreeAt tag σ r T M bs st) (k : StepC c ro tag σ tag' σ') (hr : r % 64 ≠ c) (h6 : c ≠ 6) : TreeAt tag' σ' r T M bs st :=
  ⟨h.keys, h.len, h.nd, h.cell.keepC k hr, h.map.keepC k (by omega), fun i b p hb hp => by
    obtain ⟨s, a, e⟩ := h.nodes i b p hb hp
    exact ⟨s, a.keepC k (by omega), e.keepC k (by omega)⟩⟩
theorem TreeAt.keep {R : List Nat} {r T M : Nat} {bs : List Nat} {st : St} (h : TreeAt tag σ r T M bs st) (k : Step R ro tag σ tag' σ') (hR : ∀ x ∈ R, x % 64 ≠ r % 64 ∧ x ≠ 6) : TreeAt tag' σ' r T M bs st :=
  ⟨h.keys, h.len, h.nd, h.cell.keep k fun m => (hR _ m).1 rfl, h.map.keep k fun m => (hR _ m).1 (by omega), fun i b p hb hp => (h.nodes i b p hb hp).keep k (fun m => (hR _ m).1 (by omega)) fun m => (hR _ m).2 rfl⟩
theorem TreeIs.keepC {c r T : Nat} {st : St} (h : TreeIs tag σ r T st) (k : StepC c ro tag σ tag' σ') (hr : r % 64 ≠ c) (h6 : c ≠ 6) : TreeIs tag' σ' r T st := by
  obtain ⟨M, bs, h⟩ := h
  exact ⟨M, bs, h.keepC k hr h6⟩
theorem TreeIs.keep {R : List Nat} {r T : Nat} {st : St} (h : TreeIs tag σ r T st) (k : Step R ro tag σ tag' σ') (hR : ∀ x ∈ R, x % 64 ≠ r % 64 ∧ x ≠ 6) : TreeIs tag' σ' r T st := by
  obtain ⟨M, bs, h⟩ := h
  exact ⟨M, bs, h.keep k hR⟩

theorem kv_lookup : ∀ (st : St) (bs : List Nat) (u : Str), bs.length = st.length →
    (st.lookup u = none ∧ (kv st bs).lookup u = none) ∨ ∃ (i b : Nat) (n : Nd), bs[i]? = some b ∧ st[i]? = some (u, n) ∧ st.lookup u = some n ∧ (kv st bs).lookup u = some (ptr b) := by
  intro st
  induction st with
  | nil => intro bs u h; exact .inl ⟨rfl, by cases bs <;> rfl⟩
  | cons p st ih =>
    intro bs u h
    cases bs with
    | nil => simp at h
    | cons b bs =>
      obtain ⟨p, n⟩ := p
      simp only [List.length_cons, Nat.add_right_cancel_iff] at h
      unfold kv
      rw [List.lookup_cons, List.lookup_cons]
      by_cases c : u = p
      · subst c
        rw [show (u == u) = true by simp]
        exact .inr ⟨0, b, n, rfl, rfl, rfl, rfl⟩
      · rw [show (u == p) = false by simpa using c]
        rcases ih bs u h with h' | ⟨i, b', n', h1, h2, h3, h4⟩
        · exact .inl h'
        · exact .inr ⟨i + 1, b', n', by simpa using h1, by simpa using h2, h3, h4⟩
def modN (st : St) (u : Str) (f : Nd → Nd) : St := st.map fun p => if p.1 = u then (p.1, f p.2) else p
theorem modN_set {st : St} (hk : (st.map (·.1)).Nodup) {i : Nat} {u : Str} {n : Nd} (h : st[i]? = some (u, n)) (f : Nd → Nd) : modN st u f = st.set i (u, f n) := by
  unfold modN
  apply List.ext_getElem?
  intro j
  rw [List.getElem?_map, List.getElem?_set]
  have hil : i < st.length := by
    rcases Nat.lt_or_ge i st.length with h' | h'
    · exact h'
    · rw [List.getElem?_eq_none h'] at h; cases h
  by_cases c : i = j
  · subst c; rw [if_pos rfl, if_pos hil, h]; simp
  · rw [if_neg c]
    cases e : st[j]? with
    | none => rfl
    | some p =>
      have hne : p.1 ≠ u := by
        intro hp
        apply c
        have hjl : j < st.length := by
          rcases Nat.lt_or_ge j st.length with h' | h'
          · exact h'
          · rw [List.getElem?_eq_none h'] at e; cases e
        refine (List.getElem_inj (h₀ := by simpa using hil) (h₁ := by simpa using hjl) hk).1 ?_
        rw [List.getElem?_eq_getElem hil] at h
        rw [List.getElem?_eq_getElem hjl] at e
        simp only [List.getElem_map]
        rw [Option.some.inj h, Option.some.inj e, hp]
      simp [hne]
theorem kv_set : ∀ (st : St) (bs : List Nat) (i : Nat) (u : Str) (n n' : Nd), st[i]? = some (u, n) → kv (st.set i (u, n')) bs = kv st bs := by
  intro st
  induction st with
  | nil => intro bs i u n n' h; cases h
  | cons p st ih =>
    intro bs i u n n' h
    cases bs with
    | nil => cases i <;> simp [kv]
    | cons b bs =>
      cases i with
      | zero => cases h; rfl
      | succ i => simp only [List.set_cons_succ]; unfold kv; rw [ih bs i u n n' (by simpa using h)]
theorem keys_set {st : St} {i : Nat} {u : Str} {n n' : Nd} (h : st[i]? = some (u, n)) : (st.set i (u, n')).map (·.1) = st.map (·.1) := by
  rw [List.map_set]
  apply List.ext_getElem?
  intro j
  rw [List.getElem?_set, List.getElem?_map]
  by_cases c : i = j
  · subst c; rw [h]; simp
    rcases Nat.lt_or_ge i st.length with h' | h'
    · exact h'
    · rw [List.getElem?_eq_none h'] at h; cases h
  · rw [if_neg c]
theorem idx_inj {α : Type} {l : List α} (hn : l.Nodup) {i j : Nat} {x : α} (hi : l[i]? = some x) (hj : l[j]? = some x) : i = j := by
  have hil : i < l.length := by
    rcases Nat.lt_or_ge i l.length with h' | h'
    · exact h'
    · rw [List.getElem?_eq_none h'] at hi; cases hi
  have hjl : j < l.length := by
    rcases Nat.lt_or_ge j l.length with h' | h'
    · exact h'
    · rw [List.getElem?_eq_none h'] at hj; cases hj
  rw [List.getElem?_eq_getElem hil] at hi
  rw [List.getElem?_eq_getElem hjl] at hj
  exact (List.getElem_inj hn).1 (by rw [Option.some.inj hi, Option.some.inj hj])
/-- a node is another one now -/
theorem TreeAt.write {r T i b M : Nat} {st : St} {bs : List Nat} {u : Str} {n n' : Nd} (h : TreeAt tag σ r T M bs st) (hr : r < 64) (hr6 : r ≠ 6) (hb : bs[i]? = some b) (hp : st[i]? = some (u, n)) (k : Step [r + 64 * (b + 2)] ro tag σ tag' σ') (hnew : NodeAt tag' σ' r b n') : TreeAt tag' σ' r T M bs (st.set i (u, n')) := by
  refine ⟨by rw [keys_set hp]; exact h.keys, by simpa using h.len, h.nd, h.cell.keep k (by simp), ?_, fun j c p hc hp' => ?_⟩
  · rw [kv_set _ _ _ _ _ _ hp]; exact h.map.keep k (by simp; omega)
  · rw [List.getElem?_set] at hp'
    by_cases e : i = j
    · subst e
      rw [hb] at hc; cases hc
      rw [if_pos rfl] at hp'
      split at hp'
      · cases hp'; exact hnew
      · cases hp'
    · rw [if_neg e] at hp'
      refine (h.nodes j c p hc hp').keep k ?_ ?_
      · simp
        intro h'
        have : b = c := by omega
        subst this
        exact e (idx_inj h.nd hb hc)
      · simp; omega
end Go.Proofs.YthfpmipeejjogaaGreatDoor.Zt

/- The tree, the walk: New, find, check, Create. -/
namespace Go.Proofs.YthfpmipeejjogaaGreatDoor.Zt
open Go Go.Proofs.YthfpmipeejjogaaGreatDoor.SL Go.Proofs.YthfpmipeejjogaaGreatDoor.G Go.Proofs.YthfpmipeejjogaaGreatDoor.Pa
set_option linter.unusedSimpArgs false
set_option linter.unusedVariables false
variable {B : World} {ro σ σ' : AH} {tag tag' : Nat → Nat}

theorem u126 : Tryz.prog.underlying 126 = some (.map 9 129) := by kernel_rfl
theorem u9 : Tryz.prog.underlying 9 = some .string := by kernel_rfl
theorem u30 : Tryz.prog.underlying 30 = some (.slice 5) := by kernel_rfl
theorem ty129 : TyIs Tryz.prog 129 (.pointer none) 1 8 := TyIs.of (by kernel_rfl)

set_option maxRecDepth 100000 in
theorem clone_ok {s : Sl} {l : List Value} {Q : Sl → AH → Prop} (h : SL.Read ro σ s l) (hs : SL.Sep ro σ) (hl : l.length ≤ 140737488355328) (hv : ∀ v ∈ l, storable v = true) (hQ : ∀ s' tag' σ', (∀ R, Step R ro tag σ tag' σ') → Row tag' σ' 6 5 s' l → Q s' σ') : c_bytes_Clone B ro s σ Q := by
  refine bytes_Clone_ok fun _ => ?_
  unfold f_bytes_Clone
  by_cases h0 : s.a = none
  · rw [if_pos h0]
    rw [h.2.1 h0] at hQ
    exact hQ _ tag σ (fun _ => Step.refl hs) (Row.nil 6 5)
  · rw [if_neg h0]
    refine nw_cells (tag := tag) 6 hs fun b tag1 σ1 st1 r1 => ?_
    have h' : SL.Read ro σ1 s l := h.step (st1 [])
    refine awp_appendN r1 (st1 []).sep h' u30 ty5 rfl hv (by simp; omega) (by decide) fun s' tag2 σ2 st2 r2 => ?_
    exact ⟨s', rfl, hQ s' tag2 σ2 (fun R => (st1 R).trans (st2 R (.inl rfl))) r2⟩

def St.new : St := [([47], ⟨0, 0, 0, 0, []⟩)]
set_option maxRecDepth 100000 in
theorem new_ok {Q : Option Addr → AH → Prop} (r : Nat) (hr : r < 64) (hr6 : r ≠ 6) (hQ : ∀ T tag' σ', StepC r ro tag σ tag' σ' → TreeIs tag' σ' r T St.new → Q (some ⟨T, 0, none⟩) σ') : c_ztree_New B ro σ Q := by
  refine ztree_New_ok fun hs => ?_
  unfold f_ztree_New
  refine nw_map (tag := tag) (r + 64) hs fun M tag1 σ1 st1 m1 => ?_
  refine nw_cellsF (tag := tag1) (fun b => r + 64 * (b + 2)) (st1 []).sep fun b tag2 σ2 _ _ st2 r2 => ?_
  have m2 := m1.keep (st2 []) (by simp)
  refine awp_update_str (k := [47]) m2 (st2 []).sep u126 u9 fun σ3 st3 m3 => ?_
  have r3 := r2.keep st3 (by simp; omega)
  refine nw_cells (tag := tag2) r st3.sep fun T tag4 σ4 st4 r4 => ?_
  have st : StepC r ro tag σ tag4 σ4 := ((st1 []).c (by simp)).trans (((st2 []).c (by simp)).trans ((st3.c (by simp; omega)).trans ((st4 []).c (by simp))))
  refine hQ T tag4 σ4 st ⟨M, [b], by simp [St.new], rfl, by simp, r4, m3.keep (st4 []) (by simp), fun i c p hc hp => ?_⟩
  rcases i with _ | i
  · cases hc; cases hp
    exact ⟨⟨none, 0, 0⟩, r3.keep (st4 []) (by simp), Row.nil 6 5⟩
  · cases hc

set_option maxRecDepth 100000 in
/-- where a path stands -/
theorem find_ok {r T M : Nat} {bs : List Nat} {st : St} {p : ByteArray} {Q : Option Addr → Int → AH → Prop} (g : Glob ro) (h : TreeAt tag σ r T M bs st) (hs : SL.Sep ro σ) (hbad : parts (L p) = none → Q none 20 σ)
    (hmiss : ∀ ps, parts (L p) = some ps → st.lookup (L p) = none → Q none 70 σ) (hhit : ∀ (ps : List Str) (i b : Nat) (n : Nd), parts (L p) = some ps → bs[i]? = some b → st[i]? = some (L p, n) → st.lookup (L p) = some n → Q (some ⟨b, 0, none⟩) 0 σ) :
    c_ztree_Tree_find B ro (some ⟨T, 0, none⟩) p σ Q := by
  refine ztree_Tree_find_ok fun _ => ?_
  unfold f_ztree_Tree_find
  refine check_ok g ?_
  by_cases h1 : Pa.chk (L p) = 0
  · rw [if_neg (by simpa using h1)]
    obtain ⟨ps, hps⟩ := chk_zero.1 h1
    refine ⟨_, rfl, _, Row.cell1 h.cell hs, ?_⟩
    rw [← S_L p]
    refine awp_lookup_str h.map hs u126 u9 ty129 ?_
    rcases kv_lookup st bs (L p) h.len with ⟨a, e⟩ | ⟨i, b, n, a1, a2, a3, e⟩
    · rw [e]
      exact ⟨none, rfl, by rw [if_pos rfl]; exact hmiss ps hps a⟩
    · rw [e]
      exact ⟨some ⟨b, 0, none⟩, rfl, by rw [if_neg (by simp)]; exact hhit ps i b n hps a1 a2 a3⟩
  · rw [if_pos (by simpa using h1)]
    have e : parts (L p) = none := by
      cases h : parts (L p) with
      | none => rfl
      | some ps => exact absurd (chk_zero.2 ⟨ps, h⟩) h1
    have : Pa.chk (L p) = 20 := by unfold Pa.chk; rw [e]; rfl
    rw [this]; exact hbad e

/-! what the calls do -/
def bump (n : Nd) : Nd := { n with ctr := IntKind.i64.wrap (n.ctr + 1), kids := IntKind.i64.wrap (n.kids + 1) }
def create (st : St) (p : Str) (data : Str) (o : Int) (seq : Bool) : St × Str × Int :=
  match parent p with
  | none => (st, [], 20)
  | some u =>
    if 256 < data.length then (st, [], 75)
    else if o < 0 ∨ 4611686018427387903 < o then (st, [], 10)
    else match st.lookup u with
      | none => (st, [], 70)
      | some n =>
        if n.own ≠ 0 then (st, [], 74)
        else if 9999999999 < n.ctr then (st, [], 76)
        else match (if seq then suffix p n.ctr else some p) with
          | none => (st, [], 20)
          | some q => if (st.lookup q).isSome then (st, [], 71) else (modN (st ++ [(q, ⟨0, 0, o, 0, data⟩)]) u bump, q, 0)

theorem kv_app : ∀ (st : St) (bs : List Nat) (q : Str) (n : Nd) (b : Nat), bs.length = st.length → kv (st ++ [(q, n)]) (bs ++ [b]) = kv st bs ++ [(q, ptr b)] := by
  intro st
  induction st with
  | nil => intro bs q n b h; have : bs = [] := List.eq_nil_of_length_eq_zero h; subst this; rfl
  | cons p st ih =>
    intro bs q n b h
    cases bs with
    | nil => simp at h
    | cons c bs =>
      obtain ⟨p, m⟩ := p
      simp only [List.cons_append]
      unfold kv
      rw [ih bs q n b (by simpa using h)]; rfl
theorem kv_mput : ∀ (st : St) (bs : List Nat) (q : Str) (b : Nat), bs.length = st.length → st.lookup q = none → mput (kv st bs) q (ptr b) = kv st bs ++ [(q, ptr b)] := by
  intro st
  induction st with
  | nil => intro bs q b h _; cases bs <;> rfl
  | cons p st ih =>
    intro bs q b h hl
    cases bs with
    | nil => simp at h
    | cons c bs =>
      obtain ⟨p, m⟩ := p
      rw [List.lookup_cons] at hl
      by_cases e : q = p
      · subst e; simp at hl
      · rw [show (q == p) = false by simpa using e] at hl
        unfold kv mput
        rw [if_neg e, ih bs q b (by simpa using h) hl]; rfl
theorem lookup_none {st : St} {q : Str} (h : st.lookup q = none) : q ∉ st.map (·.1) := by
  intro hm
  obtain ⟨p, hp, e⟩ := List.mem_map.1 hm
  rw [List.lookup_eq_none_iff] at h
  have := h p hp
  simp at this
  exact this e.symm
/-- a new node -/
theorem TreeAt.add {r T M b : Nat} {bs : List Nat} {st : St} {q : Str} {n : Nd} {tag2 : Nat → Nat} {σ2 : AH} (h : TreeAt tag σ r T M bs st) (hr : r < 64) (hr6 : r ≠ 6) (hq : st.lookup q = none) (hb : σ b = none) (k : Step [r + 64] ro tag σ tag2 σ2) (hnew : NodeAt tag2 σ2 r b n) (hm : MapIs tag2 σ2 (r + 64) M (mput (kv st bs) q (ptr b))) : TreeAt tag2 σ2 r T M (bs ++ [b]) (st ++ [(q, n)]) := by
  have hnb : b ∉ bs := fun hm' => by
    obtain ⟨i, hi, e⟩ := List.getElem_of_mem hm'
    have hb' : bs[i]? = some b := by rw [List.getElem?_eq_getElem hi, e]
    have hil : i < st.length := by rw [← h.len]; exact hi
    obtain ⟨s, hn, _⟩ := h.nodes i b _ hb' (List.getElem?_eq_getElem hil)
    obtain ⟨_, o, ho⟩ := hn.tagOf
    rw [hb] at ho; cases ho
  refine ⟨?_, by simp [h.len], ?_, h.cell.keep k (by simp), ?_, fun i c p hc hp => ?_⟩
  · rw [List.map_append, List.nodup_append]
    refine ⟨h.keys, by simp, ?_⟩
    intro x hx y hy
    simp at hy
    intro e
    exact lookup_none hq (by rw [← hy, ← e]; exact hx)
  · rw [List.nodup_append]
    refine ⟨h.nd, by simp, ?_⟩
    intro x hx y hy
    simp at hy
    intro e
    exact hnb (by rw [← hy, ← e]; exact hx)
  · rw [kv_app _ _ _ _ _ h.len, ← kv_mput _ _ _ _ h.len hq]; exact hm
  · rcases Nat.lt_or_ge i bs.length with hi | hi
    · rw [List.getElem?_append_left hi] at hc
      rw [List.getElem?_append_left (by rw [← h.len]; exact hi)] at hp
      exact (h.nodes i c p hc hp).keep k (by simp; omega) (by simp)
    · rw [List.getElem?_append_right hi] at hc
      rw [List.getElem?_append_right (by rw [← h.len]; exact hi), ← h.len] at hp
      cases hd : i - bs.length with
      | zero =>
        rw [hd] at hc hp
        cases hc; cases hp
        exact hnew
      | succ j => rw [hd] at hc; cases hc
end Go.Proofs.YthfpmipeejjogaaGreatDoor.Zt

/- The tree, the walk: Create. -/
namespace Go.Proofs.YthfpmipeejjogaaGreatDoor.Zt
open Go Go.Proofs.YthfpmipeejjogaaGreatDoor.SL Go.Proofs.YthfpmipeejjogaaGreatDoor.G Go.Proofs.YthfpmipeejjogaaGreatDoor.Pa
set_option linter.unusedSimpArgs false
set_option linter.unusedVariables false
variable {B : World} {ro σ σ' : AH} {tag tag' : Nat → Nat}

theorem st_last {q : Str} {n : Nd} (st : St) {i : Nat} {u : Str} {m : Nd} (h : st[i]? = some (u, m)) : (st ++ [(q, n)])[i]? = some (u, m) := by
  have hil : i < st.length := by
    rcases Nat.lt_or_ge i st.length with h' | h'
    · exact h'
    · rw [List.getElem?_eq_none h'] at h; cases h
  rw [List.getElem?_append_left hil]; exact h
theorem app_idx {bs : List Nat} {c i b : Nat} (h : bs[i]? = some b) : (bs ++ [c])[i]? = some b := by
  have hil : i < bs.length := by
    rcases Nat.lt_or_ge i bs.length with h' | h'
    · exact h'
    · rw [List.getElem?_eq_none h'] at h; cases h
  rw [List.getElem?_append_left hil]; exact h

set_option maxRecDepth 100000 in
theorem create_ok {r T : Nat} {st : St} {p : ByteArray} {s : Sl} {d : Str} {o : Int} {seq : Bool} {Q : ByteArray → Int → AH → Prop} (g : Glob ro) (hr : r < 64) (hr6 : r ≠ 6) (hr0 : r ≠ 0) (h : TreeIs tag σ r T st) (hd : SL.Read ro σ s (d.map vU)) (hdl : d.length < 4611686018427387904)
    (hQ : ∀ tag' σ', StepC r ro tag σ tag' σ' → TreeIs tag' σ' r T (create st (L p) d o seq).1 → Q (S (create st (L p) d o seq).2.1) (create st (L p) d o seq).2.2 σ') : c_ztree_Tree_Create B ro (some ⟨T, 0, none⟩) p s o seq σ Q := by
  refine ztree_Tree_Create_ok fun hs => ?_
  unfold f_ztree_Tree_Create
  have hsl : s.len = d.length := by rw [hd.1, List.length_map]
  have same : ∀ e : Int, create st (L p) d o seq = (st, [], e) → Q (⟨#[]⟩ : ByteArray) e σ := fun e he => by
    have := hQ tag σ (StepC.refl hs) (by rw [he]; exact h)
    rw [he] at this; exact this
  refine parent_ok g (fun hp => ?_) (fun u hu => ?_)
  · rw [if_pos (by decide)]
    exact same 20 (by unfold create; rw [hp])
  · rw [if_neg (by decide)]
    by_cases h1 : 256 < (s.len : Int)
    · rw [if_pos h1]
      exact same 75 (by unfold create; rw [hu]; simp only; rw [if_pos (by omega)])
    · rw [if_neg h1]
      have h1' : ¬ 256 < d.length := by omega
      by_cases h2 : o < 0 ∨ 4611686018427387903 < o
      · rw [if_pos h2]
        exact same 10 (by unfold create; rw [hu]; simp only; rw [if_neg h1', if_pos h2])
      · rw [if_neg h2]
        obtain ⟨M, bs, hA⟩ := h
        refine ⟨_, rfl, _, Row.cell1 hA.cell hs, ?_⟩
        refine awp_lookup_str hA.map hs u126 u9 ty129 ?_
        rcases kv_lookup st bs u hA.len with ⟨a, e⟩ | ⟨i, b, n, a1, a2, a3, e⟩
        · rw [e]
          refine ⟨none, rfl, ?_⟩
          rw [if_pos rfl]
          exact same 70 (by unfold create; rw [hu]; simp only; rw [if_neg h1', if_neg h2, a])
        · rw [e]
          refine ⟨some ⟨b, 0, none⟩, rfl, ?_⟩
          rw [if_neg (by simp)]
          obtain ⟨ds, hn, hdat⟩ := hA.nodes i b _ a1 a2
          obtain ⟨q, hq, hg⟩ := hn.ptr hs (by simp)
          cases hq
          refine ⟨_, rfl, n.own, hg 2 _ rfl, ?_⟩
          by_cases h3 : n.own = 0
          · rw [if_neg (by simp [h3])]
            refine ⟨_, rfl, n.ctr, hg 1 _ rfl, ?_⟩
            by_cases h4 : 9999999999 < n.ctr
            · rw [if_pos h4]
              exact same 76 (by unfold create; rw [hu]; simp only; rw [if_neg h1', if_neg h2, a3]; simp only; rw [if_neg (by simp [h3]), if_pos h4])
            · rw [if_neg h4]
              have hcr : create st (L p) d o seq = match (if seq then suffix (L p) n.ctr else some (L p)) with
                  | none => (st, [], 20)
                  | some q => if (st.lookup q).isSome then (st, [], 71) else (modN (st ++ [(q, ⟨0, 0, o, 0, d⟩)]) u bump, q, 0) := by
                unfold create; rw [hu]; simp only; rw [if_neg h1', if_neg h2, a3]; simp only; rw [if_neg (by simp [h3]), if_neg h4]; try rfl
              have main : ∀ q : Str, (if seq then suffix (L p) n.ctr else some (L p)) = some q → j10_ztree_Tree_Create B ro (some ⟨T, 0, none⟩) s o (some ⟨b, 0, none⟩) Q (S q) σ := by
                intro q hq
                rw [hq] at hcr
                simp only at hcr
                unfold j10_ztree_Tree_Create
                refine ⟨_, rfl, _, Row.cell1 hA.cell hs, ?_⟩
                refine awp_lookup_str hA.map hs u126 u9 ty129 ?_
                rcases kv_lookup st bs q hA.len with ⟨c, e2⟩ | ⟨i2, b2, n2, c1, c2, c3, e2⟩
                · rw [e2]
                  refine ⟨none, rfl, ?_⟩
                  rw [if_neg (by simp)]
                  rw [c] at hcr
                  simp only [Option.isSome_none, Bool.false_eq_true, if_false] at hcr
                  refine lent_block T ?_
                  obtain ⟨hT0, hTo⟩ := hA.cell.tagOf
                  have hs1 : SL.Sep (join ro (SL.one σ T)) (SL.del σ T) := hs.lent
                  refine ⟨_, rfl, some M, hA.cell.lend hs (i := 0) rfl, ?_⟩
                  refine clone_ok (tag := tag) (hd.lent T) hs1 (by simp; omega) (by simp [storable]) fun s' tag1 σ1 st1 r1 => ?_
                  refine nw_cellsF (tag := tag1) (fun b => r + 64 * (b + 2)) (st1 []).sep fun c' tag2 σ2 hro2 hc2 st2 r2 => ?_
                  have hM1 := ((hA.map.del (by rw [hT0]; omega)).keep (st1 []) (by simp)).keep (st2 []) (by simp)
                  refine awp_update_str hM1 (st2 []).sep u126 u9 fun σ3 st3 m3 => ?_
                  intro hdj
                  have stA : Step [r + 64] (join ro (SL.one σ T)) tag (SL.del σ T) tag2 σ3 := (st1 _).trans ((st2 _).trans st3)
                  have stB := stA.back hs hdj hTo
                  have m4 := m3.back (r' := tag T) hdj hTo
                  have hnode : NodeAt (setTag tag2 T (tag T)) (join (SL.one σ T) σ3) r c' ⟨0, 0, o, 0, d⟩ :=
                    ⟨s', (r2.keep st3 (by simp; omega)).back hdj hTo, ((r1.keep (st2 []) (by simp)).keep st3 (by simp)).back hdj hTo⟩
                  have hfree : σ c' = none := by
                    cases hcc : σ c' with
                    | none => rfl
                    | some x =>
                      have hne : c' ≠ T := fun e => by
                        have := (join_none hro2).2
                        unfold SL.one at this
                        rw [if_pos e, hcc] at this; cases this
                      obtain ⟨_, x', hx'⟩ := (st1 []).old c' x (by unfold SL.del; rw [if_neg hne]; exact hcc)
                      rw [hc2] at hx'; cases hx'
                  have hA2 := hA.add (n := ⟨0, 0, o, 0, d⟩) hr hr6 c hfree stB hnode m4
                  have b1 := app_idx (c := c') a1
                  have b2 := st_last (q := q) (n := ⟨0, 0, o, 0, d⟩) st a2
                  generalize setTag tag2 T (tag T) = tagx at *
                  generalize join (SL.one σ T) σ3 = σx at *
                  have hsx := stB.sep
                  obtain ⟨d1, hn1, hd1⟩ := hA2.nodes i b _ b1 b2
                  obtain ⟨q1, hq1, hg1⟩ := hn1.ptr hsx (by simp)
                  cases hq1
                  refine ⟨_, rfl, n.ctr, hg1 1 _ rfl, _, rfl, ?_⟩
                  refine hn1.st (i := 1) hsx rfl (by simp) rfl fun σ4 st4 r4 => ?_
                  have hA3 := hA2.write (n' := { n with ctr := IntKind.i64.wrap (n.ctr + 1) }) hr hr6 b1 b2 st4 ⟨d1, r4, hd1.keep st4 (by simp; omega)⟩
                  have b3 : ((st ++ [(q, (⟨0, 0, o, 0, d⟩ : Nd))]).set i (u, { n with ctr := IntKind.i64.wrap (n.ctr + 1) }))[i]? = some (u, { n with ctr := IntKind.i64.wrap (n.ctr + 1) }) := by
                    rw [List.getElem?_set, if_pos rfl, if_pos]
                    rcases Nat.lt_or_ge i (st ++ [(q, (⟨0, 0, o, 0, d⟩ : Nd))]).length with h' | h'
                    · exact h'
                    · rw [List.getElem?_eq_none h'] at b2; cases b2
                  obtain ⟨q2, hq2, hg2⟩ := r4.ptr st4.sep (by simp)
                  cases hq2
                  refine ⟨_, rfl, n.kids, hg2 3 _ rfl, _, rfl, ?_⟩
                  refine r4.st (i := 3) st4.sep rfl (by simp) rfl fun σ5 st5 r5 => ?_
                  have hA4 := hA3.write (n' := bump n) hr hr6 b1 b3 st5 ⟨d1, r5, (hd1.keep st4 (by simp; omega)).keep st5 (by simp; omega)⟩
                  rw [List.set_set] at hA4
                  rw [← modN_set hA2.keys b2 bump] at hA4
                  have hres := hQ tagx σ5 ((stB.c (by simp; omega)).trans ((st4.c (by simp; omega)).trans (st5.c (by simp; omega)))) (by rw [hcr]; exact ⟨M, _, hA4⟩)
                  rw [hcr] at hres
                  exact hres
                · rw [e2]
                  refine ⟨some ⟨b2, 0, none⟩, rfl, ?_⟩
                  rw [if_pos (by simp)]
                  refine same 71 ?_
                  rw [hcr, c3]; rfl
              by_cases h5 : seq = true
              · rw [if_pos h5]
                refine ⟨_, rfl, n.ctr, hg 1 _ rfl, ?_⟩
                refine suffix_ok g (fun hnone => ?_) (fun q hq => ?_)
                · rw [if_pos (by decide)]
                  refine same 20 ?_
                  rw [hcr, if_pos h5, hnone]
                · rw [if_neg (by decide)]
                  exact main q (by rw [if_pos h5]; exact hq)
              · rw [if_neg h5]
                have := main (L p) (by rw [if_neg h5])
                rw [S_L] at this; exact this
          · rw [if_pos (by simp [h3])]
            exact same 74 (by unfold create; rw [hu]; simp only; rw [if_neg h1', if_neg h2, a3]; simp only; rw [if_pos (by simp [h3])])
end Go.Proofs.YthfpmipeejjogaaGreatDoor.Zt

/- The tree, the walk: Delete, Set. -/
namespace Go.Proofs.YthfpmipeejjogaaGreatDoor.Zt
open Go Go.Proofs.YthfpmipeejjogaaGreatDoor.SL Go.Proofs.YthfpmipeejjogaaGreatDoor.G Go.Proofs.YthfpmipeejjogaaGreatDoor.Pa
set_option linter.unusedSimpArgs false
set_option linter.unusedVariables false
variable {B : World} {ro σ σ' : AH} {tag tag' : Nat → Nat}

def delK : St → Str → St
  | [], _ => []
  | (k', n) :: r, k => if k = k' then r else (k', n) :: delK r k
theorem delK_idx : ∀ (st : St) (bs : List Nat) (i b : Nat) (q : Str) (n : Nd), bs.length = st.length → (st.map (·.1)).Nodup → bs[i]? = some b → st[i]? = some (q, n) →
    delK st q = st.eraseIdx i ∧ mdel (kv st bs) q = kv (st.eraseIdx i) (bs.eraseIdx i) := by
  intro st
  induction st with
  | nil => intro bs i b q n _ _ _ h; cases h
  | cons p st ih =>
    intro bs i b q n hl hk hb hp
    cases bs with
    | nil => simp at hl
    | cons c bs =>
      obtain ⟨p, m⟩ := p
      rw [List.map_cons, List.nodup_cons] at hk
      cases i with
      | zero =>
        cases hp
        exact ⟨by simp [delK], by simp [kv, mdel]⟩
      | succ i =>
        simp only [List.getElem?_cons_succ] at hb hp
        have hne : q ≠ p := fun e => hk.1 (by rw [← e]; exact List.mem_map.2 ⟨_, List.mem_of_getElem? hp, rfl⟩)
        obtain ⟨h1, h2⟩ := ih bs i b q n (by simpa using hl) hk.2 hb hp
        refine ⟨by simp [delK, hne, h1], ?_⟩
        simp only [List.eraseIdx_cons_succ]
        unfold kv mdel
        rw [if_neg hne, h2]
theorem eraseIdx_get {α : Type} (l : List α) (i j : Nat) : (l.eraseIdx i)[j]? = if j < i then l[j]? else l[j + 1]? := by
  rw [List.getElem?_eraseIdx]
/-- a node goes -/
theorem TreeAt.rem {r T M i b : Nat} {bs : List Nat} {st : St} {q : Str} {n : Nd} (h : TreeAt tag σ r T M bs st) (hr : r < 64) (hr6 : r ≠ 6) (hb : bs[i]? = some b) (hp : st[i]? = some (q, n)) (k : Step [r + 64] ro tag σ tag' σ')
    (hm : MapIs tag' σ' (r + 64) M (mdel (kv st bs) q)) : TreeAt tag' σ' r T M (bs.eraseIdx i) (delK st q) := by
  obtain ⟨e1, e2⟩ := delK_idx st bs i b q n h.len h.keys hb hp
  rw [e1]
  rw [e2] at hm
  refine ⟨List.Nodup.sublist ((List.eraseIdx_sublist ..).map _) h.keys, ?_, List.Nodup.sublist (List.eraseIdx_sublist ..) h.nd, h.cell.keep k (by simp), hm, fun j c p hc hp' => ?_⟩
  · rw [List.length_eraseIdx, List.length_eraseIdx, h.len]
  · rw [eraseIdx_get] at hc hp'
    by_cases hj : j < i
    · rw [if_pos hj] at hc hp'
      exact (h.nodes j c p hc hp').keep k (by simp; omega) (by simp)
    · rw [if_neg hj] at hc hp'
      exact (h.nodes (j + 1) c p hc hp').keep k (by simp; omega) (by simp)
theorem parent_ne {p u : Str} (h : parent p = some u) : p ≠ u := by
  unfold parent at h
  cases hp : parts p with
  | none => rw [hp] at h; cases h
  | some ps =>
    rw [hp] at h
    simp only at h
    split at h
    · cases h
    · rename_i hn
      cases h
      obtain ⟨hl, hg⟩ := parts_iff.1 hp
      intro e
      have := mk_inj hg hg.up (by rw [← hl]; exact e)
      have h1 := congrArg List.length this
      have h2 := List.length_pos_iff.2 hn
      simp at h1; omega
end Go.Proofs.YthfpmipeejjogaaGreatDoor.Zt

/- The tree, the plain part: what is always true of a tree, and that each call keeps it. No program in sight. -/
namespace Go.Proofs.YthfpmipeejjogaaGreatDoor.Zt
open Go Go.Proofs.YthfpmipeejjogaaGreatDoor.SL Go.Proofs.YthfpmipeejjogaaGreatDoor.Pa
set_option linter.unusedSimpArgs false
set_option linter.unusedVariables false

def kc (ks : List Str) (u : Str) : Nat := ks.countP fun k => parent k = some u
theorem lookup_mod (st : St) (u : Str) (f : Nd → Nd) (k : Str) : (modN st u f).lookup k = if k = u then (st.lookup k).map f else st.lookup k := by
  induction st with
  | nil => simp [modN]
  | cons p st ih =>
    obtain ⟨p, n⟩ := p
    unfold modN at ih ⊢
    rw [List.map_cons]
    by_cases e : p = u
    · subst e
      simp only [if_true]
      rw [List.lookup_cons, List.lookup_cons, ih]
      by_cases c : k = p
      · subst c; simp
      · rw [show (k == p) = false by simpa using c]
    · simp only [e, if_false]
      rw [List.lookup_cons, List.lookup_cons, ih]
      by_cases c : k = p
      · subst c; simp [e]
      · rw [show (k == p) = false by simpa using c]
theorem lookup_app (st : St) (q : Str) (n : Nd) (k : Str) : (st ++ [(q, n)]).lookup k = match st.lookup k with | some m => some m | none => if k = q then some n else none := by
  induction st with
  | nil =>
    rw [List.nil_append, List.lookup_cons]
    by_cases c : k = q
    · subst c; simp
    · rw [show (k == q) = false by simpa using c]; simp [c]
  | cons p st ih =>
    obtain ⟨p, m⟩ := p
    rw [List.cons_append, List.lookup_cons, List.lookup_cons, ih]
    by_cases c : k = p
    · subst c; simp
    · rw [show (k == p) = false by simpa using c]
theorem keys_mod (st : St) (u : Str) (f : Nd → Nd) : (modN st u f).map (·.1) = st.map (·.1) := by
  unfold modN; rw [List.map_map]
  refine List.map_congr_left fun p _ => ?_
  simp only [Function.comp]
  split <;> rfl
structure Inv (st : St) : Prop where
  keys : (st.map (·.1)).Nodup
  root : ∃ n, st.lookup [47] = some n
  path : ∀ k n, st.lookup k = some n → ∃ ps, parts k = some ps
  up : ∀ k n, st.lookup k = some n → k ≠ [47] → ∃ u m, parent k = some u ∧ st.lookup u = some m ∧ m.own = 0
  kids : ∀ k n, st.lookup k = some n → n.kids = (kc (st.map (·.1)) k : Nat)
  ctr : ∀ k n, st.lookup k = some n → n.kids ≤ n.ctr ∧ n.ctr ≤ 10000000000
  data : ∀ k n, st.lookup k = some n → n.data.length ≤ 256
end Go.Proofs.YthfpmipeejjogaaGreatDoor.Zt

/- The tree, the plain part, on: each call keeps what is always true. -/
namespace Go.Proofs.YthfpmipeejjogaaGreatDoor.Zt
open Go Go.Proofs.YthfpmipeejjogaaGreatDoor.SL Go.Proofs.YthfpmipeejjogaaGreatDoor.Pa
set_option linter.unusedSimpArgs false
set_option linter.unusedVariables false

theorem kc_pos {ks : List Str} {u : Str} (h : kc ks u ≠ 0) : ∃ k ∈ ks, parent k = some u := by
  have : 0 < kc ks u := by omega
  unfold kc at this
  rw [List.countP_pos_iff] at this
  obtain ⟨k, h1, h2⟩ := this
  exact ⟨k, h1, by simpa using h2⟩
theorem root_parent : parent [47] = none := rfl
theorem parts_parent {q : Str} {u : Str} (h : parent q = some u) : ∃ ps, parts q = some ps := by
  unfold parent at h
  cases hp : parts q with
  | none => rw [hp] at h; cases h
  | some ps => exact ⟨ps, rfl⟩

end Go.Proofs.YthfpmipeejjogaaGreatDoor.Zt

/- Numbers and bytes as the wire has them: what is written is read back, and what is read was written. -/
namespace Go.Proofs.YthfpmipeejjogaaGreatDoor.Wi
open Go Go.Proofs.YthfpmipeejjogaaGreatDoor.SL
set_option linter.unusedSimpArgs false
set_option linter.unusedVariables false

def vput (n : Nat) : Str := if n < 128 then [UInt8.ofNat n] else UInt8.ofNat (n % 128 + 128) :: vput (n / 128)
termination_by n
decreasing_by omega
def val : Str → Nat
  | [] => 0
  | c :: r => c.toNat % 128 + 128 * val r
/-- the place of the first small byte among the first ones -/
def scan : Nat → Str → Option Nat
  | 0, _ => none
  | _ + 1, [] => none
  | k + 1, c :: r => if c.toNat < 128 then some 0 else (scan k r).map (· + 1)
def num (l : Str) : Nat × Nat × Int :=
  match scan 9 l with
  | none => (0, 0, if l.length < 9 then 12 else 13)
  | some k => if (0 < k ∧ l[k]? = some 0) ∨ 4611686018427387904 ≤ val (l.take (k + 1)) then (0, 0, 13) else (val (l.take (k + 1)), k + 1, 0)

theorem u8_lt (c : UInt8) : c.toNat < 256 := c.toNat_lt
theorem u8_of (n : Nat) (h : n < 256) : (UInt8.ofNat n).toNat = n := by simp; omega
theorem u8_eq {c d : UInt8} (h : c.toNat = d.toNat) : c = d := UInt8.toNat_inj.1 h

theorem scan_some : ∀ (m : Nat) (l : Str) (k : Nat), scan m l = some k → k < m ∧ k < l.length ∧ (∀ i c, i < k → l[i]? = some c → 128 ≤ c.toNat) ∧ ∃ c, l[k]? = some c ∧ c.toNat < 128 := by
  intro m
  induction m with
  | zero => intro l k h; cases h
  | succ m ih =>
    intro l k h
    cases l with
    | nil => cases h
    | cons c r =>
      unfold scan at h
      split at h
      · rename_i hc
        cases h
        exact ⟨by omega, by simp, fun i c hi => by omega, c, rfl, hc⟩
      · rename_i hc
        obtain ⟨k', hk', rfl⟩ := Option.map_eq_some_iff.1 h
        obtain ⟨h1, h2, h3, h4⟩ := ih r k' hk'
        refine ⟨by omega, by simp; omega, fun i d hi hd => ?_, by simpa using h4⟩
        rcases i with _ | i
        · cases hd; omega
        · exact h3 i d (by omega) (by simpa using hd)
theorem scan_of : ∀ (m : Nat) (l : Str) (k : Nat) (d : UInt8), k < m → (∀ i c, i < k → l[i]? = some c → 128 ≤ c.toNat) → l[k]? = some d → d.toNat < 128 → scan m l = some k := by
  intro m
  induction m with
  | zero => intro l k d h; omega
  | succ m ih =>
    intro l k d hk hall hd hsm
    cases l with
    | nil => cases hd
    | cons c r =>
      unfold scan
      rcases k with _ | k
      · cases hd; rw [if_pos hsm]
      · rw [if_neg (by have := hall 0 c (by omega) rfl; omega), ih r k d (by omega) (fun i e hi he => hall (i + 1) e (by omega) (by simpa using he)) (by simpa using hd) hsm]; rfl
theorem scan_none_of : ∀ (m : Nat) (l : Str), (∀ i c, i < m → l[i]? = some c → 128 ≤ c.toNat) → scan m l = none := by
  intro m l h
  cases e : scan m l with
  | none => rfl
  | some k =>
    obtain ⟨h1, _, _, c, hc, h4⟩ := scan_some m l k e
    have := h k c h1 hc
    omega

theorem val_take : ∀ (l : Str) (k : Nat), val (l.take k) < 128 ^ k := by
  intro l
  induction l with
  | nil => intro k; simp [val]; exact Nat.pow_pos (by decide)
  | cons c r ih =>
    intro k
    cases k with
    | zero => simp [val]
    | succ k =>
      have := ih k
      simp only [List.take_succ_cons, val]
      have := Nat.mod_lt c.toNat (show 0 < 128 by decide)
      rw [Nat.pow_succ]
      omega
theorem val_snoc (l : Str) (c : UInt8) : val (l ++ [c]) = val l + 128 ^ l.length * (c.toNat % 128) := by
  induction l with
  | nil => simp [val]
  | cons d l ih => simp only [List.cons_append, val, ih, List.length_cons, Nat.pow_succ]; rw [Nat.mul_add, ← Nat.mul_assoc, Nat.mul_comm 128 (128 ^ l.length)]; omega

theorem vput_val : ∀ (m : Nat) (l : Str) (k : Nat), scan m l = some k → (k = 0 ∨ l[k]? ≠ some 0) → vput (val (l.take (k + 1))) = l.take (k + 1) ∧ (0 < k → 0 < val (l.take (k + 1))) := by
  intro m
  induction m with
  | zero => intro l k h; cases h
  | succ m ih =>
    intro l k h hz
    cases l with
    | nil => cases h
    | cons c r =>
      unfold scan at h
      split at h
      · rename_i hc
        cases h
        refine ⟨?_, fun h => by omega⟩
        simp only [List.take_succ_cons, List.take_zero, val, Nat.mul_zero, Nat.add_zero, Nat.mod_eq_of_lt hc]
        unfold vput
        rw [if_pos hc]
        simp
      · rename_i hc
        obtain ⟨k', hk', rfl⟩ := Option.map_eq_some_iff.1 h
        have hne : (k' = 0 ∨ r[k']? ≠ some 0) ∧ r[k']? ≠ some 0 := by
          rcases hz with h0 | h0
          · omega
          · have : r[k']? ≠ some 0 := by simpa using h0
            exact ⟨.inr this, this⟩
        obtain ⟨h1, h2⟩ := ih r k' hk' hne.1
        obtain ⟨_, h3, _, d, hd, hd'⟩ := scan_some m r k' hk'
        have hpos : 0 < val (r.take (k' + 1)) := by
          rcases Nat.eq_zero_or_pos k' with h0 | h0
          · subst h0
            cases r with
            | nil => cases hd
            | cons e r =>
              cases hd
              simp only [List.take_succ_cons, List.take_zero, val, Nat.mul_zero, Nat.add_zero, Nat.mod_eq_of_lt hd']
              rcases Nat.eq_zero_or_pos d.toNat with h5 | h5
              · exact absurd (by rw [show d = 0 from u8_eq h5]; rfl) hne.2
              · exact h5
          · exact h2 h0
        have hc256 := u8_lt c
        refine ⟨?_, fun _ => ?_⟩
        · simp only [List.take_succ_cons, val]
          unfold vput
          rw [if_neg (by omega), show (c.toNat % 128 + 128 * val (List.take (k' + 1) r)) / 128 = val (List.take (k' + 1) r) by omega, h1]
          congr 1
          refine u8_eq ?_
          rw [u8_of _ (by omega)]; omega
        · simp only [List.take_succ_cons, val]; omega

theorem vput_ne (n : Nat) : vput n ≠ [] := by unfold vput; split <;> simp
theorem vput_len : ∀ (m n : Nat), n < 128 ^ (m + 1) → 1 ≤ (vput n).length ∧ (vput n).length ≤ m + 1 := by
  intro m
  induction m with
  | zero => intro n h; unfold vput; rw [if_pos (by simpa using h)]; simp
  | succ m ih =>
    intro n h
    unfold vput
    split
    · simp
    · have := ih (n / 128) (by rw [Nat.pow_succ] at h; exact Nat.div_lt_of_lt_mul (by rw [Nat.mul_comm]; exact h))
      simp; omega
/-- what is read was written -/
theorem put_num {l : Str} {n e : Nat} (h : num l = (n, e, 0)) : n < 4611686018427387904 ∧ 0 < e ∧ e ≤ l.length ∧ l.take e = vput n := by
  unfold num at h
  cases hs : scan 9 l with
  | none =>
    rw [hs] at h
    simp only [Prod.mk.injEq] at h
    have := h.2.2
    split at this <;> omega
  | some k =>
    rw [hs] at h
    simp only at h
    split at h
    · simp at h
    · rename_i hb
      simp only [not_or] at hb
      simp only [Prod.mk.injEq] at h
      obtain ⟨rfl, rfl, _⟩ := h
      obtain ⟨_, h2, _, _⟩ := scan_some 9 l k hs
      refine ⟨by omega, by omega, by omega, ((vput_val 9 l k hs ?_).1).symm⟩
      rcases Nat.eq_zero_or_pos k with h0 | h0
      · exact .inl h0
      · exact .inr fun h => hb.1 ⟨h0, h⟩
theorem num_split {l : Str} {n e : Nat} (h : num l = (n, e, 0)) : l = vput n ++ l.drop e := by
  rw [← (put_num h).2.2.2, List.take_append_drop]
theorem num_err {l : Str} (h : (num l).2.2 ≠ 0) : (num l).1 = 0 ∧ (num l).2.1 = 0 ∧ ((num l).2.2 = 12 ∨ (num l).2.2 = 13) := by
  unfold num at h ⊢
  cases hs : scan 9 l with
  | none => simp only; refine ⟨by simp, by simp, ?_⟩; split <;> simp
  | some k =>
    rw [hs] at h
    simp only at h ⊢
    split
    · simp
    · rename_i hb; rw [if_neg hb] at h; simp at h
theorem num_le (l : Str) : (num l).2.1 ≤ l.length ∧ (num l).1 < 4611686018427387904 := by
  by_cases h : (num l).2.2 = 0
  · obtain ⟨h1, _, h3, _⟩ := put_num (l := l) (n := (num l).1) (e := (num l).2.1) (by rw [← h])
    exact ⟨h3, h1⟩
  · obtain ⟨h1, h2, _⟩ := num_err h
    rw [h1, h2]; exact ⟨Nat.zero_le _, by decide⟩

/-- a number that the wire bears -/
def rightN (x : Int) : Bool := decide (0 ≤ x) && decide (x ≤ 4611686018427387903)
/-! ### a reader -/
structure Rd where
  rest : Str
  err : Int
def blob (d : Str) : Str := vput d.length ++ d
def rnum (r : Rd) : Nat × Rd := if r.err ≠ 0 then (0, r) else ((num r.rest).1, ⟨r.rest.drop (num r.rest).2.1, (num r.rest).2.2⟩)
def rblob (r : Rd) : Str × Rd :=
  if (rnum r).2.err ≠ 0 then ([], (rnum r).2)
  else if (rnum r).2.rest.length < (rnum r).1 then ([], ⟨r.rest, 12⟩)
  else ((rnum r).2.rest.take (rnum r).1, ⟨(rnum r).2.rest.drop (rnum r).1, 0⟩)
theorem rnum_bad {r : Rd} (h : r.err ≠ 0) : rnum r = (0, r) := by unfold rnum; rw [if_pos h]
theorem rblob_bad {r : Rd} (h : r.err ≠ 0) : rblob r = ([], r) := by unfold rblob; rw [rnum_bad h, if_pos h]
theorem rnum_err {r : Rd} (h : (rnum r).2.err = 0) : r.err = 0 := Classical.byContradiction fun hn => hn (by rw [rnum_bad hn] at h; exact h)
theorem rblob_err {r : Rd} (h : (rblob r).2.err = 0) : r.err = 0 := Classical.byContradiction fun hn => hn (by rw [rblob_bad hn] at h; exact h)
theorem rnum_split {r : Rd} (h : (rnum r).2.err = 0) : (rnum r).1 < 4611686018427387904 ∧ r.rest = vput (rnum r).1 ++ (rnum r).2.rest := by
  have h0 := rnum_err h
  unfold rnum at h ⊢
  rw [if_neg (by simp [h0])] at h ⊢
  have hn : num r.rest = ((num r.rest).1, (num r.rest).2.1, 0) := by rw [← h]
  exact ⟨(put_num hn).1, num_split hn⟩
theorem rblob_split {r : Rd} (h : (rblob r).2.err = 0) : (rblob r).1.length < 4611686018427387904 ∧ r.rest = blob (rblob r).1 ++ (rblob r).2.rest := by
  unfold rblob at h ⊢
  by_cases h1 : (rnum r).2.err = 0
  · rw [if_neg (by simp [h1])] at h ⊢
    by_cases h2 : (rnum r).2.rest.length < (rnum r).1
    · rw [if_pos h2] at h; cases h
    · rw [if_neg h2] at h ⊢
      obtain ⟨h3, h4⟩ := rnum_split h1
      have hl : ((rnum r).2.rest.take (rnum r).1).length = (rnum r).1 := by simp; omega
      refine ⟨by simp only [hl]; exact h3, ?_⟩
      simp only [blob, hl]
      rw [List.append_assoc, List.take_append_drop]; exact h4
  · rw [if_pos h1] at h; exact absurd h h1
end Go.Proofs.YthfpmipeejjogaaGreatDoor.Wi

/- Trees as lists that rise; a tree's bytes, and what bytes tell. -/
namespace Go.Proofs.YthfpmipeejjogaaGreatDoor.Zt
open Go Go.Proofs.YthfpmipeejjogaaGreatDoor.SL Go.Proofs.YthfpmipeejjogaaGreatDoor.Pa Go.Proofs.YthfpmipeejjogaaGreatDoor.Wi
set_option linter.unusedSimpArgs false
set_option linter.unusedVariables false

/-! ### order -/
def Srt (x : St) : Prop := x.Pairwise fun a b => a.1 < b.1
theorem slt_irrefl (a : Str) : ¬ a < a := List.lt_irrefl a
theorem slt_trans {a b c : Str} (h : a < b) (k : b < c) : a < c := List.lt_trans h k
theorem sle_of_lt {a b : Str} (h : a < b) : a ≤ b := List.le_of_lt h
theorem slt_of_le_ne {a b : Str} (h : a ≤ b) (hn : a ≠ b) : a < b := by
  rcases List.le_iff_lt_or_eq.1 h with h | h
  · exact h
  · exact absurd h hn
theorem snot_le {a b : Str} : ¬ a ≤ b ↔ b < a := List.not_le
theorem Srt.nodup {x : St} (h : Srt x) : (x.map (·.1)).Nodup := by
  unfold List.Nodup
  rw [List.pairwise_map]
  refine List.Pairwise.imp (R := fun (a b : Str × Nd) => a.1 < b.1) (fun {a b} (h : a.1 < b.1) (e : a.1 = b.1) => slt_irrefl b.1 (by rw [e] at h; exact h)) h
theorem lookup_iff {st : St} (hk : (st.map (·.1)).Nodup) {k : Str} {n : Nd} : st.lookup k = some n ↔ (k, n) ∈ st := by
  induction st with
  | nil => simp
  | cons p st ih =>
    obtain ⟨p, m⟩ := p
    simp only [List.map_cons, List.nodup_cons] at hk
    rw [List.lookup_cons]
    by_cases c : k = p
    · subst c
      rw [show (k == k) = true by simp]
      simp only [List.mem_cons, Prod.mk.injEq, true_and]
      refine ⟨fun h => .inl (Option.some.inj h).symm, fun h => ?_⟩
      rcases h with h | h
      · rw [h]
      · exact absurd (List.mem_map.2 ⟨_, h, rfl⟩) hk.1
    · rw [show (k == p) = false by simpa using c]
      simp only [List.mem_cons, Prod.mk.injEq, c, false_and, false_or]
      exact ih hk.2
theorem lookup_perm {a b : St} (h : a.Perm b) (hk : (a.map (·.1)).Nodup) (k : Str) : a.lookup k = b.lookup k := by
  have hk' : (b.map (·.1)).Nodup := (h.map _).nodup_iff.1 hk
  cases e : a.lookup k with
  | none =>
    cases e' : b.lookup k with
    | none => rfl
    | some n => rw [(lookup_iff hk).2 (h.mem_iff.2 ((lookup_iff hk').1 e'))] at e; cases e
  | some n => exact ((lookup_iff hk').2 (h.mem_iff.1 ((lookup_iff hk).1 e))).symm
theorem srt_eq : ∀ {x y : St}, Srt x → Srt y → x.Perm y → x = y := by
  intro x
  induction x with
  | nil => intro y _ _ h; exact h.nil_eq
  | cons a x ih =>
    intro y hx hy h
    cases y with
    | nil => exact absurd h.symm.nil_eq (by simp)
    | cons b y =>
      obtain ⟨hx1, hx2⟩ := List.pairwise_cons.1 hx
      obtain ⟨hy1, hy2⟩ := List.pairwise_cons.1 hy
      have hab : a = b := Classical.byContradiction fun hn => by
        have ha : a ∈ b :: y := h.mem_iff.1 (by simp)
        have hb : b ∈ a :: x := h.mem_iff.2 (by simp)
        rcases List.mem_cons.1 ha with e | ha
        · exact hn e
        rcases List.mem_cons.1 hb with e | hb
        · exact hn e.symm
        exact slt_irrefl _ (slt_trans (hy1 a ha) (hx1 b hb))
      subst hab
      rw [ih hx2 hy2 ((List.perm_cons a).1 h)]
theorem keys_srt : ∀ {x y : List Str}, x.Pairwise (· < ·) → y.Pairwise (· < ·) → x.Perm y → x = y := by
  intro x
  induction x with
  | nil => intro y _ _ h; exact h.nil_eq
  | cons a x ih =>
    intro y hx hy h
    cases y with
    | nil => exact absurd h.symm.nil_eq (by simp)
    | cons b y =>
      obtain ⟨hx1, hx2⟩ := List.pairwise_cons.1 hx
      obtain ⟨hy1, hy2⟩ := List.pairwise_cons.1 hy
      have hab : a = b := Classical.byContradiction fun hn => by
        have ha : a ∈ b :: y := h.mem_iff.1 (by simp)
        have hb : b ∈ a :: x := h.mem_iff.2 (by simp)
        rcases List.mem_cons.1 ha with e | ha
        · exact hn e
        rcases List.mem_cons.1 hb with e | hb
        · exact hn e.symm
        exact slt_irrefl _ (slt_trans (hy1 a ha) (hx1 b hb))
      subst hab
      rw [ih hx2 hy2 ((List.perm_cons a).1 h)]
theorem lt_of_le_nodup {ks : List Str} (h : ks.Pairwise (· ≤ ·)) (hn : ks.Nodup) : ks.Pairwise (· < ·) := by
  exact (h.and hn).imp fun {a b} h => slt_of_le_ne h.1 h.2
/-- the list of a tree's nodes that rises -/
def srt (st : St) : St := st.mergeSort fun a b => decide (a.1 ≤ b.1)
theorem srt_perm (st : St) : (srt st).Perm st := List.mergeSort_perm _ _
theorem srt_srt {st : St} (hk : (st.map (·.1)).Nodup) : Srt (srt st) := by
  have h1 : (srt st).Pairwise fun a b => decide (a.1 ≤ b.1) = true := List.pairwise_mergeSort (le := fun (a b : Str × Nd) => decide (a.1 ≤ b.1))
    (fun a b c h k => by simp only [decide_eq_true_eq] at *; exact List.le_trans h k) (fun a b => by
      simp only [Bool.or_eq_true, decide_eq_true_eq]
      exact List.le_total a.1 b.1) st
  have h2 : ((srt st).map (·.1)).Nodup := ((srt_perm st).map _).nodup_iff.2 hk
  unfold List.Nodup at h2
  rw [List.pairwise_map] at h2
  exact (h1.and h2).imp fun {a b} h => slt_of_le_ne (by simpa using h.1) h.2
theorem srt_of {st x : St} (hx : Srt x) (h : x.Perm st) : x = srt st := srt_eq hx (srt_srt ((h.map _).nodup_iff.1 hx.nodup)) (h.trans (srt_perm st).symm)
/-- the keys, rising, with what stands there -/
theorem srt_keys {st : St} {ks : List Str} (hk : (st.map (·.1)).Nodup) (h : ks.Perm (st.map (·.1))) (hs : ks.Pairwise (· ≤ ·)) : ks = (srt st).map (·.1) := by
  refine keys_srt (lt_of_le_nodup hs (h.nodup_iff.2 hk)) ?_ (h.trans ((srt_perm st).map _).symm)
  rw [List.pairwise_map]
  exact srt_srt hk

/-! ### what a tree's bytes are -/
def numsOk (n : Nd) : Bool := rightN n.ver && rightN n.ctr && rightN n.own
def encN (p : Str × Nd) : Str := blob p.1 ++ (blob p.2.data ++ (vput p.2.ver.toNat ++ (vput p.2.ctr.toNat ++ vput p.2.own.toNat)))
def encL (x : St) : Str := x.flatMap encN
def encS (st : St) : Str := if (srt st).all (fun p => numsOk p.2) then encL (srt st) else []
/-! ### what bytes tell -/
def more (n : Nd) : Nd := { n with kids := IntKind.i64.wrap (n.kids + 1) }
def lay (st : St) (last p : Str) (n : Nd) : Option St :=
  if parts p = none ∨ p ≤ last ∨ 256 < n.data.length ∨ 10000000000 < n.ctr ∨ (n.own ≠ 0 ∧ 0 < n.ctr) then none
  else if last = [] then (if p = [47] ∧ n.data = [] ∧ n.ver = 0 ∧ n.own = 0 then some (st ++ [(p, n)]) else none)
  else match parent p with
    | none => none
    | some u => match st.lookup u with
      | none => none
      | some m => if m.own ≠ 0 then none else some (modN st u more ++ [(p, n)])
/-- one node off a reader -/
def rnode (r : Rd) : (Str × Nd) × Rd :=
  let a := rblob r
  let b := rblob a.2
  let c := rnum b.2
  let d := rnum c.2
  let e := rnum d.2
  ((a.1, ⟨c.1, d.1, e.1, 0, b.1⟩), e.2)
def decL : Nat → Rd → St → Str → Option St
  | 0, _, _, _ => none
  | f + 1, r, st, last =>
    if r.rest = [] ∧ last ≠ [] then some st
    else if (rnode r).2.err ≠ 0 then none
    else match lay st last (rnode r).1.1 (rnode r).1.2 with
      | none => none
      | some st' => decL f (rnode r).2 st' (rnode r).1.1
def dec (b : Str) : Option St :=
  match decL (b.length + 1) ⟨b, 0⟩ [] [] with
  | none => none
  | some st => if st.all fun p => decide (p.2.kids ≤ p.2.ctr) then some st else none

/-- the kids that stand ahead -/
def pre (a : St) : St := a.map fun p => (p.1, { p.2 with kids := (kc (a.map (·.1)) p.1 : Nat) })
theorem prefix_lt {a b : Str} (h : a <+: b) (hn : a ≠ b) : a < b := by
  obtain ⟨t, rfl⟩ := h
  induction a with
  | nil =>
    cases t with
    | nil => exact absurd rfl hn
    | cons c t => exact List.nil_lt_cons c t
  | cons c a ih =>
    rw [List.cons_append, List.cons_lt_cons_iff]
    exact .inr ⟨rfl, ih fun h => hn (by rw [List.cons_append, ← h])⟩
theorem parent_lt {p u : Str} (h : parent p = some u) : u < p := by
  have hne := parent_ne h
  refine prefix_lt ?_ hne.symm
  unfold parent at h
  cases hp : parts p with
  | none => rw [hp] at h; cases h
  | some ps =>
    rw [hp] at h
    simp only at h
    split at h
    · cases h
    · rename_i hps
      cases h
      obtain ⟨hl, hg⟩ := parts_iff.1 hp
      rw [hl]
      have e := List.dropLast_concat_getLast hps
      conv => rhs; rw [← e, mk_snoc]
      by_cases h0 : ps.dropLast = []
      · rw [h0, if_pos rfl]
        exact ⟨ps.getLast hps, rfl⟩
      · rw [if_neg h0]
        exact List.prefix_append _ _
/-- what a tree that can be told is, beside its shape -/
structure Inv3 (st : St) : Prop where
  inv : Inv st
  nums : ∀ k n, st.lookup k = some n → numsOk n = true ∧ (n.own ≠ 0 → n.ctr = 0)
  rt : ∀ n, st.lookup [47] = some n → n.data = [] ∧ n.ver = 0 ∧ n.own = 0
end Go.Proofs.YthfpmipeejjogaaGreatDoor.Zt

/- What was written of a tree is read back. -/
namespace Go.Proofs.YthfpmipeejjogaaGreatDoor.Zt
open Go Go.Proofs.YthfpmipeejjogaaGreatDoor.SL Go.Proofs.YthfpmipeejjogaaGreatDoor.Pa Go.Proofs.YthfpmipeejjogaaGreatDoor.Wi
set_option linter.unusedSimpArgs false
set_option linter.unusedVariables false

theorem kc_perm' {a b : List Str} (h : a.Perm b) (u : Str) : kc a u = kc b u := by unfold kc; exact h.countP_eq _
theorem inv_perm {a b : St} (h : a.Perm b) (hi : Inv a) : Inv b := by
  have hl := lookup_perm h hi.keys
  refine ⟨(h.map _).nodup_iff.1 hi.keys, ?_, fun k n hk => ?_, fun k n hk hne => ?_, fun k n hk => ?_, fun k n hk => ?_, fun k n hk => ?_⟩
  · obtain ⟨n, hn⟩ := hi.root; exact ⟨n, by rw [← hl]; exact hn⟩
  · exact hi.path k n (by rw [hl]; exact hk)
  · obtain ⟨u, m, h1, h2, h3⟩ := hi.up k n (by rw [hl]; exact hk) hne
    exact ⟨u, m, h1, by rw [← hl]; exact h2, h3⟩
  · rw [hi.kids k n (by rw [hl]; exact hk), kc_perm' (h.map _)]
  · exact hi.ctr k n (by rw [hl]; exact hk)
  · exact hi.data k n (by rw [hl]; exact hk)
theorem inv3_perm {a b : St} (h : a.Perm b) (hi : Inv3 a) : Inv3 b := by
  have hl := lookup_perm h hi.inv.keys
  exact ⟨inv_perm h hi.inv, fun k n hk => hi.nums k n (by rw [hl]; exact hk), fun n hk => hi.rt n (by rw [hl]; exact hk)⟩
theorem path_ne {p : Str} {ps : List Str} (h : parts p = some ps) : p ≠ [] := fun e => by
  obtain ⟨hl, _⟩ := parts_iff.1 h
  obtain ⟨r, hr⟩ := mk_head ps
  rw [e, hr] at hl; cases hl
theorem kc_le (ks : List Str) (u : Str) : kc ks u ≤ ks.length := by unfold kc; exact List.countP_le_length
theorem encS_eq {st : St} (hi : Inv3 st) : encS st = encL (srt st) := by
  unfold encS
  rw [if_pos]
  rw [List.all_eq_true]
  intro p hp
  have h3 := inv3_perm (srt_perm st).symm hi
  exact (h3.nums _ _ ((lookup_iff (srt_srt hi.inv.keys).nodup (k := p.1) (n := p.2)).2 hp)).1
end Go.Proofs.YthfpmipeejjogaaGreatDoor.Zt

/- Rows whose elements take several cells. Generic over any program. -/
namespace Go.Proofs.YthfpmipeejjogaaGreatDoor.SL
open Go
set_option linter.unusedVariables false
set_option linter.unusedSimpArgs false
variable {P : Program} {B : World} {ro σ σ' : AH} {tag tag' : Nat → Nat}

theorem flat_len {w : Nat} : ∀ {l : List (List Value)}, (∀ x ∈ l, x.length = w) → l.flatten.length = l.length * w := by
  intro l
  induction l with
  | nil => intro _; simp
  | cons x l ih => intro h; rw [List.flatten_cons, List.length_append, h x (by simp), ih fun y hy => h y (by simp [hy]), List.length_cons, Nat.add_mul]; omega
theorem flat_get {w : Nat} : ∀ {l : List (List Value)}, (∀ x ∈ l, x.length = w) → ∀ {j : Nat} {x : List Value} {i : Nat}, l[j]? = some x → i < w → l.flatten[j * w + i]? = x[i]? := by
  intro l
  induction l with
  | nil => intro _ j x i h; cases h
  | cons y l ih =>
    intro h j x i hj hi
    rw [List.flatten_cons]
    have hy := h y (by simp)
    rcases j with _ | j
    · cases hj
      rw [Nat.zero_mul, Nat.zero_add, List.getElem?_append_left (by omega)]
    · rw [List.getElem?_append_right (by rw [hy, Nat.add_mul]; omega), hy, show (j + 1) * w + i - w = j * w + i by rw [Nat.add_mul]; omega]
      exact ih (fun z hz => h z (by simp [hz])) (by simpa using hj) hi
theorem flat_set {w : Nat} : ∀ {l : List (List Value)}, (∀ x ∈ l, x.length = w) → ∀ {j : Nat} {x : List Value} {i : Nat} (v : Value), l[j]? = some x → i < w → l.flatten.set (j * w + i) v = (l.set j (x.set i v)).flatten := by
  intro l
  induction l with
  | nil => intro _ j x i v h; cases h
  | cons y l ih =>
    intro h j x i v hj hi
    have hy := h y (by simp)
    rcases j with _ | j
    · cases hj
      rw [List.flatten_cons, Nat.zero_mul, Nat.zero_add, List.set_append_left _ _ (by omega)]; rfl
    · rw [List.flatten_cons, List.set_append_right _ _ (by rw [hy, Nat.add_mul]; omega), hy, show (j + 1) * w + i - w = j * w + i by rw [Nat.add_mul]; omega, ih (fun z hz => h z (by simp [hz])) v (by simpa using hj) hi]
      rfl

/-- a row of elements of w cells each, of one role -/
def RowW (tag : Nat → Nat) (σ : AH) (r : Nat) (e : TypeId) (w : Nat) (s : Sl) (l : List (List Value)) : Prop :=
  (s = ⟨none, 0, 0⟩ ∧ l = []) ∨ ∃ (b : Nat) (cs : Array Value), s.a = some ⟨b, 0, none⟩ ∧ tag b = r ∧ σ b = some (.cells cs e) ∧ s.len = l.length ∧ cs.size = s.cap * w ∧ s.len ≤ s.cap ∧ (∀ x ∈ l, x.length = w) ∧ ∀ (i : Nat) (v : Value), l.flatten[i]? = some v → cs[i]? = some v
theorem RowW.nil (r : Nat) (e : TypeId) (w : Nat) : RowW tag σ r e w ⟨none, 0, 0⟩ [] := .inl ⟨rfl, rfl⟩
theorem RowW.len {r : Nat} {e : TypeId} {w : Nat} {s : Sl} {l : List (List Value)} (h : RowW tag σ r e w s l) : s.len = l.length := by
  rcases h with ⟨rfl, rfl⟩ | ⟨b, cs, _, _, _, h, _⟩
  · rfl
  · exact h
theorem RowW.cap {r : Nat} {e : TypeId} {w : Nat} {s : Sl} {l : List (List Value)} (h : RowW tag σ r e w s l) : s.len ≤ s.cap := by
  rcases h with ⟨rfl, rfl⟩ | ⟨b, cs, _, _, _, _, _, h, _⟩
  · exact Nat.le_refl _
  · exact h
theorem RowW.wide {r : Nat} {e : TypeId} {w : Nat} {s : Sl} {l : List (List Value)} (h : RowW tag σ r e w s l) : ∀ x ∈ l, x.length = w := by
  rcases h with ⟨rfl, rfl⟩ | ⟨b, cs, _, _, _, _, _, _, h, _⟩
  · intro x hx; cases hx
  · exact h
theorem RowW.keep {R : List Nat} {r : Nat} {e : TypeId} {w : Nat} {s : Sl} {l : List (List Value)} (h : RowW tag σ r e w s l) (k : Step R ro tag σ tag' σ') (hr : r ∉ R) : RowW tag' σ' r e w s l := by
  rcases h with h | ⟨b, cs, ha, ht, hs, hx⟩
  · exact .inl h
  · obtain ⟨t, e⟩ := k.keep b _ hs (by rw [ht]; exact hr)
    exact .inr ⟨b, cs, ha, t.trans ht, e, hx⟩
theorem RowW.keepC {c r : Nat} {e : TypeId} {w : Nat} {s : Sl} {l : List (List Value)} (h : RowW tag σ r e w s l) (k : StepC c ro tag σ tag' σ') (hr : r % 64 ≠ c) : RowW tag' σ' r e w s l := by
  obtain ⟨R, h1, h2⟩ := k
  exact h.keep h2 fun m => hr (h1 _ m)
/-- what stands in an element -/
theorem RowW.get {r : Nat} {e : TypeId} {w : Nat} {s : Sl} {l : List (List Value)} (h : RowW tag σ r e w s l) (hs : Sep ro σ) {j : Nat} {x : List Value} (hj : l[j]? = some x) :
    ∃ b, s.a = some ⟨b, 0, none⟩ ∧ tag b = r ∧ ∀ i v, x[i]? = some v → acell ro σ ⟨b, j * w + i, none⟩ = some v := by
  rcases h with ⟨_, rfl⟩ | ⟨b, cs, ha, ht, hb, hln, hc, hle, hw, hg⟩
  · cases hj
  · refine ⟨b, ha, ht, fun i v hv => ?_⟩
    have hx : x.length = w := hw x (List.mem_of_getElem? hj)
    have hi : i < w := by
      rcases Nat.lt_or_ge i w with h | h
      · exact h
      · rw [List.getElem?_eq_none (by omega)] at hv; cases hv
    have := hg (j * w + i) v (by rw [flat_get hw hj hi]; exact hv)
    unfold acell rd
    simp only [hs b _ hb, hb, cellOf]
    exact this
theorem RowW.block {r : Nat} {e : TypeId} {w : Nat} {b n c : Nat} {l : List (List Value)} (h : RowW tag σ r e w ⟨some ⟨b, 0, none⟩, n, c⟩ l) : tag b = r ∧ ∃ cs, σ b = some (.cells cs e) ∧ cs.size = c * w := by
  rcases h with ⟨h, _⟩ | ⟨b', cs, ha, ht, hb, _, hc, _⟩
  · cases h
  · cases ha; exact ⟨ht, cs, hb, hc⟩
/-- a cell of an element anew -/
theorem RowW.st {r : Nat} {e : TypeId} {w : Nat} {s : Sl} {l : List (List Value)} {b j i : Nat} {x : List Value} {v : Value} {K : AH → Prop} (h : RowW tag σ r e w s l) (hs : Sep ro σ) (ha : s.a = some ⟨b, 0, none⟩) (hj : l[j]? = some x) (hi : i < w) (hv : storable v = true)
    (hK : ∀ σ', Step [r] ro tag σ tag σ' → RowW tag σ' r e w s (l.set j (x.set i v)) → K σ') : stN ⟨b, j * w + i, none⟩ K [v] 0 σ := by
  rcases h with ⟨_, rfl⟩ | ⟨b', cs, ha', ht, hb, hln, hc, hle, hw, hg⟩
  · cases hj
  · rw [ha] at ha'; cases ha'
    have hjl : j < l.length := by
      rcases Nat.lt_or_ge j l.length with h | h
      · exact h
      · rw [List.getElem?_eq_none h] at hj; cases hj
    have hlt : j * w + i < cs.size := by
      rw [hc]
      have : (j + 1) * w ≤ s.cap * w := Nat.mul_le_mul_right _ (by omega)
      rw [Nat.add_mul] at this; omega
    have hfl := flat_len hw
    have hfi : j * w + i < l.flatten.length := by
      rw [hfl]
      have : (j + 1) * w ≤ l.length * w := Nat.mul_le_mul_right _ (by omega)
      rw [Nat.add_mul] at this; omega
    refine ⟨hv, by simp, cs, e, (0, 0), by simpa using hb, by simpa using hlt, by simp, ?_⟩
    simp only [add_zero, stN]
    refine hK _ (step_obj hs ht hb) (.inr ⟨b, _, ha, ht, upd_same _ _ _, by simp [hln], by simp [hc], hle, ?_, ?_⟩)
    · intro y hy
      rcases List.mem_or_eq_of_mem_set hy with h | h
      · exact hw y h
      · rw [h, List.length_set]; exact hw x (List.mem_of_getElem? hj)
    · intro k u hk
      rw [← flat_set hw v hj hi] at hk
      by_cases hkj : j * w + i = k
      · subst hkj
        rw [List.getElem?_set_self hfi] at hk
        rw [Array.getElem?_setIfInBounds_self_of_lt hlt]; exact hk
      · rw [List.getElem?_set_ne hkj] at hk
        rw [Array.getElem?_setIfInBounds_ne hkj]; exact hg k u hk

/-- elements of w cells in memory, wherever -/
def ReadW (ro σ : AH) (w : Nat) (s : Sl) (l : List (List Value)) : Prop := s.len = l.length ∧ (s.a = none → l = []) ∧ (∀ x ∈ l, x.length = w) ∧ ∀ p, s.a = some p → ∀ (i : Nat) (v : Value), l.flatten[i]? = some v → acell ro σ (p.add i) = some v
theorem RowW.read {r : Nat} {e : TypeId} {w : Nat} {s : Sl} {l : List (List Value)} (h : RowW tag σ r e w s l) (hs : Sep ro σ) : ReadW ro σ w s l := by
  refine ⟨h.len, fun hn => ?_, h.wide, fun p hp i v hv => ?_⟩
  · rcases h with ⟨_, rfl⟩ | ⟨b, cs, ha, _⟩
    · rfl
    · rw [hn] at ha; cases ha
  · rcases h with ⟨_, rfl⟩ | ⟨b, cs, ha, ht, hb, _, _, _, _, hg⟩
    · cases hv
    · rw [hp] at ha; cases ha
      unfold acell rd
      simp only [add_add, Nat.zero_add, hs b _ hb, hb, cellOf]
      exact hg i v hv
theorem ReadW.flat {w : Nat} {s : Sl} {l : List (List Value)} (h : ReadW ro σ w s l) : l.flatten.length = s.len * w := by rw [flat_len h.2.2.1, h.1]
theorem ReadW.keep {w : Nat} {s : Sl} {l : List (List Value)} (h : ReadW ro (fun _ => none) w s l) : ReadW ro σ w s l := by
  refine ⟨h.1, h.2.1, h.2.2.1, fun p hp i v hv => ?_⟩
  have := h.2.2.2 p hp i v hv
  unfold acell rd at this ⊢
  cases e : ro (p.add i).block with
  | some o => rw [e] at this; exact this
  | none => rw [e] at this; simp [cellOf] at this
theorem ReadW.step {w : Nat} {s : Sl} {l : List (List Value)} (h : ReadW ro σ w s l) (k : Step [] ro tag σ tag' σ') : ReadW ro σ' w s l := by
  refine ⟨h.1, h.2.1, h.2.2.1, fun p hp i v hv => ?_⟩
  have := h.2.2.2 p hp i v hv
  unfold acell rd at this ⊢
  cases e : ro (p.add i).block with
  | some o => rw [e] at this; exact this
  | none =>
    rw [e] at this
    simp only at this ⊢
    cases e2 : σ (p.add i).block with
    | none => rw [e2] at this; simp [cellOf] at this
    | some o => rw [(k.keep _ o e2 (by simp)).2]; rw [e2] at this; exact this

theorem awp_appendW {r : Nat} {e t : TypeId} {w : Nat} {s s2 : Sl} {l l2 : List (List Value)} {zv : Value} {bytes : Nat} {ty : TypeId} {Q : Value → AH → Prop} (h : RowW tag σ r e w s l) (hs : Sep ro σ) (h2 : ReadW ro σ w s2 l2)
    (ht : P.underlying t = some (.slice e)) (hz : TyIs P e zv w bytes) (hzc : zv.cells.size = w) (hv : ∀ x ∈ l2, ∀ v ∈ x, storable v = true) (hb : (l.length + l2.length) * bytes ≤ 140737488355328) (hb0 : 0 < bytes)
    (hK : ∀ s' tag' σ', (∀ R, s.len = s.cap ∨ r ∈ R → Step R ro tag σ tag' σ') → RowW tag' σ' r e w s' (l ++ l2) → Q (Sl.v s') σ') :
    awp P ro (Builtin.append_ #[t, t] ty #[Sl.v s, Sl.v s2]) Q σ := by
  obtain ⟨i, hi, hiz, his, hib⟩ := hz
  have hz : TyIs P e zv w bytes := ⟨i, hi, hiz, his, hib⟩
  have g0 : (#[t, t] : Array TypeId)[0]? = some t := rfl
  have g1 : (#[t, t] : Array TypeId)[1]? = some t := rfl
  have g2 : (#[Value.slice s.a s.len s.cap, Value.slice s2.a s2.len s2.cap] : Array Value)[0]? = some (Value.slice s.a s.len s.cap) := rfl
  have g3 : (#[Value.slice s.a s.len s.cap, Value.slice s2.a s2.len s2.cap] : Array Value)[1]? = some (Value.slice s2.a s2.len s2.cap) := rfl
  have hln := h2.1
  have hfl2 := h2.flat
  have hvf : ∀ v ∈ l2.flatten, storable v = true := fun v hm => by
    obtain ⟨x, hx, hm⟩ := List.mem_flatten.1 hm
    exact hv x hx v hm
  have hld : ∀ {β : Type} (f : Array Value → Sem β) (Q : β → AH → Prop), awp P ro (f l2.flatten.toArray) Q σ → awp P ro (Sem.bind (Builtin.firstCells w s2.len (.slice s2.a s2.len s2.cap)) f) Q σ := by
    intro β f Q hf
    cases hsa : s2.a with
    | none =>
      rw [h2.2.1 hsa] at hf
      exact hf
    | some p =>
      rw [show Sem.bind (Builtin.firstCells w s2.len (.slice (some p) s2.len s2.cap)) f = (loadCells p (s2.len * w)) >>= f from rfl, awp_bind, ← hfl2]
      exact awp_loadCells l2.flatten 0 #[] (cellsAt_of 0 fun j v hj => by rw [Nat.zero_add]; exact h2.2.2.2 p hsa j v hj) (by simpa using hf)
  have hfs : ∀ {β : Type} (f : Array Value → Sem β) (Q : β → AH → Prop), awp P ro (f l.flatten.toArray) Q σ → awp P ro (Sem.bind (Builtin.firstCells w s.len (.slice s.a s.len s.cap)) f) Q σ := by
    intro β f Q hf
    have hr := h.read hs
    cases hsa : s.a with
    | none =>
      rw [hr.2.1 hsa] at hf
      exact hf
    | some p =>
      rw [show Sem.bind (Builtin.firstCells w s.len (.slice (some p) s.len s.cap)) f = (loadCells p (s.len * w)) >>= f from rfl, awp_bind, ← hr.flat]
      exact awp_loadCells l.flatten 0 #[] (cellsAt_of 0 fun j v hj => by rw [Nat.zero_add]; exact hr.2.2.2 p hsa j v hj) (by simpa using hf)
  have hwide : ∀ x ∈ l ++ l2, x.length = w := fun x hx => by
    rcases List.mem_append.1 hx with h' | h'
    · exact h.wide x h'
    · exact h2.2.2.1 x h'
  have hfl := flat_len h.wide
  unfold Builtin.append_
  simp only [Sl.v, bind_def, pure_def, g0, g1, g2, g3]
  rw [awp_underlying ht]
  simp only []
  rw [awp_size hz]
  rw [awp_underlying ht]
  simp only [bind_pure', Builtin.lenOf, bind_def, pure_def, Bool.false_eq_true, if_false, Bool.not_false, if_true, false_or]
  split
  · rename_i hroom
    refine hld _ _ ?_
    rcases h with ⟨rfl, rfl⟩ | ⟨b, cs, ha, htg, hbk, hln1, hcp, hle, hwl, hg⟩
    · have h0 : l2 = [] := List.eq_nil_of_length_eq_zero (by simp at hroom; omega)
      subst h0
      have hs2 : s2.len = 0 := hln
      show Q (.slice none (0 + s2.len) 0) σ
      rw [hs2]
      exact hK ⟨none, 0, 0⟩ tag σ (fun _ _ => Step.refl hs) (.inl ⟨rfl, rfl⟩)
    · have h' : RowW tag σ r e w s l := .inr ⟨b, cs, ha, htg, hbk, hln1, hcp, hle, hwl, hg⟩
      by_cases h0 : l2 = []
      · subst h0
        have hs2 : s2.len = 0 := hln
        simp only [ha]
        show Q (Value.slice (some ⟨b, 0, none⟩) (s.len + s2.len) s.cap) σ
        rw [hs2, Nat.add_zero]
        have := hK s tag σ (fun _ _ => Step.refl hs) (by rw [List.append_nil]; exact h')
        unfold Sl.v at this
        rw [ha] at this; exact this
      have hpos := List.length_pos_iff.2 h0
      simp only [ha]
      show awp P ro (storeCells (Addr.add ⟨b, 0, none⟩ (s.len * w)) l2.flatten >>= fun _ => Sem.pure (Value.slice (some ⟨b, 0, none⟩) (s.len + s2.len) s.cap)) Q σ
      rw [awp_bind, add_add, Nat.zero_add]
      have hcm : (s.len + s2.len) * w ≤ s.cap * w := Nat.mul_le_mul_right _ hroom
      rw [Nat.add_mul] at hcm
      refine awp_storeCells l2.flatten 0 σ (stN_blk l2.flatten cs 0 σ hbk (by rw [hcp, hfl2]; omega) hvf fun cs' c1 c2 c3 => ?_)
      show Q (Value.slice (some ⟨b, 0, none⟩) (s.len + s2.len) s.cap) _
      refine hK ⟨some ⟨b, 0, none⟩, s.len + s2.len, s.cap⟩ tag _ (fun R hR => (step_obj hs htg hbk).mono fun x hx => by rw [List.mem_singleton] at hx; rw [hx]; exact hR.resolve_left (by omega)) (.inr ⟨b, cs', rfl, htg, upd_same _ _ _, by simp [hln1, hln], by rw [c1]; exact hcp, hroom, hwide, fun i v hi => ?_⟩)
      rw [List.flatten_append] at hi
      rcases Nat.lt_or_ge i l.flatten.length with hh | hh
      · rw [List.getElem?_append_left hh] at hi
        rw [c2 i (by rw [hfl, ← hln1] at hh; omega)]; exact hg i v hi
      · rw [List.getElem?_append_right hh] at hi
        have := c3 (i - l.flatten.length) v hi
        rw [← this]
        congr 1; rw [hfl, ← hln1] at hh ⊢; omega
  · rename_i hroom
    rw [awp_typeInfo hi]
    rw [if_neg (by rw [hib]; omega)]
    rw [awp_typeInfo hi]
    have hl := h.len
    rw [if_neg (by rw [hib]; have := growslice_fits (need := s.len + s2.len) (old := s.cap) (bytes := bytes) (by omega) (by rw [hl, hln]; exact hb); omega)]
    refine awp_choose rfl (fun n => ?_)
    rw [awp_typeInfo hi]
    refine awp_askRoom ?_
    have hcut : s.len + s2.len ≤ (Question.appendCap (s.len + s2.len) s.cap e).cut n := by simp only [Question.cut]; omega
    generalize (Question.appendCap (s.len + s2.len) s.cap e).cut n = N at hcut
    refine hfs _ _ ?_
    refine hld _ _ ?_
    rw [awp_zero hz]
    show ∀ b, ro b = none → σ b = none → Q (Value.slice (some ⟨b, 0, none⟩) (s.len + s2.len) N) (upd σ b _)
    intro b hro hb
    refine hK ⟨some ⟨b, 0, none⟩, s.len + s2.len, N⟩ (setTag tag b r) _ (fun _ _ => Step.fresh hs hro hb) (.inr ⟨b, _, rfl, by simp [setTag], upd_same _ _ _, by simp [hl, hln], ?_, hcut, hwide, fun i v hi => ?_⟩)
    · have e1 : (Builtin.zeroCells zv.cells (N - (s.len + s2.len))).size = (N - (s.len + s2.len)) * w := by simp [Builtin.zeroCells, hzc]
      rw [Array.size_append, Array.size_append, e1, List.size_toArray, List.size_toArray, hfl2, hfl, ← hl, ← Nat.add_mul, ← Nat.add_mul]
      congr 1; simp only; omega
    · rw [List.flatten_append] at hi
      have hlt : i < (l.flatten ++ l2.flatten).length := by
        rcases Nat.lt_or_ge i (l.flatten ++ l2.flatten).length with h | h
        · exact h
        · rw [List.getElem?_eq_none h] at hi; cases hi
      rw [Array.getElem?_append_left (by simpa using hlt)]
      simpa using hi
end Go.Proofs.YthfpmipeejjogaaGreatDoor.SL

/- Builtin copy, cap; a row that is made longer in its own room. Generic over any program. -/
namespace Go.Proofs.YthfpmipeejjogaaGreatDoor.SL
open Go
set_option linter.unusedVariables false
set_option linter.unusedSimpArgs false
variable {P : Program} {B : World} {ro σ σ' : AH} {tag tag' : Nat → Nat}

theorem awp_cap {t e ty : TypeId} {s : Sl} {Q : Value → AH → Prop} (ht : P.underlying t = some (.slice e)) (h : Q (.int .i64 (s.cap : Int)) σ) : awp P ro (Builtin.cap_ #[t] ty #[Sl.v s]) Q σ := by
  have g0 : (#[t] : Array TypeId)[0]? = some t := rfl
  have g1 : (#[Value.slice s.a s.len s.cap] : Array Value)[0]? = some (Value.slice s.a s.len s.cap) := rfl
  unfold Builtin.cap_
  simp only [Sl.v, bind_def, pure_def, g0, g1]
  rw [awp_underlying ht]
  exact h
/-- what copy and append read -/
structure Src (P : Program) (ro σ : AH) (x : Value) (l : List Value) : Prop where
  len : ∀ {β : Type} (f : Nat → Sem β) (Q : β → AH → Prop), awp P ro (f l.length) Q σ → awp P ro (Sem.bind (Builtin.lenOf x) f) Q σ
  cells : ∀ {β : Type} (f : Array Value → Sem β) (Q : β → AH → Prop), awp P ro (f l.toArray) Q σ → awp P ro (Sem.bind (Builtin.firstCells 1 l.length x) f) Q σ
theorem Read.src {s : Sl} {l : List Value} (h : Read ro σ s l) : Src P ro σ (Sl.v s) l := by
  refine ⟨fun f Q hf => ?_, fun f Q hf => ?_⟩
  · rw [← h.1] at hf; exact hf
  · unfold Sl.v
    cases hsa : s.a with
    | none =>
      rw [h.2.1 hsa] at hf ⊢
      exact hf
    | some p =>
      rw [show Sem.bind (Builtin.firstCells 1 l.length (.slice (some p) s.len s.cap)) f = (loadCells p (l.length * 1)) >>= f from rfl, awp_bind, Nat.mul_one]
      exact awp_loadCells l 0 #[] (cellsAt_of 0 fun j v hj => by rw [Nat.zero_add]; exact h.2.2 p hsa j v hj) (by simpa using hf)
theorem str_src (b : ByteArray) : Src P ro σ (.string b) ((L b).map fun c => .int .u8 c.toNat) := by
  refine ⟨fun f Q hf => ?_, fun f Q hf => ?_⟩
  · rw [List.length_map, L_len] at hf; exact hf
  · rw [List.length_map, L_len]
    show awp P ro (f ((b.extract 0 b.size).data.map fun c => .int .u8 c.toNat)) Q σ
    rw [show b.extract 0 b.size = b from by rw [S_ext, List.take_of_length_le (by rw [L_len]; exact Nat.le_refl _)]; exact S_L b]
    have e : ((L b).map fun c => Value.int .u8 c.toNat).toArray = b.data.map fun c => .int .u8 c.toNat := by unfold L; rw [← Array.toList_map]
    rw [← e]; exact hf
/-- copy into the end of a row, filling it -/
theorem awp_copyTail {r e t t2 ty : TypeId} {s : Sl} {l l2 : List Value} {m bytes : Nat} {x zv : Value} {Q : Value → AH → Prop} (h : Row tag σ r e s l) (hs : Sep ro σ) (ht : P.underlying t = some (.slice e)) (hz : TyIs P e zv 1 bytes)
    (hx : Src P ro σ x l2) (hm : m + l2.length = l.length) (hv : ∀ v ∈ l2, storable v = true) (hQ : ∀ σ', Step [r] ro tag σ tag σ' → Row tag σ' r e s (l.take m ++ l2) → Q (.int .i64 (l2.length : Int)) σ') :
    awp P ro (Builtin.copy_ #[t, t2] ty #[Sl.v (⟨cutA s.a m s.cap 1, s.len - m, s.cap - m⟩ : Sl), x]) Q σ := by
  have g0 : (#[t, t2] : Array TypeId)[0]? = some t := rfl
  have g1 : (#[Value.slice (cutA s.a m s.cap 1) (s.len - m) (s.cap - m), x] : Array Value)[0]? = some (Value.slice (cutA s.a m s.cap 1) (s.len - m) (s.cap - m)) := rfl
  have g2 : (#[Value.slice (cutA s.a m s.cap 1) (s.len - m) (s.cap - m), x] : Array Value)[1]? = some x := rfl
  have hl := h.len
  unfold Builtin.copy_
  simp only [Sl.v, bind_def, pure_def, g0, g1, g2]
  rw [awp_underlying ht]
  simp only []
  refine hx.len _ _ ?_
  rw [awp_size hz]
  rw [show Nat.min l2.length (s.len - m) = l2.length from Nat.min_eq_left (by omega)]
  refine hx.cells _ _ ?_
  have done : l2 = [] → Q (.int .i64 (l2.length : Int)) σ := fun e0 => hQ σ (Step.refl hs) (by
    rw [e0, List.append_nil, List.take_of_length_le (by rw [e0] at hm; simp at hm; omega)]; exact h)
  rcases h with ⟨rfl, rfl⟩ | ⟨b, cs, ha, htg, hbk, hln, hcp, hle, hg⟩
  · have h0 : l2 = [] := List.eq_nil_of_length_eq_zero (by simp only [List.length_nil] at hm; omega)
    rw [show cutA none m 0 1 = none from by unfold cutA; split <;> rfl]
    exact done h0
  · by_cases h0 : l2 = []
    · unfold cutA
      have := done h0
      subst h0
      split
      · exact this
      · exact this
    · have hpos := List.length_pos_iff.2 h0
      unfold cutA
      rw [if_neg (by omega), ha]
      simp only [Option.map_some, Nat.mul_one, add_add, Nat.zero_add]
      show awp P ro (storeCells ⟨b, m, none⟩ l2 >>= fun _ => Sem.pure (goInt l2.length)) Q σ
      rw [awp_bind]
      refine awp_storeCells l2 0 σ (stN_blk l2 cs 0 σ hbk (by omega) hv fun cs' c1 c2 c3 => ?_)
      refine hQ _ (step_obj hs htg hbk) (.inr ⟨b, cs', ha, htg, upd_same _ _ _, by simp; omega, by rw [c1]; exact hcp, hle, fun i hi => ?_⟩)
      simp at hi
      rcases Nat.lt_or_ge i m with hh | hh
      · rw [c2 i (by omega), List.getElem?_append_left (by simp; omega), List.getElem?_take, if_pos hh]; exact hg i (by omega)
      · have e1 : (l.take m).length = m := by simp; omega
        rw [List.getElem?_append_right (by omega), e1]
        have := c3 (i - m) _ (List.getElem?_eq_getElem (by omega))
        rw [List.getElem?_eq_getElem (by omega), ← this]
        congr 1; omega
/-- a row is longer now, in its own room: what stands there is something -/
theorem Row.more {r : Nat} {e : TypeId} {s : Sl} {l : List Value} (h : Row tag σ r e s l) {n : Nat} (hn : l.length + n ≤ s.cap) : ∃ xs : List Value, xs.length = n ∧ Row tag σ r e ⟨s.a, l.length + n, s.cap⟩ (l ++ xs) := by
  rcases h with ⟨rfl, rfl⟩ | ⟨b, cs, ha, htg, hbk, hln, hcp, hle, hg⟩
  · have : n = 0 := by simpa using hn
    subst this
    exact ⟨[], rfl, .inl ⟨rfl, rfl⟩⟩
  · refine ⟨(cs.toList.drop l.length).take n, by simp; omega, .inr ⟨b, cs, ha, htg, hbk, by simp; omega, hcp, hn, fun i hi => ?_⟩⟩
    rcases Nat.lt_or_ge i l.length with h1 | h1
    · rw [List.getElem?_append_left h1]; exact hg i h1
    · simp at hi
      rw [List.getElem?_append_right h1, List.getElem?_take, if_pos (by omega), List.getElem?_drop]
      simp only [Array.getElem?_toList]
      congr 1; omega
theorem Row.capAt {r : Nat} {e : TypeId} {s : Sl} {l : List Value} (h : Row tag σ r e s l) : l.length ≤ s.cap := by
  rcases h with ⟨rfl, rfl⟩ | ⟨b, cs, ha, htg, hbk, hln, hcp, hle, hg⟩
  · simp
  · omega
theorem cutA_zero (a : Option Addr) (c s : Nat) : cutA a 0 c s = a := by
  unfold cutA; split
  · rfl
  · cases a <;> simp [Nat.zero_mul, add_zero]
end Go.Proofs.YthfpmipeejjogaaGreatDoor.SL
