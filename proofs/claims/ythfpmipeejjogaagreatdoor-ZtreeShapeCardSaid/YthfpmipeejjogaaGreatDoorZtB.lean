/- The tree, the walk: New, find, check, Create. -/
import Derived.Test.YthfpmipeejjogaaGreatDoorZtA
namespace Go.Proofs.YthfpmipeejjogaaGreatDoor.Zt
open Go Go.Proofs.YthfpmipeejjogaaGreatDoor.SL Go.Proofs.YthfpmipeejjogaaGreatDoor.G Go.Proofs.YthfpmipeejjogaaGreatDoor.Pa
set_option linter.unusedSimpArgs false
set_option linter.unusedVariables false
variable {B : World} {ro σ σ' : AH} {tag tag' : Nat → Nat}

theorem u126 : Tryz.prog.underlying 126 = some (.map 9 129) := by kernel_rfl
theorem u9 : Tryz.prog.underlying 9 = some .string := by kernel_rfl
theorem u30 : Tryz.prog.underlying 30 = some (.slice 5) := by kernel_rfl
theorem ty129 : TyIs Tryz.prog 129 (.pointer none) 1 8 := TyIs.of (by kernel_rfl)

set_option maxRecDepth 100000 in
theorem clone_ok {s : Sl} {l : List Value} {Q : Sl → AH → Prop} (h : SL.Read ro σ s l) (hs : SL.Sep ro σ) (hl : l.length ≤ 140737488355328) (hv : ∀ v ∈ l, storable v = true) (hQ : ∀ s' tag' σ', (∀ R, Step R ro tag σ tag' σ') → Row tag' σ' 6 5 s' l → Q s' σ') : c_bytes_Clone B ro s σ Q := by
  refine bytes_Clone_ok fun _ => ?_
  unfold f_bytes_Clone
  by_cases h0 : s.a = none
  · rw [if_pos h0]
    rw [h.2.1 h0] at hQ
    exact hQ _ tag σ (fun _ => Step.refl hs) (Row.nil 6 5)
  · rw [if_neg h0]
    refine nw_cells (tag := tag) 6 hs fun b tag1 σ1 st1 r1 => ?_
    have h' : SL.Read ro σ1 s l := h.step (st1 [])
    refine awp_appendN r1 (st1 []).sep h' u30 ty5 rfl hv (by simp; omega) (by decide) fun s' tag2 σ2 st2 r2 => ?_
    exact ⟨s', rfl, hQ s' tag2 σ2 (fun R => (st1 R).trans (st2 R (.inl rfl))) r2⟩

def St.new : St := [([47], ⟨0, 0, 0, 0, []⟩)]
set_option maxRecDepth 100000 in
theorem new_ok {Q : Option Addr → AH → Prop} (r : Nat) (hr : r < 64) (hr6 : r ≠ 6) (hQ : ∀ T tag' σ', StepC r ro tag σ tag' σ' → TreeIs tag' σ' r T St.new → Q (some ⟨T, 0, none⟩) σ') : c_ztree_New B ro σ Q := by
  refine ztree_New_ok fun hs => ?_
  unfold f_ztree_New
  refine nw_map (tag := tag) (r + 64) hs fun M tag1 σ1 st1 m1 => ?_
  refine nw_cellsF (tag := tag1) (fun b => r + 64 * (b + 2)) (st1 []).sep fun b tag2 σ2 _ _ st2 r2 => ?_
  have m2 := m1.keep (st2 []) (by simp)
  refine awp_update_str (k := [47]) m2 (st2 []).sep u126 u9 fun σ3 st3 m3 => ?_
  have r3 := r2.keep st3 (by simp; omega)
  refine nw_cells (tag := tag2) r st3.sep fun T tag4 σ4 st4 r4 => ?_
  have st : StepC r ro tag σ tag4 σ4 := ((st1 []).c (by simp)).trans (((st2 []).c (by simp)).trans ((st3.c (by simp; omega)).trans ((st4 []).c (by simp))))
  refine hQ T tag4 σ4 st ⟨M, [b], by simp [St.new], rfl, by simp, r4, m3.keep (st4 []) (by simp), fun i c p hc hp => ?_⟩
  rcases i with _ | i
  · cases hc; cases hp
    exact ⟨⟨none, 0, 0⟩, r3.keep (st4 []) (by simp), Row.nil 6 5⟩
  · cases hc

set_option maxRecDepth 100000 in
/-- where a path stands -/
theorem find_ok {r T M : Nat} {bs : List Nat} {st : St} {p : ByteArray} {Q : Option Addr → Int → AH → Prop} (g : Glob ro) (h : TreeAt tag σ r T M bs st) (hs : SL.Sep ro σ) (hbad : parts (L p) = none → Q none 20 σ)
    (hmiss : ∀ ps, parts (L p) = some ps → st.lookup (L p) = none → Q none 70 σ) (hhit : ∀ (ps : List Str) (i b : Nat) (n : Nd), parts (L p) = some ps → bs[i]? = some b → st[i]? = some (L p, n) → st.lookup (L p) = some n → Q (some ⟨b, 0, none⟩) 0 σ) :
    c_ztree_Tree_find B ro (some ⟨T, 0, none⟩) p σ Q := by
  refine ztree_Tree_find_ok fun _ => ?_
  unfold f_ztree_Tree_find
  refine check_ok g ?_
  by_cases h1 : Pa.chk (L p) = 0
  · rw [if_neg (by simpa using h1)]
    obtain ⟨ps, hps⟩ := chk_zero.1 h1
    refine ⟨_, rfl, _, Row.cell1 h.cell hs, ?_⟩
    rw [← S_L p]
    refine awp_lookup_str h.map hs u126 u9 ty129 ?_
    rcases kv_lookup st bs (L p) h.len with ⟨a, e⟩ | ⟨i, b, n, a1, a2, a3, e⟩
    · rw [e]
      exact ⟨none, rfl, by rw [if_pos rfl]; exact hmiss ps hps a⟩
    · rw [e]
      exact ⟨some ⟨b, 0, none⟩, rfl, by rw [if_neg (by simp)]; exact hhit ps i b n hps a1 a2 a3⟩
  · rw [if_pos (by simpa using h1)]
    have e : parts (L p) = none := by
      cases h : parts (L p) with
      | none => rfl
      | some ps => exact absurd (chk_zero.2 ⟨ps, h⟩) h1
    have : Pa.chk (L p) = 20 := by unfold Pa.chk; rw [e]; rfl
    rw [this]; exact hbad e

set_option maxRecDepth 100000 in
theorem zcheck_ok {r T M : Nat} {bs : List Nat} {st : St} {p : ByteArray} {v : Int} {Q : Option Addr → Int → AH → Prop} (g : Glob ro) (h : TreeAt tag σ r T M bs st) (hs : SL.Sep ro σ) (hbad : (L p = [47] ∨ parts (L p) = none) → Q none 20 σ)
    (hmiss : L p ≠ [47] → ∀ ps, parts (L p) = some ps → st.lookup (L p) = none → Q none 70 σ)
    (hver : L p ≠ [47] → ∀ (ps : List Str) (n : Nd), parts (L p) = some ps → st.lookup (L p) = some n → v ≠ -1 → v ≠ n.ver → Q none 72 σ)
    (hhit : L p ≠ [47] → ∀ (ps : List Str) (i b : Nat) (n : Nd), parts (L p) = some ps → bs[i]? = some b → st[i]? = some (L p, n) → st.lookup (L p) = some n → (v = -1 ∨ v = n.ver) → Q (some ⟨b, 0, none⟩) 0 σ) :
    c_ztree_Tree_check B ro (some ⟨T, 0, none⟩) p v σ Q := by
  refine ztree_Tree_check_ok fun _ => ?_
  unfold f_ztree_Tree_check
  by_cases h1 : p = ⟨#[47]⟩
  · rw [if_pos h1]
    exact hbad (.inl (by rw [h1]; rfl))
  · rw [if_neg h1]
    have hne : L p ≠ [47] := fun h => h1 (L_inj h)
    refine find_ok g h hs (fun hb => ?_) (fun ps hps hl => ?_) (fun ps i b n hps hb hp hl => ?_)
    · rw [if_neg (by simp)]
      unfold j3_ztree_Tree_check
      rw [if_neg (by simp)]
      exact hbad (.inr hb)
    · rw [if_neg (by simp)]
      unfold j3_ztree_Tree_check
      rw [if_neg (by simp)]
      exact hmiss hne ps hps hl
    · by_cases h2 : v = -1
      · rw [if_neg (by simp [h2])]
        unfold j3_ztree_Tree_check
        rw [if_neg (by simp)]
        exact hhit hne ps i b n hps hb hp hl (.inl h2)
      · rw [if_pos ⟨rfl, h2⟩]
        obtain ⟨s, hn, _⟩ := h.nodes i b _ hb hp
        obtain ⟨q, hq, hg⟩ := hn.ptr hs (by simp)
        cases hq
        refine ⟨_, rfl, n.ver, hg 0 _ rfl, ?_⟩
        unfold j3_ztree_Tree_check
        by_cases h3 : v = n.ver
        · rw [if_neg (by simp [h3])]
          exact hhit hne ps i b n hps hb hp hl (.inr h3)
        · rw [if_pos (by simp [h3])]
          exact hver hne ps n hps hl h2 h3

/-! what the calls do -/
def bump (n : Nd) : Nd := { n with ctr := IntKind.i64.wrap (n.ctr + 1), kids := IntKind.i64.wrap (n.kids + 1) }
def create (st : St) (p : Str) (data : Str) (o : Int) (seq : Bool) : St × Str × Int :=
  match parent p with
  | none => (st, [], 20)
  | some u =>
    if 256 < data.length then (st, [], 75)
    else if o < 0 ∨ 4611686018427387903 < o then (st, [], 10)
    else match st.lookup u with
      | none => (st, [], 70)
      | some n =>
        if n.own ≠ 0 then (st, [], 74)
        else if 9999999999 < n.ctr then (st, [], 76)
        else match (if seq then suffix p n.ctr else some p) with
          | none => (st, [], 20)
          | some q => if (st.lookup q).isSome then (st, [], 71) else (modN (st ++ [(q, ⟨0, 0, o, 0, data⟩)]) u bump, q, 0)

theorem kv_app : ∀ (st : St) (bs : List Nat) (q : Str) (n : Nd) (b : Nat), bs.length = st.length → kv (st ++ [(q, n)]) (bs ++ [b]) = kv st bs ++ [(q, ptr b)] := by
  intro st
  induction st with
  | nil => intro bs q n b h; have : bs = [] := List.eq_nil_of_length_eq_zero h; subst this; rfl
  | cons p st ih =>
    intro bs q n b h
    cases bs with
    | nil => simp at h
    | cons c bs =>
      obtain ⟨p, m⟩ := p
      simp only [List.cons_append]
      unfold kv
      rw [ih bs q n b (by simpa using h)]; rfl
theorem kv_mput : ∀ (st : St) (bs : List Nat) (q : Str) (b : Nat), bs.length = st.length → st.lookup q = none → mput (kv st bs) q (ptr b) = kv st bs ++ [(q, ptr b)] := by
  intro st
  induction st with
  | nil => intro bs q b h _; cases bs <;> rfl
  | cons p st ih =>
    intro bs q b h hl
    cases bs with
    | nil => simp at h
    | cons c bs =>
      obtain ⟨p, m⟩ := p
      rw [List.lookup_cons] at hl
      by_cases e : q = p
      · subst e; simp at hl
      · rw [show (q == p) = false by simpa using e] at hl
        unfold kv mput
        rw [if_neg e, ih bs q b (by simpa using h) hl]; rfl
theorem lookup_none {st : St} {q : Str} (h : st.lookup q = none) : q ∉ st.map (·.1) := by
  intro hm
  obtain ⟨p, hp, e⟩ := List.mem_map.1 hm
  rw [List.lookup_eq_none_iff] at h
  have := h p hp
  simp at this
  exact this e.symm
/-- a new node -/
theorem TreeAt.add {r T M b : Nat} {bs : List Nat} {st : St} {q : Str} {n : Nd} {tag2 : Nat → Nat} {σ2 : AH} (h : TreeAt tag σ r T M bs st) (hr : r < 64) (hr6 : r ≠ 6) (hq : st.lookup q = none) (hb : σ b = none) (k : Step [r + 64] ro tag σ tag2 σ2) (hnew : NodeAt tag2 σ2 r b n) (hm : MapIs tag2 σ2 (r + 64) M (mput (kv st bs) q (ptr b))) : TreeAt tag2 σ2 r T M (bs ++ [b]) (st ++ [(q, n)]) := by
  have hnb : b ∉ bs := fun hm' => by
    obtain ⟨i, hi, e⟩ := List.getElem_of_mem hm'
    have hb' : bs[i]? = some b := by rw [List.getElem?_eq_getElem hi, e]
    have hil : i < st.length := by rw [← h.len]; exact hi
    obtain ⟨s, hn, _⟩ := h.nodes i b _ hb' (List.getElem?_eq_getElem hil)
    obtain ⟨_, o, ho⟩ := hn.tagOf
    rw [hb] at ho; cases ho
  refine ⟨?_, by simp [h.len], ?_, h.cell.keep k (by simp), ?_, fun i c p hc hp => ?_⟩
  · rw [List.map_append, List.nodup_append]
    refine ⟨h.keys, by simp, ?_⟩
    intro x hx y hy
    simp at hy
    intro e
    exact lookup_none hq (by rw [← hy, ← e]; exact hx)
  · rw [List.nodup_append]
    refine ⟨h.nd, by simp, ?_⟩
    intro x hx y hy
    simp at hy
    intro e
    exact hnb (by rw [← hy, ← e]; exact hx)
  · rw [kv_app _ _ _ _ _ h.len, ← kv_mput _ _ _ _ h.len hq]; exact hm
  · rcases Nat.lt_or_ge i bs.length with hi | hi
    · rw [List.getElem?_append_left hi] at hc
      rw [List.getElem?_append_left (by rw [← h.len]; exact hi)] at hp
      exact (h.nodes i c p hc hp).keep k (by simp; omega) (by simp)
    · rw [List.getElem?_append_right hi] at hc
      rw [List.getElem?_append_right (by rw [← h.len]; exact hi), ← h.len] at hp
      cases hd : i - bs.length with
      | zero =>
        rw [hd] at hc hp
        cases hc; cases hp
        exact hnew
      | succ j => rw [hd] at hc; cases hc
end Go.Proofs.YthfpmipeejjogaaGreatDoor.Zt
