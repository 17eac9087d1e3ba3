/- The tree, the walk: Delete, Set. -/
import Derived.Test.YthfpmipeejjogaaGreatDoorZtC
namespace Go.Proofs.YthfpmipeejjogaaGreatDoor.Zt
open Go Go.Proofs.YthfpmipeejjogaaGreatDoor.SL Go.Proofs.YthfpmipeejjogaaGreatDoor.G Go.Proofs.YthfpmipeejjogaaGreatDoor.Pa
set_option linter.unusedSimpArgs false
set_option linter.unusedVariables false
variable {B : World} {ro σ σ' : AH} {tag tag' : Nat → Nat}

def delK : St → Str → St
  | [], _ => []
  | (k', n) :: r, k => if k = k' then r else (k', n) :: delK r k
def less (n : Nd) : Nd := { n with kids := IntKind.i64.wrap (n.kids - 1) }
/-- Delete: the tree behind it, and the error -/
def remove (st : St) (p : Str) (v : Int) : St × Int :=
  if p = [47] ∨ parts p = none then (st, 20)
  else match st.lookup p with
    | none => (st, 70)
    | some n => if v ≠ -1 ∧ v ≠ n.ver then (st, 72) else if 0 < n.kids then (st, 73)
      else match parent p with
        | none => (st, 20)
        | some u => (delK (modN st u less) p, 0)
def setNd (d : Str) (n : Nd) : Nd := { n with ver := IntKind.i64.wrap (n.ver + 1), data := d }
/-- Set: the tree behind it, the version and the error -/
def setD (st : St) (p d : Str) (v : Int) : St × Int × Int :=
  if p = [47] ∨ parts p = none then (st, 0, 20)
  else if 256 < d.length then (st, 0, 75)
  else match st.lookup p with
    | none => (st, 0, 70)
    | some n => if v ≠ -1 ∧ v ≠ n.ver then (st, 0, 72) else (modN st p (setNd d), IntKind.i64.wrap (n.ver + 1), 0)

theorem delK_idx : ∀ (st : St) (bs : List Nat) (i b : Nat) (q : Str) (n : Nd), bs.length = st.length → (st.map (·.1)).Nodup → bs[i]? = some b → st[i]? = some (q, n) →
    delK st q = st.eraseIdx i ∧ mdel (kv st bs) q = kv (st.eraseIdx i) (bs.eraseIdx i) := by
  intro st
  induction st with
  | nil => intro bs i b q n _ _ _ h; cases h
  | cons p st ih =>
    intro bs i b q n hl hk hb hp
    cases bs with
    | nil => simp at hl
    | cons c bs =>
      obtain ⟨p, m⟩ := p
      rw [List.map_cons, List.nodup_cons] at hk
      cases i with
      | zero =>
        cases hp
        exact ⟨by simp [delK], by simp [kv, mdel]⟩
      | succ i =>
        simp only [List.getElem?_cons_succ] at hb hp
        have hne : q ≠ p := fun e => hk.1 (by rw [← e]; exact List.mem_map.2 ⟨_, List.mem_of_getElem? hp, rfl⟩)
        obtain ⟨h1, h2⟩ := ih bs i b q n (by simpa using hl) hk.2 hb hp
        refine ⟨by simp [delK, hne, h1], ?_⟩
        simp only [List.eraseIdx_cons_succ]
        unfold kv mdel
        rw [if_neg hne, h2]
theorem eraseIdx_get {α : Type} (l : List α) (i j : Nat) : (l.eraseIdx i)[j]? = if j < i then l[j]? else l[j + 1]? := by
  rw [List.getElem?_eraseIdx]
/-- a node goes -/
theorem TreeAt.rem {r T M i b : Nat} {bs : List Nat} {st : St} {q : Str} {n : Nd} (h : TreeAt tag σ r T M bs st) (hr : r < 64) (hr6 : r ≠ 6) (hb : bs[i]? = some b) (hp : st[i]? = some (q, n)) (k : Step [r + 64] ro tag σ tag' σ')
    (hm : MapIs tag' σ' (r + 64) M (mdel (kv st bs) q)) : TreeAt tag' σ' r T M (bs.eraseIdx i) (delK st q) := by
  obtain ⟨e1, e2⟩ := delK_idx st bs i b q n h.len h.keys hb hp
  rw [e1]
  rw [e2] at hm
  refine ⟨List.Nodup.sublist ((List.eraseIdx_sublist ..).map _) h.keys, ?_, List.Nodup.sublist (List.eraseIdx_sublist ..) h.nd, h.cell.keep k (by simp), hm, fun j c p hc hp' => ?_⟩
  · rw [List.length_eraseIdx, List.length_eraseIdx, h.len]
  · rw [eraseIdx_get] at hc hp'
    by_cases hj : j < i
    · rw [if_pos hj] at hc hp'
      exact (h.nodes j c p hc hp').keep k (by simp; omega) (by simp)
    · rw [if_neg hj] at hc hp'
      exact (h.nodes (j + 1) c p hc hp').keep k (by simp; omega) (by simp)
theorem modN_get {st : St} {u : Str} {f : Nd → Nd} {i : Nat} {q : Str} {n : Nd} (h : st[i]? = some (q, n)) (hne : q ≠ u) : (modN st u f)[i]? = some (q, n) := by
  unfold modN
  rw [List.getElem?_map, h]
  simp [hne]
theorem parent_ne {p u : Str} (h : parent p = some u) : p ≠ u := by
  unfold parent at h
  cases hp : parts p with
  | none => rw [hp] at h; cases h
  | some ps =>
    rw [hp] at h
    simp only at h
    split at h
    · cases h
    · rename_i hn
      cases h
      obtain ⟨hl, hg⟩ := parts_iff.1 hp
      intro e
      have := mk_inj hg hg.up (by rw [← hl]; exact e)
      have h1 := congrArg List.length this
      have h2 := List.length_pos_iff.2 hn
      simp at h1; omega
theorem parent_some {p : Str} {ps : List Str} (h : parts p = some ps) (hne : p ≠ [47]) : ∃ u, parent p = some u := by
  unfold parent
  rw [h]
  simp only
  rw [if_neg]
  · exact ⟨_, rfl⟩
  · intro e; obtain ⟨hl, _⟩ := parts_iff.1 h; exact hne (by rw [hl, e]; rfl)

set_option maxRecDepth 100000 in
theorem delete_ok {r T : Nat} {st : St} {p : ByteArray} {v : Int} {Q : Int → AH → Prop} (g : Glob ro) (hr : r < 64) (hr6 : r ≠ 6) (hr0 : r ≠ 0) (h : TreeIs tag σ r T st)
    (hup : ∀ u n, parent (L p) = some u → st.lookup (L p) = some n → ∃ m, st.lookup u = some m)
    (hQ : ∀ tag' σ', StepC r ro tag σ tag' σ' → TreeIs tag' σ' r T (remove st (L p) v).1 → Q (remove st (L p) v).2 σ') : c_ztree_Tree_Delete B ro (some ⟨T, 0, none⟩) p v σ Q := by
  refine ztree_Tree_Delete_ok fun hs => ?_
  unfold f_ztree_Tree_Delete
  have same : ∀ e : Int, remove st (L p) v = (st, e) → Q e σ := fun e he => by
    have := hQ tag σ (StepC.refl hs) (by rw [he]; exact h)
    rw [he] at this; exact this
  obtain ⟨M, bs, hA⟩ := h
  have hgood : L p ≠ [47] → ∀ ps, parts (L p) = some ps → ¬ (L p = [47] ∨ parts (L p) = none) := fun h1 ps h2 h3 => by
    rcases h3 with h3 | h3
    · exact h1 h3
    · rw [h2] at h3; cases h3
  refine zcheck_ok g hA hs (fun hb => ?_) (fun hne ps hps hl => ?_) (fun hne ps n hps hl hv1 hv2 => ?_) (fun hne ps i b n hps hb hp hl hv => ?_)
  · rw [if_pos (by decide)]
    exact same 20 (by unfold remove; rw [if_pos hb])
  · rw [if_pos (by decide)]
    exact same 70 (by unfold remove; rw [if_neg (hgood hne ps hps), hl])
  · rw [if_pos (by decide)]
    exact same 72 (by unfold remove; rw [if_neg (hgood hne ps hps), hl]; simp only; rw [if_pos ⟨hv1, hv2⟩])
  · rw [if_neg (by decide)]
    have hre : remove st (L p) v = if 0 < n.kids then (st, (73 : Int)) else match parent (L p) with
        | none => (st, (20 : Int))
        | some u => (delK (modN st u less) (L p), (0 : Int)) := by
      unfold remove; rw [if_neg (hgood hne ps hps), hl]; simp only; rw [if_neg (by omega)]
    obtain ⟨s, hn, hd⟩ := hA.nodes i b _ hb hp
    obtain ⟨q, hq, hg⟩ := hn.ptr hs (by simp)
    cases hq
    refine ⟨_, rfl, n.kids, hg 3 _ rfl, ?_⟩
    by_cases h1 : 0 < n.kids
    · rw [if_pos h1]
      exact same 73 (by rw [hre, if_pos h1])
    · rw [if_neg h1]
      rw [if_neg h1] at hre
      refine parent_ok g (fun hnone => ?_) (fun u hu => ?_)
      · obtain ⟨u, hu⟩ := parent_some hps hne
        rw [hu] at hnone; cases hnone
      · rw [hu] at hre
        simp only at hre
        obtain ⟨m, hm⟩ := hup u n hu hl
        refine ⟨_, rfl, _, Row.cell1 hA.cell hs, ?_⟩
        refine awp_lookup_str hA.map hs u126 u9 ty129 ?_
        rcases kv_lookup st bs u hA.len with ⟨a, e⟩ | ⟨j, c, m', c1, c2, c3, e⟩
        · rw [hm] at a; cases a
        · rw [e]
          refine ⟨some ⟨c, 0, none⟩, rfl, ?_⟩
          obtain ⟨s2, hn2, hd2⟩ := hA.nodes j c _ c1 c2
          obtain ⟨q2, hq2, hg2⟩ := hn2.ptr hs (by simp)
          cases hq2
          refine ⟨_, rfl, m'.kids, hg2 3 _ rfl, _, rfl, ?_⟩
          refine hn2.st (i := 3) hs rfl (by simp) rfl fun σ1 st1 r1 => ?_
          have hA1 := hA.write (n' := less m') hr hr6 c1 c2 st1 ⟨s2, r1, hd2.keep st1 (by simp; omega)⟩
          rw [← modN_set hA.keys c2 less] at hA1
          refine ⟨_, rfl, _, Row.cell1 hA1.cell st1.sep, ?_⟩
          rw [← S_L p]
          refine awp_delete_str hA1.map st1.sep u126 u9 fun σ2 st2 m2 => ⟨rfl, ?_⟩
          have hA2 := hA1.rem hr hr6 hb (modN_get hp (parent_ne hu)) st2 m2
          have hres := hQ tag σ2 ((st1.c (by simp; omega)).trans (st2.c (by simp; omega))) (by rw [hre]; exact ⟨M, _, hA2⟩)
          rw [hre] at hres
          exact hres

set_option maxRecDepth 100000 in
theorem set_ok {r T : Nat} {st : St} {p : ByteArray} {s : Sl} {d : Str} {v : Int} {Q : Int → Int → AH → Prop} (g : Glob ro) (hr : r < 64) (hr6 : r ≠ 6) (hr0 : r ≠ 0) (h : TreeIs tag σ r T st) (hd : SL.Read ro σ s (d.map vU)) (hdl : d.length < 4611686018427387904)
    (hQ : ∀ tag' σ', StepC r ro tag σ tag' σ' → TreeIs tag' σ' r T (setD st (L p) d v).1 → Q (setD st (L p) d v).2.1 (setD st (L p) d v).2.2 σ') : c_ztree_Tree_Set B ro (some ⟨T, 0, none⟩) p s v σ Q := by
  refine ztree_Tree_Set_ok fun hs => ?_
  unfold f_ztree_Tree_Set
  have hsl : s.len = d.length := by rw [hd.1, List.length_map]
  have same : ∀ e : Int, setD st (L p) d v = (st, 0, e) → Q 0 e σ := fun e he => by
    have := hQ tag σ (StepC.refl hs) (by rw [he]; exact h)
    rw [he] at this; exact this
  by_cases h0 : p = ⟨#[47]⟩
  · rw [if_pos h0]
    unfold j1_ztree_Tree_Set
    rw [if_pos rfl]
    exact same 20 (by unfold setD; rw [if_pos (.inl (by rw [h0]; rfl))])
  · rw [if_neg h0]
    have hne : L p ≠ [47] := fun h => h0 (L_inj h)
    refine check_ok g ?_
    unfold j1_ztree_Tree_Set
    by_cases h1 : Pa.chk (L p) = 0
    · rw [if_neg (by simpa using h1)]
      obtain ⟨ps, hps⟩ := chk_zero.1 h1
      have hgood : ¬ (L p = [47] ∨ parts (L p) = none) := fun h3 => by
        rcases h3 with h3 | h3
        · exact hne h3
        · rw [hps] at h3; cases h3
      by_cases h2 : 256 < (s.len : Int)
      · rw [if_pos h2]
        exact same 75 (by unfold setD; rw [if_neg hgood, if_pos (by omega)])
      · rw [if_neg h2]
        have h2' : ¬ 256 < d.length := by omega
        obtain ⟨M, bs, hA⟩ := h
        refine zcheck_ok g hA hs (fun hb => absurd hb hgood) (fun _ _ _ hl => ?_) (fun _ _ n _ hl hv1 hv2 => ?_) (fun _ _ i b n _ hb hp hl hv => ?_)
        · rw [if_pos (by decide)]
          exact same 70 (by unfold setD; rw [if_neg hgood, if_neg h2', hl])
        · rw [if_pos (by decide)]
          exact same 72 (by unfold setD; rw [if_neg hgood, if_neg h2', hl]; simp only; rw [if_pos ⟨hv1, hv2⟩])
        · rw [if_neg (by decide)]
          have hre : setD st (L p) d v = (modN st (L p) (setNd d), IntKind.i64.wrap (n.ver + 1), 0) := by
            unfold setD; rw [if_neg hgood, if_neg h2', hl]; simp only; rw [if_neg (by omega)]
          refine clone_ok (tag := tag) hd hs (by simp; omega) (by simp [storable]) fun s' tag1 σ1 st1 r1 => ?_
          have hA1 := hA.keep (st1 []) (by simp)
          have hs1 := (st1 []).sep
          obtain ⟨ds, hn, hdd⟩ := hA1.nodes i b _ hb hp
          refine ⟨_, rfl, ?_⟩
          refine hn.st (i := 4) hs1 rfl (by simp) rfl fun σ2 st2 r2 => ?_
          obtain ⟨q, hq, hg⟩ := r2.ptr st2.sep (by simp)
          cases hq
          refine ⟨_, rfl, n.ver, hg 0 _ rfl, _, rfl, ?_⟩
          refine r2.st (i := 0) st2.sep rfl (by simp) rfl fun σ3 st3 r3 => ?_
          obtain ⟨q3, hq3, hg3⟩ := r3.ptr st3.sep (by simp)
          cases hq3
          refine ⟨_, rfl, _, hg3 0 _ rfl, ?_⟩
          have st23 := st2.trans st3
          have hA3 := hA1.write (n' := setNd d n) hr hr6 hb hp st23 ⟨s', r3, r1.keep st23 (by simp; omega)⟩
          rw [← modN_set hA.keys hp (setNd d)] at hA3
          have hres := hQ tag1 σ3 (((st1 []).c (by simp)).trans (st23.c (by simp; omega))) (by rw [hre]; exact ⟨M, _, hA3⟩)
          rw [hre] at hres
          exact hres
    · rw [if_pos (by simpa using h1)]
      have e : parts (L p) = none := by
        cases h : parts (L p) with
        | none => rfl
        | some ps => exact absurd (chk_zero.2 ⟨ps, h⟩) h1
      exact same 20 (by unfold setD; rw [if_pos (.inr e)])
end Go.Proofs.YthfpmipeejjogaaGreatDoor.Zt
