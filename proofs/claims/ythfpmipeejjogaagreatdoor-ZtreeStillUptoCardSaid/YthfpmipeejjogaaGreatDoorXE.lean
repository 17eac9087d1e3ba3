/- ZtC, ZtD, ZtP, ZtQ, ZtE, ZtF, GL7, GR1, ZtL -/
import Derived.Test.YthfpmipeejjogaaGreatDoorXD
/- The tree, the walk: Create. -/
namespace Go.Proofs.YthfpmipeejjogaaGreatDoor.Zt
open Go Go.Proofs.YthfpmipeejjogaaGreatDoor.SL Go.Proofs.YthfpmipeejjogaaGreatDoor.G Go.Proofs.YthfpmipeejjogaaGreatDoor.Pa
set_option linter.unusedSimpArgs false
set_option linter.unusedVariables false
variable {B : World} {ro σ σ' : AH} {tag tag' : Nat → Nat}

theorem st_last {q : Str} {n : Nd} (st : St) {i : Nat} {u : Str} {m : Nd} (h : st[i]? = some (u, m)) : (st ++ [(q, n)])[i]? = some (u, m) := by
  have hil : i < st.length := by
    rcases Nat.lt_or_ge i st.length with h' | h'
    · exact h'
    · rw [List.getElem?_eq_none h'] at h; cases h
  rw [List.getElem?_append_left hil]; exact h
theorem app_idx {bs : List Nat} {c i b : Nat} (h : bs[i]? = some b) : (bs ++ [c])[i]? = some b := by
  have hil : i < bs.length := by
    rcases Nat.lt_or_ge i bs.length with h' | h'
    · exact h'
    · rw [List.getElem?_eq_none h'] at h; cases h
  rw [List.getElem?_append_left hil]; exact h

set_option maxRecDepth 100000 in
theorem create_ok {r T : Nat} {st : St} {p : ByteArray} {s : Sl} {d : Str} {o : Int} {seq : Bool} {Q : ByteArray → Int → AH → Prop} (g : Glob ro) (hr : r < 64) (hr6 : r ≠ 6) (hr0 : r ≠ 0) (h : TreeIs tag σ r T st) (hd : SL.Read ro σ s (d.map vU)) (hdl : d.length < 4611686018427387904)
    (hQ : ∀ tag' σ', StepC r ro tag σ tag' σ' → TreeIs tag' σ' r T (create st (L p) d o seq).1 → Q (S (create st (L p) d o seq).2.1) (create st (L p) d o seq).2.2 σ') : c_ztree_Tree_Create B ro (some ⟨T, 0, none⟩) p s o seq σ Q := by
  refine ztree_Tree_Create_ok fun hs => ?_
  unfold f_ztree_Tree_Create
  have hsl : s.len = d.length := by rw [hd.1, List.length_map]
  have same : ∀ e : Int, create st (L p) d o seq = (st, [], e) → Q (⟨#[]⟩ : ByteArray) e σ := fun e he => by
    have := hQ tag σ (StepC.refl hs) (by rw [he]; exact h)
    rw [he] at this; exact this
  refine parent_ok g (fun hp => ?_) (fun u hu => ?_)
  · rw [if_pos (by decide)]
    exact same 20 (by unfold create; rw [hp])
  · rw [if_neg (by decide)]
    by_cases h1 : 256 < (s.len : Int)
    · rw [if_pos h1]
      exact same 75 (by unfold create; rw [hu]; simp only; rw [if_pos (by omega)])
    · rw [if_neg h1]
      have h1' : ¬ 256 < d.length := by omega
      by_cases h2 : o < 0 ∨ 4611686018427387903 < o
      · rw [if_pos h2]
        exact same 10 (by unfold create; rw [hu]; simp only; rw [if_neg h1', if_pos h2])
      · rw [if_neg h2]
        obtain ⟨M, bs, hA⟩ := h
        refine ⟨_, rfl, _, Row.cell1 hA.cell hs, ?_⟩
        refine awp_lookup_str hA.map hs u126 u9 ty129 ?_
        rcases kv_lookup st bs u hA.len with ⟨a, e⟩ | ⟨i, b, n, a1, a2, a3, e⟩
        · rw [e]
          refine ⟨none, rfl, ?_⟩
          rw [if_pos rfl]
          exact same 70 (by unfold create; rw [hu]; simp only; rw [if_neg h1', if_neg h2, a])
        · rw [e]
          refine ⟨some ⟨b, 0, none⟩, rfl, ?_⟩
          rw [if_neg (by simp)]
          obtain ⟨ds, hn, hdat⟩ := hA.nodes i b _ a1 a2
          obtain ⟨q, hq, hg⟩ := hn.ptr hs (by simp)
          cases hq
          refine ⟨_, rfl, n.own, hg 2 _ rfl, ?_⟩
          by_cases h3 : n.own = 0
          · rw [if_neg (by simp [h3])]
            refine ⟨_, rfl, n.ctr, hg 1 _ rfl, ?_⟩
            by_cases h4 : 9999999999 < n.ctr
            · rw [if_pos h4]
              exact same 76 (by unfold create; rw [hu]; simp only; rw [if_neg h1', if_neg h2, a3]; simp only; rw [if_neg (by simp [h3]), if_pos h4])
            · rw [if_neg h4]
              have hcr : create st (L p) d o seq = match (if seq then suffix (L p) n.ctr else some (L p)) with
                  | none => (st, [], 20)
                  | some q => if (st.lookup q).isSome then (st, [], 71) else (modN (st ++ [(q, ⟨0, 0, o, 0, d⟩)]) u bump, q, 0) := by
                unfold create; rw [hu]; simp only; rw [if_neg h1', if_neg h2, a3]; simp only; rw [if_neg (by simp [h3]), if_neg h4]; rfl
              have main : ∀ q : Str, (if seq then suffix (L p) n.ctr else some (L p)) = some q → j10_ztree_Tree_Create B ro (some ⟨T, 0, none⟩) s o (some ⟨b, 0, none⟩) Q (S q) σ := by
                intro q hq
                rw [hq] at hcr
                simp only at hcr
                unfold j10_ztree_Tree_Create
                refine ⟨_, rfl, _, Row.cell1 hA.cell hs, ?_⟩
                refine awp_lookup_str hA.map hs u126 u9 ty129 ?_
                rcases kv_lookup st bs q hA.len with ⟨c, e2⟩ | ⟨i2, b2, n2, c1, c2, c3, e2⟩
                · rw [e2]
                  refine ⟨none, rfl, ?_⟩
                  rw [if_neg (by simp)]
                  rw [c] at hcr
                  simp only [Option.isSome_none, Bool.false_eq_true, if_false] at hcr
                  refine lent_block T ?_
                  obtain ⟨hT0, hTo⟩ := hA.cell.tagOf
                  have hs1 : SL.Sep (join ro (SL.one σ T)) (SL.del σ T) := hs.lent
                  refine ⟨_, rfl, some M, hA.cell.lend hs (i := 0) rfl, ?_⟩
                  refine clone_ok (tag := tag) (hd.lent T) hs1 (by simp; omega) (by simp [storable]) fun s' tag1 σ1 st1 r1 => ?_
                  refine nw_cellsF (tag := tag1) (fun b => r + 64 * (b + 2)) (st1 []).sep fun c' tag2 σ2 hro2 hc2 st2 r2 => ?_
                  have hM1 := ((hA.map.del (by rw [hT0]; omega)).keep (st1 []) (by simp)).keep (st2 []) (by simp)
                  refine awp_update_str hM1 (st2 []).sep u126 u9 fun σ3 st3 m3 => ?_
                  intro hdj
                  have stA : Step [r + 64] (join ro (SL.one σ T)) tag (SL.del σ T) tag2 σ3 := (st1 _).trans ((st2 _).trans st3)
                  have stB := stA.back hs hdj hTo
                  have m4 := m3.back (r' := tag T) hdj hTo
                  have hnode : NodeAt (setTag tag2 T (tag T)) (join (SL.one σ T) σ3) r c' ⟨0, 0, o, 0, d⟩ :=
                    ⟨s', (r2.keep st3 (by simp; omega)).back hdj hTo, ((r1.keep (st2 []) (by simp)).keep st3 (by simp)).back hdj hTo⟩
                  have hfree : σ c' = none := by
                    cases hcc : σ c' with
                    | none => rfl
                    | some x =>
                      have hne : c' ≠ T := fun e => by
                        have := (join_none hro2).2
                        unfold SL.one at this
                        rw [if_pos e, hcc] at this; cases this
                      obtain ⟨_, x', hx'⟩ := (st1 []).old c' x (by unfold SL.del; rw [if_neg hne]; exact hcc)
                      rw [hc2] at hx'; cases hx'
                  have hA2 := hA.add (n := ⟨0, 0, o, 0, d⟩) hr hr6 c hfree stB hnode m4
                  have b1 := app_idx (c := c') a1
                  have b2 := st_last (q := q) (n := ⟨0, 0, o, 0, d⟩) st a2
                  generalize setTag tag2 T (tag T) = tagx at *
                  generalize join (SL.one σ T) σ3 = σx at *
                  have hsx := stB.sep
                  obtain ⟨d1, hn1, hd1⟩ := hA2.nodes i b _ b1 b2
                  obtain ⟨q1, hq1, hg1⟩ := hn1.ptr hsx (by simp)
                  cases hq1
                  refine ⟨_, rfl, n.ctr, hg1 1 _ rfl, _, rfl, ?_⟩
                  refine hn1.st (i := 1) hsx rfl (by simp) rfl fun σ4 st4 r4 => ?_
                  have hA3 := hA2.write (n' := { n with ctr := IntKind.i64.wrap (n.ctr + 1) }) hr hr6 b1 b2 st4 ⟨d1, r4, hd1.keep st4 (by simp; omega)⟩
                  have b3 : ((st ++ [(q, (⟨0, 0, o, 0, d⟩ : Nd))]).set i (u, { n with ctr := IntKind.i64.wrap (n.ctr + 1) }))[i]? = some (u, { n with ctr := IntKind.i64.wrap (n.ctr + 1) }) := by
                    rw [List.getElem?_set, if_pos rfl, if_pos]
                    rcases Nat.lt_or_ge i (st ++ [(q, (⟨0, 0, o, 0, d⟩ : Nd))]).length with h' | h'
                    · exact h'
                    · rw [List.getElem?_eq_none h'] at b2; cases b2
                  obtain ⟨q2, hq2, hg2⟩ := r4.ptr st4.sep (by simp)
                  cases hq2
                  refine ⟨_, rfl, n.kids, hg2 3 _ rfl, _, rfl, ?_⟩
                  refine r4.st (i := 3) st4.sep rfl (by simp) rfl fun σ5 st5 r5 => ?_
                  have hA4 := hA3.write (n' := bump n) hr hr6 b1 b3 st5 ⟨d1, r5, (hd1.keep st4 (by simp; omega)).keep st5 (by simp; omega)⟩
                  rw [List.set_set] at hA4
                  rw [← modN_set hA2.keys b2 bump] at hA4
                  have hres := hQ tagx σ5 ((stB.c (by simp; omega)).trans ((st4.c (by simp; omega)).trans (st5.c (by simp; omega)))) (by rw [hcr]; exact ⟨M, _, hA4⟩)
                  rw [hcr] at hres
                  exact hres
                · rw [e2]
                  refine ⟨some ⟨b2, 0, none⟩, rfl, ?_⟩
                  rw [if_pos (by simp)]
                  refine same 71 ?_
                  rw [hcr, c3]; rfl
              by_cases h5 : seq = true
              · rw [if_pos h5]
                refine ⟨_, rfl, n.ctr, hg 1 _ rfl, ?_⟩
                refine suffix_ok g (fun hnone => ?_) (fun q hq => ?_)
                · rw [if_pos (by decide)]
                  refine same 20 ?_
                  rw [hcr, if_pos h5, hnone]
                · rw [if_neg (by decide)]
                  exact main q (by rw [if_pos h5]; exact hq)
              · rw [if_neg h5]
                have := main (L p) (by rw [if_neg h5])
                rw [S_L] at this; exact this
          · rw [if_pos (by simp [h3])]
            exact same 74 (by unfold create; rw [hu]; simp only; rw [if_neg h1', if_neg h2, a3]; simp only; rw [if_pos (by simp [h3])])
end Go.Proofs.YthfpmipeejjogaaGreatDoor.Zt

/- The tree, the walk: Delete, Set. -/
namespace Go.Proofs.YthfpmipeejjogaaGreatDoor.Zt
open Go Go.Proofs.YthfpmipeejjogaaGreatDoor.SL Go.Proofs.YthfpmipeejjogaaGreatDoor.G Go.Proofs.YthfpmipeejjogaaGreatDoor.Pa
set_option linter.unusedSimpArgs false
set_option linter.unusedVariables false
variable {B : World} {ro σ σ' : AH} {tag tag' : Nat → Nat}

def delK : St → Str → St
  | [], _ => []
  | (k', n) :: r, k => if k = k' then r else (k', n) :: delK r k
def less (n : Nd) : Nd := { n with kids := IntKind.i64.wrap (n.kids - 1) }
/-- Delete: the tree behind it, and the error -/
def remove (st : St) (p : Str) (v : Int) : St × Int :=
  if p = [47] ∨ parts p = none then (st, 20)
  else match st.lookup p with
    | none => (st, 70)
    | some n => if v ≠ -1 ∧ v ≠ n.ver then (st, 72) else if 0 < n.kids then (st, 73)
      else match parent p with
        | none => (st, 20)
        | some u => (delK (modN st u less) p, 0)
def setNd (d : Str) (n : Nd) : Nd := { n with ver := IntKind.i64.wrap (n.ver + 1), data := d }
/-- Set: the tree behind it, the version and the error -/
def setD (st : St) (p d : Str) (v : Int) : St × Int × Int :=
  if p = [47] ∨ parts p = none then (st, 0, 20)
  else if 256 < d.length then (st, 0, 75)
  else match st.lookup p with
    | none => (st, 0, 70)
    | some n => if v ≠ -1 ∧ v ≠ n.ver then (st, 0, 72) else (modN st p (setNd d), IntKind.i64.wrap (n.ver + 1), 0)

theorem delK_idx : ∀ (st : St) (bs : List Nat) (i b : Nat) (q : Str) (n : Nd), bs.length = st.length → (st.map (·.1)).Nodup → bs[i]? = some b → st[i]? = some (q, n) →
    delK st q = st.eraseIdx i ∧ mdel (kv st bs) q = kv (st.eraseIdx i) (bs.eraseIdx i) := by
  intro st
  induction st with
  | nil => intro bs i b q n _ _ _ h; cases h
  | cons p st ih =>
    intro bs i b q n hl hk hb hp
    cases bs with
    | nil => simp at hl
    | cons c bs =>
      obtain ⟨p, m⟩ := p
      rw [List.map_cons, List.nodup_cons] at hk
      cases i with
      | zero =>
        cases hp
        exact ⟨by simp [delK], by simp [kv, mdel]⟩
      | succ i =>
        simp only [List.getElem?_cons_succ] at hb hp
        have hne : q ≠ p := fun e => hk.1 (by rw [← e]; exact List.mem_map.2 ⟨_, List.mem_of_getElem? hp, rfl⟩)
        obtain ⟨h1, h2⟩ := ih bs i b q n (by simpa using hl) hk.2 hb hp
        refine ⟨by simp [delK, hne, h1], ?_⟩
        simp only [List.eraseIdx_cons_succ]
        unfold kv mdel
        rw [if_neg hne, h2]
theorem eraseIdx_get {α : Type} (l : List α) (i j : Nat) : (l.eraseIdx i)[j]? = if j < i then l[j]? else l[j + 1]? := by
  rw [List.getElem?_eraseIdx]
/-- a node goes -/
theorem TreeAt.rem {r T M i b : Nat} {bs : List Nat} {st : St} {q : Str} {n : Nd} (h : TreeAt tag σ r T M bs st) (hr : r < 64) (hr6 : r ≠ 6) (hb : bs[i]? = some b) (hp : st[i]? = some (q, n)) (k : Step [r + 64] ro tag σ tag' σ')
    (hm : MapIs tag' σ' (r + 64) M (mdel (kv st bs) q)) : TreeAt tag' σ' r T M (bs.eraseIdx i) (delK st q) := by
  obtain ⟨e1, e2⟩ := delK_idx st bs i b q n h.len h.keys hb hp
  rw [e1]
  rw [e2] at hm
  refine ⟨List.Nodup.sublist ((List.eraseIdx_sublist ..).map _) h.keys, ?_, List.Nodup.sublist (List.eraseIdx_sublist ..) h.nd, h.cell.keep k (by simp), hm, fun j c p hc hp' => ?_⟩
  · rw [List.length_eraseIdx, List.length_eraseIdx, h.len]
  · rw [eraseIdx_get] at hc hp'
    by_cases hj : j < i
    · rw [if_pos hj] at hc hp'
      exact (h.nodes j c p hc hp').keep k (by simp; omega) (by simp)
    · rw [if_neg hj] at hc hp'
      exact (h.nodes (j + 1) c p hc hp').keep k (by simp; omega) (by simp)
theorem modN_get {st : St} {u : Str} {f : Nd → Nd} {i : Nat} {q : Str} {n : Nd} (h : st[i]? = some (q, n)) (hne : q ≠ u) : (modN st u f)[i]? = some (q, n) := by
  unfold modN
  rw [List.getElem?_map, h]
  simp [hne]
theorem parent_ne {p u : Str} (h : parent p = some u) : p ≠ u := by
  unfold parent at h
  cases hp : parts p with
  | none => rw [hp] at h; cases h
  | some ps =>
    rw [hp] at h
    simp only at h
    split at h
    · cases h
    · rename_i hn
      cases h
      obtain ⟨hl, hg⟩ := parts_iff.1 hp
      intro e
      have := mk_inj hg hg.up (by rw [← hl]; exact e)
      have h1 := congrArg List.length this
      have h2 := List.length_pos_iff.2 hn
      simp at h1; omega
theorem parent_some {p : Str} {ps : List Str} (h : parts p = some ps) (hne : p ≠ [47]) : ∃ u, parent p = some u := by
  unfold parent
  rw [h]
  simp only
  rw [if_neg]
  · exact ⟨_, rfl⟩
  · intro e; obtain ⟨hl, _⟩ := parts_iff.1 h; exact hne (by rw [hl, e]; rfl)

set_option maxRecDepth 100000 in
theorem delete_ok {r T : Nat} {st : St} {p : ByteArray} {v : Int} {Q : Int → AH → Prop} (g : Glob ro) (hr : r < 64) (hr6 : r ≠ 6) (hr0 : r ≠ 0) (h : TreeIs tag σ r T st)
    (hup : ∀ u n, parent (L p) = some u → st.lookup (L p) = some n → ∃ m, st.lookup u = some m)
    (hQ : ∀ tag' σ', StepC r ro tag σ tag' σ' → TreeIs tag' σ' r T (remove st (L p) v).1 → Q (remove st (L p) v).2 σ') : c_ztree_Tree_Delete B ro (some ⟨T, 0, none⟩) p v σ Q := by
  refine ztree_Tree_Delete_ok fun hs => ?_
  unfold f_ztree_Tree_Delete
  have same : ∀ e : Int, remove st (L p) v = (st, e) → Q e σ := fun e he => by
    have := hQ tag σ (StepC.refl hs) (by rw [he]; exact h)
    rw [he] at this; exact this
  obtain ⟨M, bs, hA⟩ := h
  have hgood : L p ≠ [47] → ∀ ps, parts (L p) = some ps → ¬ (L p = [47] ∨ parts (L p) = none) := fun h1 ps h2 h3 => by
    rcases h3 with h3 | h3
    · exact h1 h3
    · rw [h2] at h3; cases h3
  refine zcheck_ok g hA hs (fun hb => ?_) (fun hne ps hps hl => ?_) (fun hne ps n hps hl hv1 hv2 => ?_) (fun hne ps i b n hps hb hp hl hv => ?_)
  · rw [if_pos (by decide)]
    exact same 20 (by unfold remove; rw [if_pos hb])
  · rw [if_pos (by decide)]
    exact same 70 (by unfold remove; rw [if_neg (hgood hne ps hps), hl])
  · rw [if_pos (by decide)]
    exact same 72 (by unfold remove; rw [if_neg (hgood hne ps hps), hl]; simp only; rw [if_pos ⟨hv1, hv2⟩])
  · rw [if_neg (by decide)]
    have hre : remove st (L p) v = if 0 < n.kids then (st, (73 : Int)) else match parent (L p) with
        | none => (st, (20 : Int))
        | some u => (delK (modN st u less) (L p), (0 : Int)) := by
      unfold remove; rw [if_neg (hgood hne ps hps), hl]; simp only; rw [if_neg (by omega)]
    obtain ⟨s, hn, hd⟩ := hA.nodes i b _ hb hp
    obtain ⟨q, hq, hg⟩ := hn.ptr hs (by simp)
    cases hq
    refine ⟨_, rfl, n.kids, hg 3 _ rfl, ?_⟩
    by_cases h1 : 0 < n.kids
    · rw [if_pos h1]
      exact same 73 (by rw [hre, if_pos h1])
    · rw [if_neg h1]
      rw [if_neg h1] at hre
      refine parent_ok g (fun hnone => ?_) (fun u hu => ?_)
      · obtain ⟨u, hu⟩ := parent_some hps hne
        rw [hu] at hnone; cases hnone
      · rw [hu] at hre
        simp only at hre
        obtain ⟨m, hm⟩ := hup u n hu hl
        refine ⟨_, rfl, _, Row.cell1 hA.cell hs, ?_⟩
        refine awp_lookup_str hA.map hs u126 u9 ty129 ?_
        rcases kv_lookup st bs u hA.len with ⟨a, e⟩ | ⟨j, c, m', c1, c2, c3, e⟩
        · rw [hm] at a; cases a
        · rw [e]
          refine ⟨some ⟨c, 0, none⟩, rfl, ?_⟩
          obtain ⟨s2, hn2, hd2⟩ := hA.nodes j c _ c1 c2
          obtain ⟨q2, hq2, hg2⟩ := hn2.ptr hs (by simp)
          cases hq2
          refine ⟨_, rfl, m'.kids, hg2 3 _ rfl, _, rfl, ?_⟩
          refine hn2.st (i := 3) hs rfl (by simp) rfl fun σ1 st1 r1 => ?_
          have hA1 := hA.write (n' := less m') hr hr6 c1 c2 st1 ⟨s2, r1, hd2.keep st1 (by simp; omega)⟩
          rw [← modN_set hA.keys c2 less] at hA1
          refine ⟨_, rfl, _, Row.cell1 hA1.cell st1.sep, ?_⟩
          rw [← S_L p]
          refine awp_delete_str hA1.map st1.sep u126 u9 fun σ2 st2 m2 => ⟨rfl, ?_⟩
          have hA2 := hA1.rem hr hr6 hb (modN_get hp (parent_ne hu)) st2 m2
          have hres := hQ tag σ2 ((st1.c (by simp; omega)).trans (st2.c (by simp; omega))) (by rw [hre]; exact ⟨M, _, hA2⟩)
          rw [hre] at hres
          exact hres

set_option maxRecDepth 100000 in
theorem set_ok {r T : Nat} {st : St} {p : ByteArray} {s : Sl} {d : Str} {v : Int} {Q : Int → Int → AH → Prop} (g : Glob ro) (hr : r < 64) (hr6 : r ≠ 6) (hr0 : r ≠ 0) (h : TreeIs tag σ r T st) (hd : SL.Read ro σ s (d.map vU)) (hdl : d.length < 4611686018427387904)
    (hQ : ∀ tag' σ', StepC r ro tag σ tag' σ' → TreeIs tag' σ' r T (setD st (L p) d v).1 → Q (setD st (L p) d v).2.1 (setD st (L p) d v).2.2 σ') : c_ztree_Tree_Set B ro (some ⟨T, 0, none⟩) p s v σ Q := by
  refine ztree_Tree_Set_ok fun hs => ?_
  unfold f_ztree_Tree_Set
  have hsl : s.len = d.length := by rw [hd.1, List.length_map]
  have same : ∀ e : Int, setD st (L p) d v = (st, 0, e) → Q 0 e σ := fun e he => by
    have := hQ tag σ (StepC.refl hs) (by rw [he]; exact h)
    rw [he] at this; exact this
  by_cases h0 : p = ⟨#[47]⟩
  · rw [if_pos h0]
    unfold j1_ztree_Tree_Set
    rw [if_pos rfl]
    exact same 20 (by unfold setD; rw [if_pos (.inl (by rw [h0]; rfl))])
  · rw [if_neg h0]
    have hne : L p ≠ [47] := fun h => h0 (L_inj h)
    refine check_ok g ?_
    unfold j1_ztree_Tree_Set
    by_cases h1 : Pa.chk (L p) = 0
    · rw [if_neg (by simpa using h1)]
      obtain ⟨ps, hps⟩ := chk_zero.1 h1
      have hgood : ¬ (L p = [47] ∨ parts (L p) = none) := fun h3 => by
        rcases h3 with h3 | h3
        · exact hne h3
        · rw [hps] at h3; cases h3
      by_cases h2 : 256 < (s.len : Int)
      · rw [if_pos h2]
        exact same 75 (by unfold setD; rw [if_neg hgood, if_pos (by omega)])
      · rw [if_neg h2]
        have h2' : ¬ 256 < d.length := by omega
        obtain ⟨M, bs, hA⟩ := h
        refine zcheck_ok g hA hs (fun hb => absurd hb hgood) (fun _ _ _ hl => ?_) (fun _ _ n _ hl hv1 hv2 => ?_) (fun _ _ i b n _ hb hp hl hv => ?_)
        · rw [if_pos (by decide)]
          exact same 70 (by unfold setD; rw [if_neg hgood, if_neg h2', hl])
        · rw [if_pos (by decide)]
          exact same 72 (by unfold setD; rw [if_neg hgood, if_neg h2', hl]; simp only; rw [if_pos ⟨hv1, hv2⟩])
        · rw [if_neg (by decide)]
          have hre : setD st (L p) d v = (modN st (L p) (setNd d), IntKind.i64.wrap (n.ver + 1), 0) := by
            unfold setD; rw [if_neg hgood, if_neg h2', hl]; simp only; rw [if_neg (by omega)]
          refine clone_ok (tag := tag) hd hs (by simp; omega) (by simp [storable]) fun s' tag1 σ1 st1 r1 => ?_
          have hA1 := hA.keep (st1 []) (by simp)
          have hs1 := (st1 []).sep
          obtain ⟨ds, hn, hdd⟩ := hA1.nodes i b _ hb hp
          refine ⟨_, rfl, ?_⟩
          refine hn.st (i := 4) hs1 rfl (by simp) rfl fun σ2 st2 r2 => ?_
          obtain ⟨q, hq, hg⟩ := r2.ptr st2.sep (by simp)
          cases hq
          refine ⟨_, rfl, n.ver, hg 0 _ rfl, _, rfl, ?_⟩
          refine r2.st (i := 0) st2.sep rfl (by simp) rfl fun σ3 st3 r3 => ?_
          obtain ⟨q3, hq3, hg3⟩ := r3.ptr st3.sep (by simp)
          cases hq3
          refine ⟨_, rfl, _, hg3 0 _ rfl, ?_⟩
          have st23 := st2.trans st3
          have hA3 := hA1.write (n' := setNd d n) hr hr6 hb hp st23 ⟨s', r3, r1.keep st23 (by simp; omega)⟩
          rw [← modN_set hA.keys hp (setNd d)] at hA3
          have hres := hQ tag1 σ3 (((st1 []).c (by simp)).trans (st23.c (by simp; omega))) (by rw [hre]; exact ⟨M, _, hA3⟩)
          rw [hre] at hres
          exact hres
    · rw [if_pos (by simpa using h1)]
      have e : parts (L p) = none := by
        cases h : parts (L p) with
        | none => rfl
        | some ps => exact absurd (chk_zero.2 ⟨ps, h⟩) h1
      exact same 20 (by unfold setD; rw [if_pos (.inr e)])
end Go.Proofs.YthfpmipeejjogaaGreatDoor.Zt

/- The tree, the plain part: what is always true of a tree, and that each call keeps it. No program in sight. -/
namespace Go.Proofs.YthfpmipeejjogaaGreatDoor.Zt
open Go Go.Proofs.YthfpmipeejjogaaGreatDoor.SL Go.Proofs.YthfpmipeejjogaaGreatDoor.Pa
set_option linter.unusedSimpArgs false
set_option linter.unusedVariables false

def kc (ks : List Str) (u : Str) : Nat := ks.countP fun k => parent k = some u
theorem lookup_mod (st : St) (u : Str) (f : Nd → Nd) (k : Str) : (modN st u f).lookup k = if k = u then (st.lookup k).map f else st.lookup k := by
  induction st with
  | nil => simp [modN]
  | cons p st ih =>
    obtain ⟨p, n⟩ := p
    unfold modN at ih ⊢
    rw [List.map_cons]
    by_cases e : p = u
    · subst e
      simp only [if_true]
      rw [List.lookup_cons, List.lookup_cons, ih]
      by_cases c : k = p
      · subst c; simp
      · rw [show (k == p) = false by simpa using c]
    · simp only [e, if_false]
      rw [List.lookup_cons, List.lookup_cons, ih]
      by_cases c : k = p
      · subst c; simp [e]
      · rw [show (k == p) = false by simpa using c]
theorem lookup_app (st : St) (q : Str) (n : Nd) (k : Str) : (st ++ [(q, n)]).lookup k = match st.lookup k with | some m => some m | none => if k = q then some n else none := by
  induction st with
  | nil =>
    rw [List.nil_append, List.lookup_cons]
    by_cases c : k = q
    · subst c; simp
    · rw [show (k == q) = false by simpa using c]; simp [c]
  | cons p st ih =>
    obtain ⟨p, m⟩ := p
    rw [List.cons_append, List.lookup_cons, List.lookup_cons, ih]
    by_cases c : k = p
    · subst c; simp
    · rw [show (k == p) = false by simpa using c]
theorem lookup_notin {st : St} {k : Str} (h : k ∉ st.map (·.1)) : st.lookup k = none := by
  rw [List.lookup_eq_none_iff]
  intro p hp
  simp
  intro e
  exact h (List.mem_map.2 ⟨p, hp, e.symm⟩)
theorem lookup_del {st : St} (hk : (st.map (·.1)).Nodup) (q k : Str) : (delK st q).lookup k = if k = q then none else st.lookup k := by
  induction st with
  | nil => simp [delK]
  | cons p st ih =>
    obtain ⟨p, n⟩ := p
    rw [List.map_cons, List.nodup_cons] at hk
    unfold delK
    by_cases e : q = p
    · subst e
      rw [if_pos rfl]
      by_cases c : k = q
      · subst c; rw [if_pos rfl]; exact lookup_notin hk.1
      · rw [if_neg c, List.lookup_cons, show (k == q) = false by simpa using c]
    · rw [if_neg e, List.lookup_cons, List.lookup_cons, ih hk.2]
      by_cases c : k = p
      · subst c; simp [show ¬ k = q from fun h => e h.symm]
      · rw [show (k == p) = false by simpa using c]
theorem keys_mod (st : St) (u : Str) (f : Nd → Nd) : (modN st u f).map (·.1) = st.map (·.1) := by
  unfold modN; rw [List.map_map]
  refine List.map_congr_left fun p _ => ?_
  simp only [Function.comp]
  split <;> rfl
theorem keys_del {st : St} {q : Str} {n : Nd} (h : st.lookup q = some n) : ∃ a b, st.map (·.1) = a ++ q :: b ∧ (delK st q).map (·.1) = a ++ b := by
  induction st with
  | nil => cases h
  | cons p st ih =>
    obtain ⟨p, m⟩ := p
    unfold delK
    by_cases e : q = p
    · subst e; exact ⟨[], st.map (·.1), rfl, by rw [if_pos rfl]; rfl⟩
    · rw [List.lookup_cons, show (q == p) = false by simpa using e] at h
      obtain ⟨a, b, h1, h2⟩ := ih h
      exact ⟨p :: a, b, by rw [List.map_cons, h1]; rfl, by rw [if_neg e, List.map_cons, h2]; rfl⟩
theorem lookup_in {st : St} {k : Str} (h : k ∈ st.map (·.1)) : ∃ n, st.lookup k = some n := by
  cases e : st.lookup k with
  | some n => exact ⟨n, rfl⟩
  | none => exact absurd h (lookup_none e)
theorem in_lookup {st : St} {k : Str} {n : Nd} (h : st.lookup k = some n) : k ∈ st.map (·.1) := Classical.byContradiction fun hn => by
  rw [lookup_notin hn] at h; cases h

structure Inv (st : St) : Prop where
  keys : (st.map (·.1)).Nodup
  root : ∃ n, st.lookup [47] = some n
  path : ∀ k n, st.lookup k = some n → ∃ ps, parts k = some ps
  up : ∀ k n, st.lookup k = some n → k ≠ [47] → ∃ u m, parent k = some u ∧ st.lookup u = some m ∧ m.own = 0
  kids : ∀ k n, st.lookup k = some n → n.kids = (kc (st.map (·.1)) k : Nat)
  ctr : ∀ k n, st.lookup k = some n → n.kids ≤ n.ctr ∧ n.ctr ≤ 10000000000
  data : ∀ k n, st.lookup k = some n → n.data.length ≤ 256
theorem inv_new : Inv St.new := by
  have hl : ∀ k n, St.new.lookup k = some n → k = [47] ∧ n = ⟨0, 0, 0, 0, []⟩ := fun k n h => by
    unfold St.new at h
    rw [List.lookup_cons] at h
    by_cases c : k = [47]
    · subst c; simp at h; exact ⟨rfl, h.symm⟩
    · rw [show (k == [47]) = false by simpa using c] at h; cases h
  refine ⟨by simp [St.new], ⟨_, rfl⟩, fun k n h => ?_, fun k n h hne => absurd (hl k n h).1 hne, fun k n h => ?_, fun k n h => ?_, fun k n h => ?_⟩
  · rw [(hl k n h).1]; exact ⟨[], rfl⟩
  · obtain ⟨rfl, rfl⟩ := hl k n h
    decide
  · rw [(hl k n h).2]; decide
  · rw [(hl k n h).2]; decide
theorem tens_no (k n : Nat) : ∀ c ∈ tens k n, c ≠ 47 := by
  induction k generalizing n with
  | zero => intro c h; cases h
  | succ k ih =>
    intro c h
    rw [tens] at h
    rcases List.mem_append.1 h with h | h
    · exact ih _ c h
    · rw [List.mem_singleton] at h
      intro e
      have h1 := congrArg UInt8.toNat (h.symm.trans e)
      have : n % 10 < 10 := Nat.mod_lt _ (by omega)
      simp at h1
      omega
/-- the path with digits behind it has the same parent -/
theorem suffix_parent {p q : Str} {n : Int} (h : suffix p n = some q) : ∃ ps, parts q = some ps ∧ parent q = parent p := by
  unfold suffix at h
  cases hp : parts p with
  | none => rw [hp] at h; cases h
  | some ps =>
    rw [hp] at h
    simp only at h
    split at h
    · cases h
    · rename_i hn
      split at h
      · rename_i hs
        cases h
        obtain ⟨qs, hqs⟩ := Option.isSome_iff_exists.1 hs
        refine ⟨qs, hqs, ?_⟩
        obtain ⟨hl, hg⟩ := parts_iff.1 hp
        obtain ⟨hql, hqg⟩ := parts_iff.1 hqs
        have hne : ps ≠ [] := fun e => hn (.inl e)
        obtain ⟨zs, x, rfl⟩ : ∃ zs x, ps = zs ++ [x] := by
          rcases List.eq_nil_or_concat ps with e | ⟨zs, x, e⟩
          · exact absurd e hne
          · exact ⟨zs, x, by rw [e, List.concat_eq_append]⟩
        have e1 : p ++ digits n = mk (zs ++ [x ++ digits n]) := by
          rw [hl, mk_snoc, mk_snoc]; simp
        have hqn : qs ≠ [] := by
          intro e
          subst e
          have h1 := congrArg List.length hql
          rw [List.length_append] at h1
          have h2 : 1 ≤ p.length := by rw [hl]; exact mk_pos _
          have h3 : (digits n).length = 10 := tens_len 10 _
          simp [mk] at h1; omega
        have e2 : qs = zs ++ [x ++ digits n] := by
          have c1 : cut ((mk qs).drop 1) = qs := by unfold mk; rw [if_neg hqn]; exact cut_mk qs hqn fun y hy => name_no (hqg.ok y hy)
          have c2 : cut ((mk (zs ++ [x ++ digits n])).drop 1) = zs ++ [x ++ digits n] := by
            unfold mk; rw [if_neg (by simp)]
            refine cut_mk _ (by simp) fun y hy => ?_
            rcases List.mem_append.1 hy with h | h
            · exact name_no (hg.ok y (by simp [h]))
            · rw [List.mem_singleton] at h
              rw [h]
              intro hm
              rcases List.mem_append.1 hm with h' | h'
              · exact name_no (hg.ok x (by simp)) h'
              · exact tens_no _ _ 47 h' rfl
          rw [← c1, ← hql, e1, c2]
        unfold parent
        rw [hqs, hp, e2]
        simp
      · cases h
theorem kc_app (a b : List Str) (u : Str) : kc (a ++ b) u = kc a u + kc b u := by unfold kc; rw [List.countP_append]
theorem kc_one (q u : Str) : kc [q] u = if parent q = some u then 1 else 0 := by unfold kc; simp [List.countP_cons]
end Go.Proofs.YthfpmipeejjogaaGreatDoor.Zt

/- The tree, the plain part, on: each call keeps what is always true. -/
namespace Go.Proofs.YthfpmipeejjogaaGreatDoor.Zt
open Go Go.Proofs.YthfpmipeejjogaaGreatDoor.SL Go.Proofs.YthfpmipeejjogaaGreatDoor.Pa
set_option linter.unusedSimpArgs false
set_option linter.unusedVariables false

theorem kc_pos {ks : List Str} {u : Str} (h : kc ks u ≠ 0) : ∃ k ∈ ks, parent k = some u := by
  have : 0 < kc ks u := by omega
  unfold kc at this
  rw [List.countP_pos_iff] at this
  obtain ⟨k, h1, h2⟩ := this
  exact ⟨k, h1, by simpa using h2⟩
theorem kc_in {ks : List Str} {u k : Str} (h : k ∈ ks) (hp : parent k = some u) : kc ks u ≠ 0 := by
  have : 0 < kc ks u := by
    unfold kc
    rw [List.countP_pos_iff]
    exact ⟨k, h, by simpa using hp⟩
  omega
theorem root_parent : parent [47] = none := rfl
theorem Inv.no_kids {st : St} (h : Inv st) {q : Str} (hq : st.lookup q = none) : kc (st.map (·.1)) q = 0 := by
  refine Classical.byContradiction fun hn => ?_
  obtain ⟨k, hk, hp⟩ := kc_pos hn
  obtain ⟨n, hl⟩ := lookup_in hk
  have hne : k ≠ [47] := fun e => by rw [e, root_parent] at hp; cases hp
  obtain ⟨u, m, h1, h2, _⟩ := h.up k n hl hne
  rw [hp] at h1
  cases h1
  rw [hq] at h2; cases h2
theorem parts_parent {q : Str} {u : Str} (h : parent q = some u) : ∃ ps, parts q = some ps := by
  unfold parent at h
  cases hp : parts q with
  | none => rw [hp] at h; cases h
  | some ps => exact ⟨ps, rfl⟩

theorem inv_add {st : St} {q u d : Str} {n : Nd} {o : Int} (h : Inv st) (hlen : st.length ≤ 4398046511104) (hu : st.lookup u = some n) (ho : n.own = 0) (hc : ¬ 9999999999 < n.ctr) (hq : st.lookup q = none) (hpq : parent q = some u) (hd : d.length ≤ 256) :
    Inv (modN (st ++ [(q, ⟨0, 0, o, 0, d⟩)]) u bump) := by
  have hqu : q ≠ u := fun e => by rw [e, hu] at hq; cases hq
  have hkids := h.kids u n hu
  have hctr := h.ctr u n hu
  have hle : kc (st.map (·.1)) u ≤ st.length := by unfold kc; exact Nat.le_trans List.countP_le_length (by simp)
  have lk : ∀ k, (modN (st ++ [(q, (⟨0, 0, o, 0, d⟩ : Nd))]) u bump).lookup k = if k = u then some (bump n) else if k = q then some ⟨0, 0, o, 0, d⟩ else st.lookup k := fun k => by
    rw [lookup_mod, lookup_app]
    by_cases e : k = u
    · subst e; rw [if_pos rfl, if_pos rfl, hu]; rfl
    · rw [if_neg e, if_neg e]
      by_cases e2 : k = q
      · subst e2; rw [hq]
      · rw [if_neg e2, if_neg e2]; cases st.lookup k <;> rfl
  have hb : bump n = { n with ctr := n.ctr + 1, kids := n.kids + 1 } := by
    unfold bump
    rw [SL.w64_eq (by omega) (by omega), SL.w64_eq (by omega) (by omega)]
  have hkeys : (modN (st ++ [(q, (⟨0, 0, o, 0, d⟩ : Nd))]) u bump).map (·.1) = st.map (·.1) ++ [q] := by rw [keys_mod, List.map_append]; rfl
  have hkc : ∀ k, kc ((modN (st ++ [(q, (⟨0, 0, o, 0, d⟩ : Nd))]) u bump).map (·.1)) k = kc (st.map (·.1)) k + if u = k then 1 else 0 := fun k => by
    rw [hkeys, kc_app, kc_one, hpq]
    simp
  have old : ∀ v m, st.lookup v = some m → ∃ m', (modN (st ++ [(q, (⟨0, 0, o, 0, d⟩ : Nd))]) u bump).lookup v = some m' ∧ m'.own = m.own := fun v m hv => by
    rw [lk]
    by_cases e : v = u
    · subst e
      rw [hu] at hv; cases hv
      exact ⟨_, if_pos rfl, rfl⟩
    · have e2 : v ≠ q := fun e => by rw [e, hq] at hv; cases hv
      exact ⟨m, by rw [if_neg e, if_neg e2]; exact hv, rfl⟩
  have cases3 : ∀ k m, (modN (st ++ [(q, (⟨0, 0, o, 0, d⟩ : Nd))]) u bump).lookup k = some m → (k = u ∧ m = bump n) ∨ (k = q ∧ k ≠ u ∧ m = ⟨0, 0, o, 0, d⟩) ∨ (k ≠ u ∧ k ≠ q ∧ st.lookup k = some m) := fun k m hk => by
    rw [lk] at hk
    by_cases e : k = u
    · rw [if_pos e] at hk; exact .inl ⟨e, (Option.some.inj hk).symm⟩
    · rw [if_neg e] at hk
      by_cases e2 : k = q
      · rw [if_pos e2] at hk; exact .inr (.inl ⟨e2, e, (Option.some.inj hk).symm⟩)
      · rw [if_neg e2] at hk; exact .inr (.inr ⟨e, e2, hk⟩)
  refine ⟨?_, ?_, fun k m hk => ?_, fun k m hk hne => ?_, fun k m hk => ?_, fun k m hk => ?_, fun k m hk => ?_⟩
  · rw [hkeys, List.nodup_append]
    refine ⟨h.keys, by simp, ?_⟩
    intro x hx y hy
    simp at hy
    intro e
    exact lookup_none hq (by rw [← hy, ← e]; exact hx)
  · obtain ⟨n0, h0⟩ := h.root
    obtain ⟨m', h1, _⟩ := old _ _ h0
    exact ⟨m', h1⟩
  · rcases cases3 k m hk with ⟨rfl, _⟩ | ⟨rfl, _, _⟩ | ⟨_, _, h3⟩
    · exact h.path _ n hu
    · exact parts_parent hpq
    · exact h.path k m h3
  · have fin : ∀ v mm, parent k = some v → st.lookup v = some mm → mm.own = 0 → ∃ u' m', parent k = some u' ∧ (modN (st ++ [(q, (⟨0, 0, o, 0, d⟩ : Nd))]) u bump).lookup u' = some m' ∧ m'.own = 0 := fun v mm h1 h2 h3 => by
      obtain ⟨m', h4, h5⟩ := old v mm h2
      exact ⟨v, m', h1, h4, by rw [h5]; exact h3⟩
    rcases cases3 k m hk with ⟨rfl, _⟩ | ⟨rfl, _, _⟩ | ⟨_, _, h3⟩
    · obtain ⟨v, mm, h1, h2, h3⟩ := h.up _ n hu hne
      exact fin v mm h1 h2 h3
    · exact fin u n hpq hu ho
    · obtain ⟨v, mm, h1, h2, h4⟩ := h.up k m h3 hne
      exact fin v mm h1 h2 h4
  · rw [hkc]
    rcases cases3 k m hk with ⟨rfl, rfl⟩ | ⟨rfl, hne, rfl⟩ | ⟨h1, _, h3⟩
    · rw [if_pos rfl, hb]; show n.kids + 1 = _; omega
    · rw [if_neg (fun e => hne e.symm), h.no_kids hq]; rfl
    · rw [if_neg (fun e => h1 e.symm)]; exact h.kids k m h3
  · rcases cases3 k m hk with ⟨rfl, rfl⟩ | ⟨rfl, hne, rfl⟩ | ⟨h1, _, h3⟩
    · rw [hb]; show n.kids + 1 ≤ n.ctr + 1 ∧ n.ctr + 1 ≤ _; omega
    · exact ⟨Int.le_refl _, show (0 : Int) ≤ 10000000000 by decide⟩
    · exact h.ctr k m h3
  · rcases cases3 k m hk with ⟨rfl, rfl⟩ | ⟨rfl, hne, rfl⟩ | ⟨h1, _, h3⟩
    · exact h.data _ n hu
    · exact hd
    · exact h.data k m h3

theorem create_len (st : St) (p d : Str) (o : Int) (seq : Bool) : (create st p d o seq).1.length ≤ st.length + 1 := by
  unfold create
  repeat' split
  all_goals first | exact Nat.le_succ _ | (simp [modN])
theorem inv_create {st : St} {p d : Str} {o : Int} {seq : Bool} (h : Inv st) (hlen : st.length ≤ 4398046511104) : Inv (create st p d o seq).1 := by
  unfold create
  cases hp : parent p with
  | none => exact h
  | some u =>
    simp only
    split
    · exact h
    · rename_i hd
      split
      · exact h
      · cases hu : st.lookup u with
        | none => exact h
        | some n =>
          simp only
          split
          · exact h
          · rename_i ho
            split
            · exact h
            · rename_i hc
              cases hq : (if seq = true then suffix p n.ctr else some p) with
              | none => exact h
              | some q =>
                simp only
                split
                · exact h
                · rename_i hs
                  have hqn : st.lookup q = none := by
                    cases e : st.lookup q with
                    | none => rfl
                    | some x => rw [e] at hs; exact absurd rfl hs
                  have hpq : parent q = some u := by
                    split at hq
                    · obtain ⟨_, _, e⟩ := suffix_parent hq
                      rw [e]; exact hp
                    · cases hq; exact hp
                  exact inv_add h hlen hu (by simpa using ho) hc hqn hpq (by omega)

theorem remove_len (st : St) (p : Str) (v : Int) : (remove st p v).1.length ≤ st.length := by
  have hdel : ∀ (s : St) q, (delK s q).length ≤ s.length := fun s q => by
    induction s with
    | nil => simp [delK]
    | cons x s ih =>
      obtain ⟨k, n⟩ := x
      unfold delK
      split
      · simp
      · simp; exact ih
  unfold remove
  repeat' split
  all_goals first | exact Nat.le_refl _ | (refine Nat.le_trans (hdel _ _) ?_; simp [modN])
theorem inv_remove {st : St} {p : Str} {v : Int} (h : Inv st) (hlen : st.length ≤ 4398046511104) : Inv (remove st p v).1 := by
  unfold remove
  split
  · exact h
  · rename_i hg
    cases hl : st.lookup p with
    | none => exact h
    | some n =>
      simp only
      split
      · exact h
      · split
        · exact h
        · rename_i hk0
          cases hpp : parent p with
          | none => exact h
          | some u =>
            simp only
            have hne : p ≠ [47] := fun e => hg (.inl e)
            obtain ⟨u', m, h1, hu, ho⟩ := h.up p n hl hne
            rw [hpp] at h1; cases h1
            have hpu := parent_ne hpp
            have hkn := h.kids p n hl
            have hz : kc (st.map (·.1)) p = 0 := by omega
            have hkm := h.kids u m hu
            have hcm := h.ctr u m hu
            have hin := in_lookup hl
            have hpos := kc_in hin hpp
            have hle : kc (st.map (·.1)) u ≤ st.length := by unfold kc; exact Nat.le_trans List.countP_le_length (by simp)
            have hb : less m = { m with kids := m.kids - 1 } := by
              unfold less; rw [SL.w64_eq (by omega) (by omega)]
            have hkM : ((modN st u less).map (·.1)).Nodup := by rw [keys_mod]; exact h.keys
            have lk : ∀ k, (delK (modN st u less) p).lookup k = if k = p then none else if k = u then some (less m) else st.lookup k := fun k => by
              rw [lookup_del hkM, lookup_mod]
              by_cases e : k = p
              · rw [if_pos e, if_pos e]
              · rw [if_neg e, if_neg e]
                by_cases e2 : k = u
                · subst e2; rw [if_pos rfl, if_pos rfl, hu]; rfl
                · rw [if_neg e2, if_neg e2]
            have hlM : (modN st u less).lookup p = some n := by rw [lookup_mod, if_neg hpu]; exact hl
            obtain ⟨a, b, k1, k2⟩ := keys_del hlM
            rw [keys_mod] at k1
            have hkc : ∀ k, kc (st.map (·.1)) k = kc ((delK (modN st u less) p).map (·.1)) k + if u = k then 1 else 0 := fun k => by
              rw [k1, k2, show a ++ p :: b = a ++ ([p] ++ b) from rfl, kc_app, kc_app, kc_app, kc_one, hpp]
              simp; omega
            have cases2 : ∀ k x, (delK (modN st u less) p).lookup k = some x → k ≠ p ∧ ((k = u ∧ x = less m) ∨ (k ≠ u ∧ st.lookup k = some x)) := fun k x hk => by
              rw [lk] at hk
              by_cases e : k = p
              · rw [if_pos e] at hk; cases hk
              · rw [if_neg e] at hk
                by_cases e2 : k = u
                · rw [if_pos e2] at hk; exact ⟨e, .inl ⟨e2, (Option.some.inj hk).symm⟩⟩
                · rw [if_neg e2] at hk; exact ⟨e, .inr ⟨e2, hk⟩⟩
            have old : ∀ v x, st.lookup v = some x → v ≠ p → ∃ x', (delK (modN st u less) p).lookup v = some x' ∧ x'.own = x.own := fun v x hv hvp => by
              rw [lk, if_neg hvp]
              by_cases e : v = u
              · subst e
                rw [hu] at hv; cases hv
                exact ⟨_, if_pos rfl, rfl⟩
              · exact ⟨x, by rw [if_neg e]; exact hv, rfl⟩
            refine ⟨?_, ?_, fun k x hk => ?_, fun k x hk hkn => ?_, fun k x hk => ?_, fun k x hk => ?_, fun k x hk => ?_⟩
            · rw [k2]
              have := h.keys
              rw [k1] at this
              exact List.Nodup.sublist (List.Sublist.append_left (List.sublist_cons_self _ _) _) this
            · obtain ⟨n0, h0⟩ := h.root
              obtain ⟨x', h1, _⟩ := old _ _ h0 (fun e => hne e.symm)
              exact ⟨x', h1⟩
            · rcases cases2 k x hk with ⟨_, ⟨rfl, _⟩ | ⟨_, h3⟩⟩
              · exact h.path _ m hu
              · exact h.path k x h3
            · have hkin : ∃ y, st.lookup k = some y := by
                rcases cases2 k x hk with ⟨_, ⟨rfl, _⟩ | ⟨_, h3⟩⟩
                · exact ⟨m, hu⟩
                · exact ⟨x, h3⟩
              obtain ⟨y, hy⟩ := hkin
              obtain ⟨w, mm, g1, g2, g3⟩ := h.up k y hy hkn
              have hwp : w ≠ p := fun e => kc_in (in_lookup hy) (by rw [g1, e]) hz
              obtain ⟨x', g4, g5⟩ := old w mm g2 hwp
              exact ⟨w, x', g1, g4, by rw [g5]; exact g3⟩
            · have hkc' := hkc k
              rcases cases2 k x hk with ⟨_, ⟨rfl, rfl⟩ | ⟨h2, h3⟩⟩
              · rw [if_pos rfl] at hkc'
                rw [hb]; show m.kids - 1 = _; omega
              · rw [if_neg (fun e => h2 e.symm)] at hkc'
                have := h.kids k x h3
                omega
            · rcases cases2 k x hk with ⟨_, ⟨rfl, rfl⟩ | ⟨h2, h3⟩⟩
              · rw [hb]; show m.kids - 1 ≤ m.ctr ∧ m.ctr ≤ _; omega
              · exact h.ctr k x h3
            · rcases cases2 k x hk with ⟨_, ⟨rfl, rfl⟩ | ⟨h2, h3⟩⟩
              · exact h.data _ m hu
              · exact h.data k x h3
theorem setD_len (st : St) (p d : Str) (v : Int) : (setD st p d v).1.length = st.length := by
  unfold setD
  repeat' split
  all_goals first | rfl | simp [modN]
theorem inv_set {st : St} {p d : Str} {v : Int} (h : Inv st) : Inv (setD st p d v).1 := by
  unfold setD
  split
  · exact h
  · split
    · exact h
    · rename_i hd
      cases hl : st.lookup p with
      | none => exact h
      | some n =>
        simp only
        split
        · exact h
        · have lk : ∀ k x, (modN st p (setNd d)).lookup k = some x → ∃ y, st.lookup k = some y ∧ x.kids = y.kids ∧ x.ctr = y.ctr ∧ x.own = y.own ∧ x.data.length ≤ 256 := fun k x hk => by
            rw [lookup_mod] at hk
            by_cases e : k = p
            · subst e
              rw [if_pos rfl, hl] at hk
              cases hk
              exact ⟨n, hl, rfl, rfl, rfl, by show d.length ≤ 256; omega⟩
            · rw [if_neg e] at hk
              exact ⟨x, hk, rfl, rfl, rfl, h.data k x hk⟩
          have old : ∀ k y, st.lookup k = some y → ∃ x, (modN st p (setNd d)).lookup k = some x ∧ x.own = y.own := fun k y hk => by
            rw [lookup_mod]
            by_cases e : k = p
            · rw [if_pos e, hk]; exact ⟨_, rfl, rfl⟩
            · rw [if_neg e]; exact ⟨y, hk, rfl⟩
          refine ⟨by rw [keys_mod]; exact h.keys, ?_, fun k x hk => ?_, fun k x hk hne => ?_, fun k x hk => ?_, fun k x hk => ?_, fun k x hk => ?_⟩
          · obtain ⟨n0, h0⟩ := h.root
            obtain ⟨x, h1, _⟩ := old _ _ h0
            exact ⟨x, h1⟩
          · obtain ⟨y, h1, _⟩ := lk k x hk
            exact h.path k y h1
          · obtain ⟨y, h1, _⟩ := lk k x hk
            obtain ⟨u, m, g1, g2, g3⟩ := h.up k y h1 hne
            obtain ⟨m', g4, g5⟩ := old u m g2
            exact ⟨u, m', g1, g4, by rw [g5]; exact g3⟩
          · obtain ⟨y, h1, h2, _⟩ := lk k x hk
            rw [keys_mod, h2]; exact h.kids k y h1
          · obtain ⟨y, h1, h2, h3, _⟩ := lk k x hk
            rw [h2, h3]; exact h.ctr k y h1
          · obtain ⟨y, _, _, _, _, h5⟩ := lk k x hk
            exact h5
end Go.Proofs.YthfpmipeejjogaaGreatDoor.Zt

/- The tree, the walk: its paths in order, its size. -/
namespace Go.Proofs.YthfpmipeejjogaaGreatDoor.Zt
open Go Go.Proofs.YthfpmipeejjogaaGreatDoor.SL Go.Proofs.YthfpmipeejjogaaGreatDoor.G Go.Proofs.YthfpmipeejjogaaGreatDoor.Pa Go.Maps Go.Sort Go.Shelf Go.RowKit
set_option linter.unusedSimpArgs false
set_option linter.unusedVariables false
variable {B : World} {ro σ σ' : AH} {tag tag' : Nat → Nat}

theorem kv_keys : ∀ (st : St) (bs : List Nat), bs.length = st.length → (kv st bs).map (·.1) = st.map (·.1) := by
  intro st
  induction st with
  | nil => intro bs h; cases bs <;> rfl
  | cons p st ih =>
    intro bs h
    cases bs with
    | nil => simp at h
    | cons b bs => obtain ⟨p, n⟩ := p; unfold kv; rw [List.map_cons, ih bs (by simpa using h)]; rfl
theorem kv_length (st : St) (bs : List Nat) (h : bs.length = st.length) : (kv st bs).length = st.length := by
  have := congrArg List.length (kv_keys st bs h)
  simpa using this

abbrev RT : Value → Option (DataW Unit × List MemPlace) := fun _ => some (.nil, [])
/-- a map in memory, as the shelf's contracts want it -/
theorem owns {w : World} {b c : Nat} {m : KV} (hm : MapIs tag σ c b m) (hw : Sees ro σ w) (hs : SL.Sep ro σ) (hnd : (m.map (·.1)).Nodup) (hl : ∀ p ∈ m, p.1.length ≤ 128) (hn : m.length ≤ 4398046511104) :
    ∃ D : DataW Unit, w.ownsMap Tryz.prog 9 RT b m.length D ∧ Maps.size D = m.length ∧ (strKeys D).Perm (m.map (·.1)) := by
  obtain ⟨es, clock, hb, he, hbn⟩ := hm.obj
  have hwb := hw b _ (by unfold SL.rd; rw [hs b _ hb]; exact hb)
  have hsz : es.size = m.length := by have := congrArg List.length he; simpa using this
  have hkey : ∀ (i : Nat) (h1 : i < es.toList.length), ∃ h2 : i < m.length, (es.toList[i]).key = .string (S m[i].1) := fun i h1 => by
    have h2 : i < m.length := by rw [← hsz]; simpa using h1
    refine ⟨h2, ?_⟩
    have h := congrArg (·[i]?) he
    simp only [List.getElem?_map, List.getElem?_eq_getElem h1, List.getElem?_eq_getElem h2, Option.map_some] at h
    exact congrArg Prod.fst (Option.some.inj h)
  have hko : ∀ (i : Nat) (h1 : i < es.toList.length) (h2 : i < m.length), WideElems.rd Tryz.prog 9 RT es.toList[i] = some (.string m[i].1, .nil) := fun i h1 h2 => by
    obtain ⟨_, hk⟩ := hkey i h1
    have hlen := hl _ (List.getElem_mem h2)
    unfold WideElems.rd
    rw [hk]
    have : keyOf Tryz.prog 9 (.string (S m[i].1)) = some (.string m[i].1) := by
      unfold keyOf
      rw [u9]
      show mapKey Tryz.prog 9 (.string (S m[i].1)) = _
      unfold mapKey
      rw [u9]
      show (if (S m[i].1).size ≤ maxLen then _ else _) = _
      rw [if_pos (by simp only [S_size, maxLen]; omega)]; rfl
    rw [this]; rfl
  refine ⟨.map ((es.toList.map (WideElems.rg Tryz.prog 9 RT)).foldr DataW.insert []), ⟨es, clock, hwb, ⟨by rw [hsz]; simp only [maxLen]; omega, ⟨hbn.lt, hbn.nd, ?_⟩, ?_⟩, by omega, rfl⟩, ?_, ?_⟩
  · have : es.toList.map (·.key) = (m.map (·.1)).map fun k => Value.string (S k) := by
      apply List.ext_getElem
      · simp [hsz]
      · intro i h1 h2
        simp only [List.getElem_map]
        obtain ⟨_, h⟩ := hkey i (by simpa using h1)
        exact h
    rw [this]
    refine List.Pairwise.map _ (fun a b hab e => hab ?_) hnd
    simpa [S_inj] using e
  · intro x hx
    obtain ⟨i, hi, rfl⟩ := List.getElem_of_mem hx
    obtain ⟨h2, _⟩ := hkey i hi
    exact ⟨_, hko i hi h2⟩
  · show ((es.toList.map (WideElems.rg Tryz.prog 9 RT)).foldr DataW.insert []).length = m.length
    rw [DataW.length_sorted]; simp [hsz]
  · show (((es.toList.map (WideElems.rg Tryz.prog 9 RT)).foldr DataW.insert []).map fun p => strOf p.1).Perm _
    refine ((WideShapes.sorted_perm _).map _).trans ?_
    rw [List.map_map]
    have : es.toList.map ((fun p : Lit × DataW Unit => strOf p.1) ∘ WideElems.rg Tryz.prog 9 RT) = m.map (·.1) := by
      apply List.ext_getElem
      · simp [hsz]
      · intro i h1 h2
        simp only [List.getElem_map, Function.comp]
        have h3 : i < es.toList.length := by simpa using h1
        obtain ⟨h4, _⟩ := hkey i h3
        unfold WideElems.rg
        rw [hko i h3 h4]; rfl
    rw [this]

theorem keys_ok {M : Nat} {Q : Value → AH → Prop} (hQ : ∀ gb tag' σ', (∀ R, Step R ro tag σ tag' σ') → Row tag' σ' 0 126 ⟨some ⟨gb, 0, none⟩, 1, 1⟩ [.map (some M)] → Q (.func (.func 132) #[] #[.pointer (some ⟨gb, 0, none⟩)]) σ') :
    c_maps_Keys_ztree_node B ro (some M) σ Q := by
  refine ACalls.of_calls fun w hw hsep => ?_
  refine (callsIn_wide.1 (Tryz.maps_Keys_109 (some M) w)).mono ?_
  rintro e w' ⟨he, rfl⟩
  obtain ⟨N, tag', hN, hst, hrow⟩ := new_row (tag := tag) (w' := w.alloc (.cells #[.map (some M)] 126)) 0 hw hsep (Nat.le_refl w.heap.size) (heap_alloc_new w _)
  exact ⟨_, N, he, (Below.refl _ w).alloc (Nat.le_refl _) _, hN, _, rfl, hQ _ tag' _ hst (hrow _ _ _ rfl rfl (Nat.le_refl _) rfl)⟩

theorem sorted_ok {gb b c : Nat} {m : KV} {Q : Sl → AH → Prop} (r : Nat) (hg : Row tag σ 0 126 ⟨some ⟨gb, 0, none⟩, 1, 1⟩ [.map (some b)]) (hm : MapIs tag σ c b m) (hnd : (m.map (·.1)).Nodup) (hl : ∀ p ∈ m, p.1.length ≤ 128) (hn : m.length ≤ 4398046511104)
    (hQ : ∀ (s : Sl) (tag' : Nat → Nat) (σ' : AH) (ks : List Str), (∀ R, Step R ro tag σ tag' σ') → ks.Perm (m.map (·.1)) → ks.Pairwise (· ≤ ·) → Row tag' σ' r 9 s (ks.map Pa.vS) → Q s σ') : c_slices_Sorted_string B ro (.func (.func 132) #[] #[.pointer (some ⟨gb, 0, none⟩)]) σ Q := by
  refine ACalls.of_calls fun w hw hsep => ?_
  obtain ⟨D, hown, hsz, hperm⟩ := owns hm hw hsep hnd hl hn
  have hcell : w.cell? ⟨gb, 0, none⟩ = some (.map (some b)) := by
    have h1 := Row.cell1 hg hsep
    unfold acell at h1
    rw [cell?_eq]
    cases hr : SL.rd ro σ gb with
    | none => simp only at h1; rw [hr] at h1; cases h1
    | some o => simp only at h1; rw [hw gb o hr]; rw [hr] at h1; exact h1
  have hlt : gb < w.heap.size := by
    rw [cell?_eq] at hcell
    cases hh : w.heap[gb]? with
    | none => simp only at hcell; rw [hh] at hcell; cases hcell
    | some o => exact lt_of_block hh
  have hseq : SeqGives Fence.wide 2 Tryz.prog 132 #[.pointer (some ⟨gb, 0, none⟩)] encStr (fun ss => ss.Perm (strKeys D)) (Maps.size D) w :=
    AnyZ.keys_gives (ρ := Tryz.keys109_ren) { Tryz.keys109 with } Fence.wide _ trivial rfl (by omega) gb b m.length D w hlt hcell hown
  have hsort := AnyZ.sorted_in Tryz.sorted108 Fence.wide 5 trivial trivial trivial trivial rfl (by omega) (Tryz.sorts108 _) (enters_of Tryz.func131 (by kernel_rfl) rfl) 132 #[.pointer (some ⟨gb, 0, none⟩)] trivial (enters_of Tryz.func132 (by kernel_rfl) rfl) _ _ (by rw [hsz]; simp only [maxLen]; omega) (by rw [hsz]; omega) _ hseq
  refine (callsIn_wide.1 hsort).mono ?_
  rintro e w' ⟨v, ss, he, hS, hrow, hnil, hb⟩
  have hpair : (ss.mergeSort (fun x y => decide (x ≤ y))).Pairwise (· ≤ ·) := by
    have := List.pairwise_mergeSort (le := fun x y : List UInt8 => decide (x ≤ y)) (fun a b c h1 h2 => by simp at *; exact List.le_trans h1 h2) (fun a b => by simp; exact List.le_total a b) ss
    simpa using this
  have hpm : (ss.mergeSort (fun x y => decide (x ≤ y))).Perm (m.map (·.1)) := (List.mergeSort_perm _ _).trans (hS.trans hperm)
  have henc : ∀ l : List (List UInt8), l.map encStr = l.map Pa.vS := fun l => rfl
  rcases hrow with ⟨hlen, ⟨rfl, h0⟩ | ⟨g, cap, cur, rfl, hbase, hgb, r1, r2, r3, r4⟩⟩
  · have h0' : ss = [] := List.eq_nil_of_length_eq_zero h0
    subst h0'
    refine ⟨_, fun _ => none, he, hb, News.none _ _, ⟨none, 0, 0⟩, rfl, ?_⟩
    rw [join_none_right]
    exact hQ _ tag σ _ (fun _ => Step.refl hsep) hpm hpair (by simpa using Row.nil r 9)
  · obtain ⟨N, tag', hN, hst, hrow⟩ := new_row (tag := tag) r hw hsep hbase hgb
    refine ⟨_, N, he, hb, hN, ⟨some ⟨g, 0, none⟩, ss.length, cap⟩, rfl, ?_⟩
    refine hQ _ tag' _ _ hst hpm hpair (hrow _ _ _ (by simp) (by rw [r3, Nat.mul_one]) r1 ?_)
    rw [Nat.mul_one] at r4
    rw [r4]; rfl

set_option maxRecDepth 100000 in
theorem paths_ok {r T M q : Nat} {bs : List Nat} {st : St} {Q : Sl → AH → Prop} (h : TreeAt tag σ r T M bs st) (hl : ∀ p ∈ st, p.1.length ≤ 128) (hn : st.length ≤ 4398046511104)
    (hQ : ∀ (s : Sl) (tag' : Nat → Nat) (σ' : AH) (ks : List Str), (∀ R, Step R ro tag σ tag' σ') → ks.Perm (st.map (·.1)) → ks.Pairwise (· ≤ ·) → Row tag' σ' q 9 s (ks.map Pa.vS) → Q s σ') : c_ztree_Tree_paths B ro (some ⟨T, 0, none⟩) σ Q := by
  refine ztree_Tree_paths_ok fun hs => ?_
  unfold f_ztree_Tree_paths
  refine ⟨_, rfl, _, Row.cell1 h.cell hs, ?_⟩
  refine keys_ok (tag := tag) fun gb tag1 σ1 st1 r1 => ?_
  have hk := kv_keys st bs h.len
  refine sorted_ok q r1 (h.map.keep (st1 []) (by simp)) (by rw [hk]; exact h.keys) (fun p hp => ?_) (by rw [kv_length _ _ h.len]; exact hn) fun s tag' σ' ks st2 hp hs' hr => ?_
  · have : p.1 ∈ (kv st bs).map (·.1) := List.mem_map.2 ⟨p, hp, rfl⟩
    rw [hk] at this
    obtain ⟨x, hx, e⟩ := List.mem_map.1 this
    rw [← e]; exact hl x hx
  · rw [hk] at hp
    exact hQ s tag' σ' ks (fun R => (st1 R).trans (st2 R)) hp hs' hr
end Go.Proofs.YthfpmipeejjogaaGreatDoor.Zt

/- The tree, the walk: Size, Get, Children, the paths under the root. -/
namespace Go.Proofs.YthfpmipeejjogaaGreatDoor.Zt
open Go Go.Proofs.YthfpmipeejjogaaGreatDoor.SL Go.Proofs.YthfpmipeejjogaaGreatDoor.G Go.Proofs.YthfpmipeejjogaaGreatDoor.Pa
set_option linter.unusedSimpArgs false
set_option linter.unusedVariables false
variable {B : World} {ro σ σ' : AH} {tag tag' : Nat → Nat}

set_option maxRecDepth 100000 in
theorem size_ok {r T M : Nat} {bs : List Nat} {st : St} {Q : Int → AH → Prop} (h : TreeAt tag σ r T M bs st) (hQ : Q (st.length : Int) σ) : c_ztree_Tree_Size B ro (some ⟨T, 0, none⟩) σ Q := by
  refine ztree_Tree_Size_ok fun hs => ?_
  unfold f_ztree_Tree_Size
  refine ⟨_, rfl, _, Row.cell1 h.cell hs, ?_⟩
  obtain ⟨es, clock, hb, he, hbn⟩ := h.map.obj
  have hsz : es.size = st.length := by
    have := congrArg List.length he
    simp only [List.length_map, Array.length_toList] at this
    rw [this, kv_length _ _ h.len]
  unfold Builtin.len_
  refine ⟨.map es clock, by unfold SL.rd; rw [hs M _ hb]; exact hb, rfl, ?_⟩
  exact ⟨(st.length : Int), by rw [hsz]; rfl, hQ⟩

end Go.Proofs.YthfpmipeejjogaaGreatDoor.Zt

/- Functions as predicate transformers, and the proofs that the code does what they tell: printed by wip/tools/gen.py. -/
namespace Go.Proofs.YthfpmipeejjogaaGreatDoor.G
open Go Go.Proofs.YthfpmipeejjogaaGreatDoor.SL
set_option linter.unusedVariables false
set_option linter.unusedSimpArgs false

def j8_law07_ZtreeStill (B : World) (ro : AH) (Q : Bool → AH → Prop) (x86_9 : Bool) (σ : AH) : Prop :=
 Q x86_9 σ

def j4_law07_ZtreeStill (B : World) (ro : AH) (x13_2 : Option Addr) (x17_3 : Sl) (Q : Bool → AH → Prop) (x7_5 : Bool) (σ : AH) : Prop :=
 c_ztree_Tree_Encode B ro x13_2 σ fun x80_6 σ =>
 c_ref01_Same B ro x17_3 x80_6 σ fun x81_7 σ =>
 if x81_7 = x7_5 then
  c_law07_awake B ro σ fun x85_10 σ =>
  j8_law07_ZtreeStill B ro Q x85_10 σ
 else
 j8_law07_ZtreeStill B ro Q false σ

def f_law07_ZtreeStill (B : World) (ro : AH) (a0 : Sl) (a1_0 : Int) (a1_1 : Int) (a1_2 : ByteArray) (a1_3 : Sl) (a1_4 : Bool) (σ : AH) (Q : Bool → AH → Prop) : Prop :=
 nw ro σ (.cells #[.int .i64 a1_0, .int .i64 a1_1, .string a1_2, Sl.v a1_3, .bool a1_4] 40) fun x3_1 σ =>
 c_law07_made B ro a0 σ fun x13_2 σ =>
 if x13_2 = none then
  Q false σ
 else
 c_ztree_Tree_Encode B ro x13_2 σ fun x17_3 σ =>
 ∃ (x19_11 : Int), acell ro σ ⟨x3_1, 0, none⟩ = some (.int .i64 x19_11) ∧
 if x19_11 = 1 then
  lent σ fun ψ σ =>
   ∃ (x26_12 : ByteArray), acell (join ro ψ) (fun _ => none) ((⟨x3_1, 0, none⟩ : Addr).add 2) = some (.string x26_12) ∧
   ∃ (x31_13 : Int), acell (join ro ψ) (fun _ => none) ((⟨x3_1, 0, none⟩ : Addr).add 1) = some (.int .i64 x31_13) ∧
   ∃ (x33_14 : Bool), acell (join ro ψ) (fun _ => none) ((⟨x3_1, 0, none⟩ : Addr).add 4) = some (.bool x33_14) ∧
   ∃ (x28_15 : Sl), acell (join ro ψ) σ ((⟨x3_1, 0, none⟩ : Addr).add 3) = some (Sl.v x28_15) ∧
   c_ref01_Copy B (join ro ψ) x28_15 σ fun x29_16 σ =>
   c_ztree_Tree_Create B (join ro ψ) x13_2 x26_12 x29_16 x31_13 x33_14 σ fun x34_17 x34_18 σ =>
   (Disj ψ σ → (fun σ => 
    if (x34_18 = 0) ∧ (x34_17 = (⟨#[]⟩ : ByteArray)) then
     Q false σ
    else
    j4_law07_ZtreeStill B ro x13_2 x17_3 Q ((!(decide (x34_18 = 0))) && (decide (x34_17 = (⟨#[]⟩ : ByteArray)))) σ) (join ψ σ))
 else
 if x19_11 = 2 then
  ∃ (x53_19 : ByteArray), acell ro σ ((⟨x3_1, 0, none⟩ : Addr).add 2) = some (.string x53_19) ∧
  ∃ (x55_20 : Int), acell ro σ ((⟨x3_1, 0, none⟩ : Addr).add 1) = some (.int .i64 x55_20) ∧
  c_ztree_Tree_Delete B ro x13_2 x53_19 x55_20 σ fun x56_21 σ =>
  j4_law07_ZtreeStill B ro x13_2 x17_3 Q (!(decide (x56_21 = 0))) σ
 else
 if x19_11 = 3 then
  lent σ fun ψ σ =>
   ∃ (x63_22 : ByteArray), acell (join ro ψ) (fun _ => none) ((⟨x3_1, 0, none⟩ : Addr).add 2) = some (.string x63_22) ∧
   ∃ (x68_23 : Int), acell (join ro ψ) (fun _ => none) ((⟨x3_1, 0, none⟩ : Addr).add 1) = some (.int .i64 x68_23) ∧
   ∃ (x65_24 : Sl), acell (join ro ψ) σ ((⟨x3_1, 0, none⟩ : Addr).add 3) = some (Sl.v x65_24) ∧
   c_ref01_Copy B (join ro ψ) x65_24 σ fun x66_25 σ =>
   c_ztree_Tree_Set B (join ro ψ) x13_2 x63_22 x66_25 x68_23 σ fun x69_26 x69_27 σ =>
   (Disj ψ σ → (fun σ => 
    j4_law07_ZtreeStill B ro x13_2 x17_3 Q ((!(decide (x69_27 = 0))) && (decide (x69_26 = 0))) σ) (join ψ σ))
 else
 c_law07_awake B ro σ fun x20_28 σ =>
 Q x20_28 σ

set_option maxRecDepth 100000 in
set_option maxHeartbeats 4000000 in
theorem law07_ZtreeStill_ok {B : World} {ro : AH} {a0 : Sl} {a1_0 : Int} {a1_1 : Int} {a1_2 : ByteArray} {a1_3 : Sl} {a1_4 : Bool} {σ : AH} {Q : Bool → AH → Prop} (h : Sep ro σ → f_law07_ZtreeStill B ro a0 a1_0 a1_1 a1_2 a1_3 a1_4 σ Q) : c_law07_ZtreeStill B ro a0 a1_0 a1_1 a1_2 a1_3 a1_4 σ Q := by
  refine ACalls.of_sep fun hsep => ?_
  replace h := h hsep
  refine ACalls.of_body (args := [Sl.v a0, .agg #[.int .i64 a1_0, .int .i64 a1_1, .string a1_2, Sl.v a1_3, .bool a1_4]]) Tryz.func4 rfl (by rw [Tryz.ntmps4]; simp) ?_
  rw [Tryz.ntmps4]
  unfold f_law07_ZtreeStill at h
  refine AW.seq ?_
  refine AW.reg ?_
  refine Ls rfl rfl (X_new (A_box rfl rfl) fun x3_1 g1 g2 => ?_)
  replace h := h x3_1 g1 g2
  refine Lp (V_asg rfl rfl) rfl rfl ?_
  refine Lnil ?_
  refine thenN ?_
  refine AW.seq ?_
  refine AW.reg ?_
  refine Lp (V_move rfl rfl) rfl rfl ?_
  refine Ls rfl rfl (X_call rfl Tryz.func14 rfl rfl rfl (ACalls.mono h ?_))
  rintro v σ ⟨x13_2, rfl, h⟩
  refine Lp (V_asg rfl rfl) rfl rfl ?_
  refine Lnil ?_
  refine thenN ?_
  refine AW.seq ?_
  refine AW.seq ?_
  refine AW.reg ?_
  refine Lp (V_move rfl rfl) rfl rfl ?_
  refine Lp (V_eqP rfl Tryz.underlying23 rfl rfl) rfl rfl ?_
  refine Lnil ?_
  refine thenN ?_
  refine AW.iff rfl isNone_iff h (fun h => ?_) (fun h => ?_)
  · refine AW.seq ?_
    refine AW.reg ?_
    refine Lp (V_asg rfl rfl) rfl rfl ?_
    refine Lnil ?_
    refine thenN ?_
    refine AW.ret ?_
    refine thenR ?_
    exact bR1 Tryz.results4 rfl ⟨_, rfl, h⟩
  refine AW.skip ?_
  refine thenN ?_
  refine AW.seq ?_
  refine AW.reg ?_
  refine Lp (V_move rfl rfl) rfl rfl ?_
  refine Ls rfl rfl (X_call rfl Tryz.func21 rfl rfl rfl (ACalls.mono h ?_))
  rintro v σ ⟨x17_3, rfl, h⟩
  refine Lp (V_asg rfl rfl) rfl rfl ?_
  refine Lnil ?_
  refine thenN ?_
  refine AW.seq ?_
  refine AW.reg ?_
  refine Lp (V_asg rfl rfl) rfl rfl ?_
  refine Lnil ?_
  refine thenN ?_
  refine AW.seqJ (fun fr σ => ∃ (x7_5 : Bool), FrLe [(5, .pointer x13_2), (6, Sl.v x17_3), (7, .bool x7_5)] fr ∧ j4_law07_ZtreeStill B ro x13_2 x17_3 Q x7_5 σ) ?_ ?_
  · rintro fr σ ⟨x7_5, hl, h⟩
    refine AW.weaken ?_ hl (HLe.refl _)
    unfold j4_law07_ZtreeStill at h
    refine AW.seq ?_
    refine AW.reg ?_
    refine Lp (V_move rfl rfl) rfl rfl ?_
    refine Lp (V_move rfl rfl) rfl rfl ?_
    refine Ls rfl rfl (X_call rfl Tryz.func21 rfl rfl rfl (ACalls.mono h ?_))
    rintro v σ ⟨x80_6, rfl, h⟩
    refine Ls rfl rfl (X_call rfl Tryz.func26 rfl rfl rfl (ACalls.mono h ?_))
    rintro v σ ⟨x81_7, rfl, h⟩
    refine Lp (V_move rfl rfl) rfl rfl ?_
    refine Lp (V_eqB rfl Tryz.underlying4 rfl rfl) rfl rfl ?_
    refine Lp (V_move rfl rfl) rfl rfl ?_
    refine LsplitJ 2 (x81_7 == x7_5) beq_iff' h (fun fr σ => ∃ (x86_9 : Bool), FrLe [(86, .bool x86_9)] fr ∧ j8_law07_ZtreeStill B ro Q x86_9 σ) ?_ ?_ ?_
    · intro h e6 hk6
      refine Lyb rfl rfl rfl rfl e6 (X_call rfl Tryz.func20 rfl rfl rfl (ACalls.mono h ?_))
      rintro v σ ⟨x85_10, rfl, h⟩
      refine Lp (V_pickT rfl (evb e6) rfl) rfl rfl ?_
      exact hk6 _ _ ⟨_, (FrLe.cons rfl (FrLe.nil _)), h⟩
    · intro h e6 hk6
      refine Ln rfl rfl rfl rfl (.inl (by rw [e6]; rfl)) ?_
      refine Lp (V_pickF rfl (evb e6) rfl) rfl rfl ?_
      exact hk6 _ _ ⟨_, (FrLe.cons rfl (FrLe.nil _)), h⟩
    rintro fr σ ⟨x86_9, hl, h⟩
    unfold j8_law07_ZtreeStill at h
    refine Lfr hl ?_
    refine Lp (V_asg rfl rfl) rfl rfl ?_
    refine Lnil ?_
    refine thenN ?_
    refine AW.ret ?_
    exact bR1 Tryz.results4 rfl ⟨_, rfl, h⟩
  refine AW.seq ?_
  refine AW.reg ?_
  refine Lp (V_fld rfl Tryz.underlying40 rfl ty3 (by decide) rfl) rfl rfl ?_
  obtain ⟨x19_11, hc, h⟩ := h
  refine Ls rfl rfl (X_ld rfl Tryz.underlying3 rfl rfl hc ?_)
  refine Lnil ?_
  refine thenN ?_
  refine AW.block ?_
  refine AW.seq ?_
  refine AW.reg ?_
  refine Lp (V_eql rfl rfl rfl) rfl rfl ?_
  refine Lp (V_asg rfl rfl) rfl rfl ?_
  refine Lnil ?_
  refine thenN ?_
  refine AW.iff rfl decide_eq_true_iff h (fun h => ?_) (fun h => ?_)
  rotate_left
  · refine AW.seq ?_
    refine AW.reg ?_
    refine Lp (V_eql rfl rfl rfl) rfl rfl ?_
    refine Lp (V_asg rfl rfl) rfl rfl ?_
    refine Lnil ?_
    refine thenN ?_
    refine AW.iff rfl decide_eq_true_iff h (fun h => ?_) (fun h => ?_)
    · refine AW.reg ?_
      refine Lp (V_move rfl rfl) rfl rfl ?_
      refine Lp (V_fld rfl Tryz.underlying40 rfl ty9 (by decide) rfl) rfl rfl ?_
      obtain ⟨x53_19, hc, h⟩ := h
      refine Ls rfl rfl (X_ld rfl Tryz.underlying9 rfl rfl hc ?_)
      refine Lp (V_fld rfl Tryz.underlying40 rfl ty3 (by decide) rfl) rfl rfl ?_
      obtain ⟨x55_20, hc, h⟩ := h
      refine Ls rfl rfl (X_ld rfl Tryz.underlying3 rfl rfl hc ?_)
      refine Ls rfl rfl (X_call rfl Tryz.func24 rfl rfl rfl (ACalls.mono h ?_))
      rintro v σ ⟨x56_21, rfl, h⟩
      refine Lp (V_neq rfl rfl rfl) rfl rfl ?_
      refine Lp (V_asg rfl rfl) rfl rfl ?_
      refine Lnil ?_
      refine blockN ?_
      refine thenN ?_
      exact ⟨_, (FrLe.cons rfl (FrLe.cons rfl (FrLe.cons rfl (FrLe.nil _)))), h⟩
    refine AW.seq ?_
    refine AW.reg ?_
    refine Lp (V_eql rfl rfl rfl) rfl rfl ?_
    refine Lp (V_asg rfl rfl) rfl rfl ?_
    refine Lnil ?_
    refine thenN ?_
    refine AW.iff rfl decide_eq_true_iff h (fun h => ?_) (fun h => ?_)
    rotate_left
    · refine AW.seq ?_
      refine AW.reg ?_
      refine Ls rfl rfl (X_call rfl Tryz.func20 rfl rfl rfl (ACalls.mono h ?_))
      rintro v σ ⟨x20_28, rfl, h⟩
      refine Lp (V_asg rfl rfl) rfl rfl ?_
      refine Lnil ?_
      refine thenN ?_
      refine AW.ret ?_
      refine blockR ?_
      refine thenR ?_
      exact bR1 Tryz.results4 rfl ⟨_, rfl, h⟩
    refine AW.seq ?_
    refine AW.drawnL (fun i => ([0, 0, 0, 0, 3, 2, 0, 0, 2, 0, 0, 0, 0, 0] : List Nat).getD i 2) [(4, 5), (4, 8)] [0, 1, 2, 3, 6, 7, 4, 5, 8, 9, 10, 11, 12, 13] Tryz.mixed h (by decide +kernel) ?_
    clear h
    intro ψ σ h
    refine Dp rfl rfl rfl rfl (V_move rfl rfl) ?_
    refine Dp rfl rfl rfl rfl (V_fld rfl Tryz.underlying40 rfl ty9 (by decide) rfl) ?_
    obtain ⟨x63_22, hc, h⟩ := h
    refine Dp rfl rfl rfl rfl (V_ld rfl Tryz.underlying9 rfl rfl hc) ?_
    refine Dp rfl rfl rfl rfl (V_fld rfl Tryz.underlying40 rfl ty30 (by decide) rfl) ?_
    refine Dp rfl rfl rfl rfl (V_fld rfl Tryz.underlying40 rfl ty3 (by decide) rfl) ?_
    obtain ⟨x68_23, hc, h⟩ := h
    refine Dp rfl rfl rfl rfl (V_ld rfl Tryz.underlying3 rfl rfl hc) ?_
    obtain ⟨x65_24, hc, h⟩ := h
    refine Dr rfl rfl rfl rfl (R_ld rfl Tryz.underlying30 rfl rfl hc) ?_
    refine Dg rfl rfl rfl rfl (X_call rfl Tryz.func23 rfl rfl rfl (ACalls.mono h ?_))
    rintro v σ ⟨x66_25, rfl, h⟩
    refine Dg rfl rfl rfl rfl (X_call rfl Tryz.func25 rfl rfl rfl (ACalls.mono h ?_))
    rintro v σ ⟨x69_26, x69_27, rfl, h⟩
    refine Dp rfl rfl rfl rfl (V_move rfl rfl) ?_
    refine Dp rfl rfl rfl rfl (V_ext rfl rfl rfl) ?_
    refine Dp rfl rfl rfl rfl (V_ext rfl rfl rfl) ?_
    refine Dp rfl rfl rfl rfl (V_asg rfl rfl) ?_
    refine Dp rfl rfl rfl rfl (V_asg rfl rfl) ?_
    refine ⟨_, FrEq.refl _, fun hdj => ?_⟩
    replace h := h hdj
    refine thenN ?_
    refine AW.reg ?_
    refine Lp (V_move rfl rfl) rfl rfl ?_
    refine Lp (V_neq rfl rfl rfl) rfl rfl ?_
    refine Lp (V_move rfl rfl) rfl rfl ?_
    refine Lsplit 3 (!(decide (x69_27 = 0))) [(5, .pointer x13_2), (6, Sl.v x17_3), (77, .bool ((!(decide (x69_27 = 0))) && (decide (x69_26 = 0))))] ?_ ?_ ?_
    · intro e2 hk2
      refine Lypb (V_move rfl rfl) rfl rfl rfl rfl e2 ?_
      refine Lypb (V_eql rfl rfl rfl) rfl rfl rfl rfl e2 ?_
      refine Lp (V_pickT rfl (evb e2) rfl) rfl rfl ?_
      exact hk2 _ (FrLe.cons rfl (FrLe.cons rfl (FrLe.cons (by rw [e2]; rfl) (FrLe.nil _))))
    · intro e2 hk2
      refine Ln rfl rfl rfl rfl (.inl (by rw [e2]; rfl)) ?_
      refine Ln rfl rfl rfl rfl (.inl (by rw [e2]; rfl)) ?_
      refine Lp (V_pickF rfl (evb e2) rfl) rfl rfl ?_
      exact hk2 _ (FrLe.cons rfl (FrLe.cons rfl (FrLe.cons (by rw [e2]; rfl) (FrLe.nil _))))
    intro fr hl
    refine Lfr hl ?_
    refine Lp (V_asg rfl rfl) rfl rfl ?_
    refine Lnil ?_
    refine blockN ?_
    refine thenN ?_
    exact ⟨_, (FrLe.cons rfl (FrLe.cons rfl (FrLe.cons rfl (FrLe.nil _)))), h⟩
  refine AW.seq ?_
  refine AW.drawnL (fun i => ([0, 0, 0, 0, 3, 2, 0, 0, 0, 0, 2, 0, 0, 0, 0, 0] : List Nat).getD i 2) [(4, 5), (4, 10)] [0, 1, 2, 3, 6, 7, 8, 9, 4, 5, 10, 11, 12, 13, 14, 15] Tryz.mixed h (by decide +kernel) ?_
  clear h
  intro ψ σ h
  refine Dp rfl rfl rfl rfl (V_move rfl rfl) ?_
  refine Dp rfl rfl rfl rfl (V_fld rfl Tryz.underlying40 rfl ty9 (by decide) rfl) ?_
  obtain ⟨x26_12, hc, h⟩ := h
  refine Dp rfl rfl rfl rfl (V_ld rfl Tryz.underlying9 rfl rfl hc) ?_
  refine Dp rfl rfl rfl rfl (V_fld rfl Tryz.underlying40 rfl ty30 (by decide) rfl) ?_
  refine Dp rfl rfl rfl rfl (V_fld rfl Tryz.underlying40 rfl ty3 (by decide) rfl) ?_
  obtain ⟨x31_13, hc, h⟩ := h
  refine Dp rfl rfl rfl rfl (V_ld rfl Tryz.underlying3 rfl rfl hc) ?_
  refine Dp rfl rfl rfl rfl (V_fld rfl Tryz.underlying40 rfl ty4 (by decide) rfl) ?_
  obtain ⟨x33_14, hc, h⟩ := h
  refine Dp rfl rfl rfl rfl (V_ld rfl Tryz.underlying4 rfl rfl hc) ?_
  obtain ⟨x28_15, hc, h⟩ := h
  refine Dr rfl rfl rfl rfl (R_ld rfl Tryz.underlying30 rfl rfl hc) ?_
  refine Dg rfl rfl rfl rfl (X_call rfl Tryz.func23 rfl rfl rfl (ACalls.mono h ?_))
  rintro v σ ⟨x29_16, rfl, h⟩
  refine Dg rfl rfl rfl rfl (X_call rfl Tryz.func22 rfl rfl rfl (ACalls.mono h ?_))
  rintro v σ ⟨x34_17, x34_18, rfl, h⟩
  refine Dp rfl rfl rfl rfl (V_move rfl rfl) ?_
  refine Dp rfl rfl rfl rfl (V_ext rfl rfl rfl) ?_
  refine Dp rfl rfl rfl rfl (V_ext rfl rfl rfl) ?_
  refine Dp rfl rfl rfl rfl (V_asg rfl rfl) ?_
  refine Dp rfl rfl rfl rfl (V_asg rfl rfl) ?_
  refine ⟨_, FrEq.refl _, fun hdj => ?_⟩
  replace h := h hdj
  refine thenN ?_
  refine AW.seq ?_
  refine AW.reg ?_
  refine Lp (V_move rfl rfl) rfl rfl ?_
  refine Lp (V_neq rfl rfl rfl) rfl rfl ?_
  refine Lp (V_move rfl rfl) rfl rfl ?_
  refine Lsplit 3 (!(decide (x34_18 = 0))) [(5, .pointer x13_2), (6, Sl.v x17_3), (8, .string x34_17), (9, .int .i64 x34_18), (42, .bool ((!(decide (x34_18 = 0))) && (decide (x34_17 = (⟨#[]⟩ : ByteArray)))))] ?_ ?_ ?_
  · intro e2 hk2
    refine Lypb (V_move rfl rfl) rfl rfl rfl rfl e2 ?_
    refine Lypb (V_eqlS rfl rfl rfl) rfl rfl rfl rfl e2 ?_
    refine Lp (V_pickT rfl (evb e2) rfl) rfl rfl ?_
    exact hk2 _ (FrLe.cons rfl (FrLe.cons rfl (FrLe.cons rfl (FrLe.cons rfl (FrLe.cons (by rw [e2]; rfl) (FrLe.nil _))))))
  · intro e2 hk2
    refine Ln rfl rfl rfl rfl (.inl (by rw [e2]; rfl)) ?_
    refine Ln rfl rfl rfl rfl (.inl (by rw [e2]; rfl)) ?_
    refine Lp (V_pickF rfl (evb e2) rfl) rfl rfl ?_
    exact hk2 _ (FrLe.cons rfl (FrLe.cons rfl (FrLe.cons rfl (FrLe.cons rfl (FrLe.cons (by rw [e2]; rfl) (FrLe.nil _))))))
  intro fr hl
  refine Lfr hl ?_
  refine Lp (V_asg rfl rfl) rfl rfl ?_
  refine Lnil ?_
  refine thenN ?_
  refine AW.seq ?_
  refine AW.reg ?_
  refine Lp (V_move rfl rfl) rfl rfl ?_
  refine Lp (V_eql rfl rfl rfl) rfl rfl ?_
  refine Lp (V_move rfl rfl) rfl rfl ?_
  refine Lsplit 3 (decide (x34_18 = 0)) [(5, .pointer x13_2), (6, Sl.v x17_3), (7, .bool ((!(decide (x34_18 = 0))) && (decide (x34_17 = (⟨#[]⟩ : ByteArray))))), (48, .bool ((decide (x34_18 = 0)) && (decide (x34_17 = (⟨#[]⟩ : ByteArray)))))] ?_ ?_ ?_
  · intro e2 hk2
    refine Lypb (V_move rfl rfl) rfl rfl rfl rfl e2 ?_
    refine Lypb (V_eqlS rfl rfl rfl) rfl rfl rfl rfl e2 ?_
    refine Lp (V_pickT rfl (evb e2) rfl) rfl rfl ?_
    exact hk2 _ (FrLe.cons rfl (FrLe.cons rfl (FrLe.cons rfl (FrLe.cons (by rw [e2]; rfl) (FrLe.nil _)))))
  · intro e2 hk2
    refine Ln rfl rfl rfl rfl (.inl (by rw [e2]; rfl)) ?_
    refine Ln rfl rfl rfl rfl (.inl (by rw [e2]; rfl)) ?_
    refine Lp (V_pickF rfl (evb e2) rfl) rfl rfl ?_
    exact hk2 _ (FrLe.cons rfl (FrLe.cons rfl (FrLe.cons rfl (FrLe.cons (by rw [e2]; rfl) (FrLe.nil _)))))
  intro fr hl
  refine Lfr hl ?_
  refine Lnil ?_
  refine thenN ?_
  refine AW.iff rfl (band_iff decide_eq_true_iff decide_eq_true_iff) h (fun h => ?_) (fun h => ?_)
  rotate_left
  · refine AW.skip ?_
    refine blockN ?_
    refine thenN ?_
    exact ⟨_, (FrLe.cons rfl (FrLe.cons rfl (FrLe.cons rfl (FrLe.nil _)))), h⟩
  refine AW.seq ?_
  refine AW.reg ?_
  refine Lp (V_asg rfl rfl) rfl rfl ?_
  refine Lnil ?_
  refine thenN ?_
  refine AW.ret ?_
  refine blockR ?_
  refine thenR ?_
  exact bR1 Tryz.results4 rfl ⟨_, rfl, h⟩

def j2_law07_made (B : World) (ro : AH) (x6_1 : Option Addr) (Q : Option Addr → AH → Prop) (σ : AH) : Prop :=
 Q x6_1 σ

def j5_law07_made (B : World) (ro : AH) (a0 : Sl) (x6_1 : Option Addr) (x11_4 : Int) (Q : Option Addr → AH → Prop) (Y3 : (Int) → AH → Prop) (σ : AH) : Prop :=
 Y3 (IntKind.i64.wrap (x11_4 + 1)) σ

def l3_law07_made (B : World) (ro : AH) (a0 : Sl) (x6_1 : Option Addr) (Q : Option Addr → AH → Prop) : (Int) → AH → ((Int) → AH → Prop) → Prop := fun x11_4 σ Y3 =>
 if x11_4 < (a0.len : Int) then
  ∃ p13_6 : Addr, a0.a = some p13_6 ∧ (0 : Int) ≤ x11_4 ∧ x11_4 < (a0.len : Int) ∧
  ∃ (x14_7a : Int) (x14_7b : Int) (x14_7c : ByteArray) (x14_7d : Sl) (x14_7e : Bool), cellsAt ro σ (p13_6.add (Int.toNat x11_4 * 5)) 0 [.int .i64 x14_7a, .int .i64 x14_7b, .string x14_7c, Sl.v x14_7d, .bool x14_7e] ∧
  nw ro σ (.cells #[.int .i64 0, .int .i64 0, .string ByteArray.empty, Sl.v (⟨none, 0, 0⟩ : Sl), .bool false] 40) fun x5_8 σ =>
  stN ⟨x5_8, 0, none⟩ (fun σ =>
   ∃ (x16_9 : Int), acell ro σ ⟨x5_8, 0, none⟩ = some (.int .i64 x16_9) ∧
   if x16_9 = 1 then
    lent σ fun ψ σ =>
     ∃ (x21_10 : ByteArray), acell (join ro ψ) (fun _ => none) ((⟨x5_8, 0, none⟩ : Addr).add 2) = some (.string x21_10) ∧
     ∃ (x26_11 : Int), acell (join ro ψ) (fun _ => none) ((⟨x5_8, 0, none⟩ : Addr).add 1) = some (.int .i64 x26_11) ∧
     ∃ (x28_12 : Bool), acell (join ro ψ) (fun _ => none) ((⟨x5_8, 0, none⟩ : Addr).add 4) = some (.bool x28_12) ∧
     ∃ (x23_13 : Sl), acell (join ro ψ) σ ((⟨x5_8, 0, none⟩ : Addr).add 3) = some (Sl.v x23_13) ∧
     c_ref01_Copy B (join ro ψ) x23_13 σ fun x24_14 σ =>
     c_ztree_Tree_Create B (join ro ψ) x6_1 x21_10 x24_14 x26_11 x28_12 σ fun x29_15 x29_16 σ =>
     (Disj ψ σ → (fun σ => 
      j5_law07_made B ro a0 x6_1 x11_4 Q Y3 σ) (join ψ σ))
   else
   if x16_9 = 2 then
    ∃ (x34_17 : ByteArray), acell ro σ ((⟨x5_8, 0, none⟩ : Addr).add 2) = some (.string x34_17) ∧
    ∃ (x36_18 : Int), acell ro σ ((⟨x5_8, 0, none⟩ : Addr).add 1) = some (.int .i64 x36_18) ∧
    c_ztree_Tree_Delete B ro x6_1 x34_17 x36_18 σ fun x37_19 σ =>
    j5_law07_made B ro a0 x6_1 x11_4 Q Y3 σ
   else
   if x16_9 = 3 then
    lent σ fun ψ σ =>
     ∃ (x42_20 : ByteArray), acell (join ro ψ) (fun _ => none) ((⟨x5_8, 0, none⟩ : Addr).add 2) = some (.string x42_20) ∧
     ∃ (x47_21 : Int), acell (join ro ψ) (fun _ => none) ((⟨x5_8, 0, none⟩ : Addr).add 1) = some (.int .i64 x47_21) ∧
     ∃ (x44_22 : Sl), acell (join ro ψ) σ ((⟨x5_8, 0, none⟩ : Addr).add 3) = some (Sl.v x44_22) ∧
     c_ref01_Copy B (join ro ψ) x44_22 σ fun x45_23 σ =>
     c_ztree_Tree_Set B (join ro ψ) x6_1 x42_20 x45_23 x47_21 σ fun x48_24 x48_25 σ =>
     (Disj ψ σ → (fun σ => 
      j5_law07_made B ro a0 x6_1 x11_4 Q Y3 σ) (join ψ σ))
   else
   j5_law07_made B ro a0 x6_1 x11_4 Q Y3 σ) [.int .i64 x14_7a, .int .i64 x14_7b, .string x14_7c, Sl.v x14_7d, .bool x14_7e] 0 σ
 else
 j2_law07_made B ro x6_1 Q σ

def f_law07_made (B : World) (ro : AH) (a0 : Sl) (σ : AH) (Q : Option Addr → AH → Prop) : Prop :=
 c_ztree_New B ro σ fun x6_1 σ =>
 if x6_1 = none then
  Q none σ
 else
 lfpD (l3_law07_made B ro a0 x6_1 Q ) (0) σ

set_option maxRecDepth 100000 in
set_option maxHeartbeats 4000000 in
theorem law07_made_ok {B : World} {ro : AH} {a0 : Sl} {σ : AH} {Q : Option Addr → AH → Prop} (h : Sep ro σ → f_law07_made B ro a0 σ Q) : c_law07_made B ro a0 σ Q := by
  refine ACalls.of_sep fun hsep => ?_
  replace h := h hsep
  refine ACalls.of_body (args := [Sl.v a0]) Tryz.func14 rfl (by rw [Tryz.ntmps14]; simp) ?_
  rw [Tryz.ntmps14]
  unfold f_law07_made at h
  refine AW.seq ?_
  refine AW.reg ?_
  refine Lp (V_asg rfl rfl) rfl rfl ?_
  refine Lnil ?_
  refine thenN ?_
  refine AW.seq ?_
  refine AW.reg ?_
  refine Ls rfl rfl (X_call rfl Tryz.func30 rfl rfl rfl (ACalls.mono h ?_))
  rintro v σ ⟨x6_1, rfl, h⟩
  refine Lp (V_asg rfl rfl) rfl rfl ?_
  refine Lnil ?_
  refine thenN ?_
  refine AW.seq ?_
  refine AW.seq ?_
  refine AW.reg ?_
  refine Lp (V_move rfl rfl) rfl rfl ?_
  refine Lp (V_eqP rfl Tryz.underlying23 rfl rfl) rfl rfl ?_
  refine Lnil ?_
  refine thenN ?_
  refine AW.iff rfl isNone_iff h (fun h => ?_) (fun h => ?_)
  · refine AW.seq ?_
    refine AW.reg ?_
    refine Lp (V_asg rfl rfl) rfl rfl ?_
    refine Lnil ?_
    refine thenN ?_
    refine AW.ret ?_
    refine thenR ?_
    exact bR1 Tryz.results14 rfl ⟨_, rfl, h⟩
  refine AW.skip ?_
  refine thenN ?_
  refine AW.seqJ (fun fr σ => FrLe [(3, .pointer x6_1)] fr ∧ j2_law07_made B ro x6_1 Q σ) ?_ ?_
  · rintro fr σ ⟨hl, h⟩
    refine AW.weaken ?_ hl (HLe.refl _)
    unfold j2_law07_made at h
    refine AW.seq ?_
    refine AW.reg ?_
    refine Lp (V_move rfl rfl) rfl rfl ?_
    refine Lp (V_asg rfl rfl) rfl rfl ?_
    refine Lnil ?_
    refine thenN ?_
    refine AW.ret ?_
    exact bR1 Tryz.results14 rfl ⟨_, rfl, h⟩
  refine AW.seq ?_
  refine AW.reg ?_
  refine Lp (V_move rfl rfl) rfl rfl ?_
  refine Lp (V_lenL rfl rfl Tryz.underlying22 rfl rfl) rfl rfl ?_
  refine Lp (V_move rfl rfl) rfl rfl ?_
  refine Lnil ?_
  refine thenN ?_
  refine AW.block ?_
  refine ARound.loop (fr' := [(3, .pointer x6_1), (9, Sl.v a0), (10, .int .i64 (a0.len : Int)), (11, .int .i64 0)]) ?_ (FrLe.cons rfl (FrLe.cons rfl (FrLe.cons rfl (FrLe.cons rfl (FrLe.nil _)))))
  refine h (fun x11_4 σ => ARound _ _ _ _ _ _ [(3, .pointer x6_1), (9, Sl.v a0), (10, .int .i64 (a0.len : Int)), (11, .int .i64 x11_4)] σ) ?_
  rintro x11_4 σ Y3 hY3 h
  show AW _ _ _ _ _ _ _ _
  unfold l3_law07_made at h
  refine AW.seq ?_
  refine AW.reg ?_
  refine Lp (V_lss rfl rfl rfl) rfl rfl ?_
  refine Lnil ?_
  refine thenN ?_
  refine AW.seq ?_
  refine AW.iff rfl decide_eq_true_iff h (fun h => ?_) (fun h => ?_)
  rotate_left
  · refine AW.exit ?_
    refine thenE ?_
    refine thenE ?_
    refine blockE ?_
    refine thenN ?_
    exact ⟨(FrLe.cons rfl (FrLe.nil _)), h⟩
  refine AW.skip ?_
  refine thenN ?_
  refine AW.seqJ (fun fr σ => FrLe [(3, .pointer x6_1), (9, Sl.v a0), (10, .int .i64 (a0.len : Int)), (11, .int .i64 x11_4)] fr ∧ j5_law07_made B ro a0 x6_1 x11_4 Q Y3 σ) ?_ ?_
  · rintro fr σ ⟨hl, h⟩
    refine AW.weaken ?_ hl (HLe.refl _)
    unfold j5_law07_made at h
    refine AW.reg ?_
    refine Lp (V_add rfl rfl rfl) rfl rfl ?_
    refine Lp (V_move rfl rfl) rfl rfl ?_
    refine Lnil ?_
    refine thenN ?_
    refine ARound.head (fr' := [(3, .pointer x6_1), (9, Sl.v a0), (10, .int .i64 (a0.len : Int)), (11, .int .i64 (IntKind.i64.wrap (x11_4 + 1)))]) ?_ (FrLe.cons rfl (FrLe.cons rfl (FrLe.cons rfl (FrLe.cons rfl (FrLe.nil _)))))
    exact hY3 _ _ h
  refine AW.block ?_
  refine AW.seq ?_
  refine AW.reg ?_
  obtain ⟨p13_6, ha, h0, h1, h⟩ := h
  refine Lp (V_ixA rfl Tryz.underlying22 ty40 (ixL rfl ha) rfl h0 h1) rfl rfl ?_
  obtain ⟨x14_7a, x14_7b, x14_7c, x14_7d, x14_7e, hc, h⟩ := h
  refine Ls rfl rfl (X_lda rfl Tryz.underlying40 rfl ty40 rfl hc ?_)
  refine Ls rfl rfl (X_new (A_alloc rfl ty40) fun x5_8 g1 g2 => ?_)
  replace h := h x5_8 g1 g2
  refine Ls rfl rfl (X_st rfl ty40 rfl rfl rfl rfl (stN_mono h fun σ h => ?_))
  refine Lnil ?_
  refine thenN ?_
  refine AW.seq ?_
  refine AW.reg ?_
  refine Lp (V_fld rfl Tryz.underlying40 rfl ty3 (by decide) rfl) rfl rfl ?_
  obtain ⟨x16_9, hc, h⟩ := h
  refine Ls rfl rfl (X_ld rfl Tryz.underlying3 rfl rfl hc ?_)
  refine Lnil ?_
  refine thenN ?_
  refine AW.block ?_
  refine AW.seq ?_
  refine AW.reg ?_
  refine Lp (V_eql rfl rfl rfl) rfl rfl ?_
  refine Lp (V_asg rfl rfl) rfl rfl ?_
  refine Lnil ?_
  refine thenN ?_
  refine AW.iff rfl decide_eq_true_iff h (fun h => ?_) (fun h => ?_)
  · refine AW.drawnL (fun i => ([0, 0, 0, 0, 3, 2, 0, 0, 0, 0, 2] : List Nat).getD i 2) [(4, 5), (4, 10)] [0, 1, 2, 3, 6, 7, 8, 9, 4, 5, 10] Tryz.mixed h (by decide +kernel) ?_
    clear h
    intro ψ σ h
    refine Dp rfl rfl rfl rfl (V_move rfl rfl) ?_
    refine Dp rfl rfl rfl rfl (V_fld rfl Tryz.underlying40 rfl ty9 (by decide) rfl) ?_
    obtain ⟨x21_10, hc, h⟩ := h
    refine Dp rfl rfl rfl rfl (V_ld rfl Tryz.underlying9 rfl rfl hc) ?_
    refine Dp rfl rfl rfl rfl (V_fld rfl Tryz.underlying40 rfl ty30 (by decide) rfl) ?_
    refine Dp rfl rfl rfl rfl (V_fld rfl Tryz.underlying40 rfl ty3 (by decide) rfl) ?_
    obtain ⟨x26_11, hc, h⟩ := h
    refine Dp rfl rfl rfl rfl (V_ld rfl Tryz.underlying3 rfl rfl hc) ?_
    refine Dp rfl rfl rfl rfl (V_fld rfl Tryz.underlying40 rfl ty4 (by decide) rfl) ?_
    obtain ⟨x28_12, hc, h⟩ := h
    refine Dp rfl rfl rfl rfl (V_ld rfl Tryz.underlying4 rfl rfl hc) ?_
    obtain ⟨x23_13, hc, h⟩ := h
    refine Dr rfl rfl rfl rfl (R_ld rfl Tryz.underlying30 rfl rfl hc) ?_
    refine Dg rfl rfl rfl rfl (X_call rfl Tryz.func23 rfl rfl rfl (ACalls.mono h ?_))
    rintro v σ ⟨x24_14, rfl, h⟩
    refine Dg rfl rfl rfl rfl (X_call rfl Tryz.func22 rfl rfl rfl (ACalls.mono h ?_))
    rintro v σ ⟨x29_15, x29_16, rfl, h⟩
    refine ⟨_, FrEq.refl _, fun hdj => ?_⟩
    replace h := h hdj
    refine blockN ?_
    refine blockN ?_
    refine thenN ?_
    exact ⟨(FrLe.cons rfl (FrLe.cons rfl (FrLe.cons rfl (FrLe.cons rfl (FrLe.nil _))))), h⟩
  refine AW.seq ?_
  refine AW.reg ?_
  refine Lp (V_eql rfl rfl rfl) rfl rfl ?_
  refine Lp (V_asg rfl rfl) rfl rfl ?_
  refine Lnil ?_
  refine thenN ?_
  refine AW.iff rfl decide_eq_true_iff h (fun h => ?_) (fun h => ?_)
  · refine AW.reg ?_
    refine Lp (V_move rfl rfl) rfl rfl ?_
    refine Lp (V_fld rfl Tryz.underlying40 rfl ty9 (by decide) rfl) rfl rfl ?_
    obtain ⟨x34_17, hc, h⟩ := h
    refine Ls rfl rfl (X_ld rfl Tryz.underlying9 rfl rfl hc ?_)
    refine Lp (V_fld rfl Tryz.underlying40 rfl ty3 (by decide) rfl) rfl rfl ?_
    obtain ⟨x36_18, hc, h⟩ := h
    refine Ls rfl rfl (X_ld rfl Tryz.underlying3 rfl rfl hc ?_)
    refine Ls rfl rfl (X_call rfl Tryz.func24 rfl rfl rfl (ACalls.mono h ?_))
    rintro v σ ⟨x37_19, rfl, h⟩
    refine Lnil ?_
    refine blockN ?_
    refine blockN ?_
    refine thenN ?_
    exact ⟨(FrLe.cons rfl (FrLe.cons rfl (FrLe.cons rfl (FrLe.cons rfl (FrLe.nil _))))), h⟩
  refine AW.seq ?_
  refine AW.reg ?_
  refine Lp (V_eql rfl rfl rfl) rfl rfl ?_
  refine Lp (V_asg rfl rfl) rfl rfl ?_
  refine Lnil ?_
  refine thenN ?_
  refine AW.iff rfl decide_eq_true_iff h (fun h => ?_) (fun h => ?_)
  rotate_left
  · refine AW.skip ?_
    refine blockN ?_
    refine blockN ?_
    refine thenN ?_
    exact ⟨(FrLe.cons rfl (FrLe.cons rfl (FrLe.cons rfl (FrLe.cons rfl (FrLe.nil _))))), h⟩
  refine AW.drawnL (fun i => ([0, 0, 0, 0, 3, 2, 0, 0, 2] : List Nat).getD i 2) [(4, 5), (4, 8)] [0, 1, 2, 3, 6, 7, 4, 5, 8] Tryz.mixed h (by decide +kernel) ?_
  clear h
  intro ψ σ h
  refine Dp rfl rfl rfl rfl (V_move rfl rfl) ?_
  refine Dp rfl rfl rfl rfl (V_fld rfl Tryz.underlying40 rfl ty9 (by decide) rfl) ?_
  obtain ⟨x42_20, hc, h⟩ := h
  refine Dp rfl rfl rfl rfl (V_ld rfl Tryz.underlying9 rfl rfl hc) ?_
  refine Dp rfl rfl rfl rfl (V_fld rfl Tryz.underlying40 rfl ty30 (by decide) rfl) ?_
  refine Dp rfl rfl rfl rfl (V_fld rfl Tryz.underlying40 rfl ty3 (by decide) rfl) ?_
  obtain ⟨x47_21, hc, h⟩ := h
  refine Dp rfl rfl rfl rfl (V_ld rfl Tryz.underlying3 rfl rfl hc) ?_
  obtain ⟨x44_22, hc, h⟩ := h
  refine Dr rfl rfl rfl rfl (R_ld rfl Tryz.underlying30 rfl rfl hc) ?_
  refine Dg rfl rfl rfl rfl (X_call rfl Tryz.func23 rfl rfl rfl (ACalls.mono h ?_))
  rintro v σ ⟨x45_23, rfl, h⟩
  refine Dg rfl rfl rfl rfl (X_call rfl Tryz.func25 rfl rfl rfl (ACalls.mono h ?_))
  rintro v σ ⟨x48_24, x48_25, rfl, h⟩
  refine ⟨_, FrEq.refl _, fun hdj => ?_⟩
  replace h := h hdj
  refine blockN ?_
  refine blockN ?_
  refine thenN ?_
  exact ⟨(FrLe.cons rfl (FrLe.cons rfl (FrLe.cons rfl (FrLe.cons rfl (FrLe.nil _))))), h⟩

def j8_law07_awake (B : World) (ro : AH) (Q : Bool → AH → Prop) (x39_9 : Bool) (σ : AH) : Prop :=
 Q x39_9 σ

def f_law07_awake (B : World) (ro : AH) (σ : AH) (Q : Bool → AH → Prop) : Prop :=
 c_ztree_New B ro σ fun x6_1 σ =>
 if x6_1 = none then
  Q false σ
 else
 nw ro σ (.cells #[.int .u8 120] 5) fun x11_2 σ =>
 awp Tryz.prog ro (convert 30 30 (Sl.v (⟨some ⟨x11_2, 0, none⟩, 1, 1⟩ : Sl))) (fun v σ =>
  (∃ (x12_3 : Sl), v = Sl.v x12_3 ∧
   c_ztree_Tree_Create B ro x6_1 (⟨#[47, 97]⟩ : ByteArray) x12_3 0 false σ fun x13_4 x13_5 σ =>
   c_ztree_Tree_Create B ro x6_1 (⟨#[47, 97, 47, 115]⟩ : ByteArray) (⟨none, 0, 0⟩ : Sl) 0 true σ fun x18_6 x18_7 σ =>
   if (((x13_5 = 0) ∧ (x18_7 = 0)) ∧ (x13_4 = (⟨#[47, 97]⟩ : ByteArray))) ∧ (x18_6 = (⟨#[47, 97, 47, 115, 48, 48, 48, 48, 48, 48, 48, 48, 48, 48]⟩ : ByteArray)) then
    c_ztree_Tree_Size B ro x6_1 σ fun x37_10 σ =>
    j8_law07_awake B ro Q (decide (x37_10 = 3)) σ
   else
   j8_law07_awake B ro Q false σ)) σ

set_option maxRecDepth 100000 in
set_option maxHeartbeats 4000000 in
theorem law07_awake_ok {B : World} {ro : AH} {σ : AH} {Q : Bool → AH → Prop} (h : Sep ro σ → f_law07_awake B ro σ Q) : c_law07_awake B ro σ Q := by
  refine ACalls.of_sep fun hsep => ?_
  replace h := h hsep
  refine ACalls.of_body (args := []) Tryz.func20 rfl (by rw [Tryz.ntmps20]; simp) ?_
  rw [Tryz.ntmps20]
  unfold f_law07_awake at h
  refine AW.seq ?_
  refine AW.reg ?_
  refine Lp (V_asg rfl rfl) rfl rfl ?_
  refine Lnil ?_
  refine thenN ?_
  refine AW.seq ?_
  refine AW.reg ?_
  refine Ls rfl rfl (X_call rfl Tryz.func30 rfl rfl rfl (ACalls.mono h ?_))
  rintro v σ ⟨x6_1, rfl, h⟩
  refine Lp (V_asg rfl rfl) rfl rfl ?_
  refine Lnil ?_
  refine thenN ?_
  refine AW.seq ?_
  refine AW.seq ?_
  refine AW.reg ?_
  refine Lp (V_move rfl rfl) rfl rfl ?_
  refine Lp (V_eqP rfl Tryz.underlying23 rfl rfl) rfl rfl ?_
  refine Lnil ?_
  refine thenN ?_
  refine AW.iff rfl isNone_iff h (fun h => ?_) (fun h => ?_)
  · refine AW.seq ?_
    refine AW.reg ?_
    refine Lp (V_asg rfl rfl) rfl rfl ?_
    refine Lnil ?_
    refine thenN ?_
    refine AW.ret ?_
    refine thenR ?_
    exact bR1 Tryz.results20 rfl ⟨_, rfl, h⟩
  refine AW.skip ?_
  refine thenN ?_
  refine AW.seq ?_
  refine AW.reg ?_
  refine Lp (V_move rfl rfl) rfl rfl ?_
  refine Ls rfl rfl (X_new (A_bsl (vs := [(0, .int .u8 120)]) (cs := #[.int .u8 120]) rfl Tryz.underlying30 ty5 (by decide) rfl rfl) fun x11_2 g1 g2 => ?_)
  replace h := h x11_2 g1 g2
  refine Ls rfl rfl (X_cvt rfl rfl (awp_mono _ h ?_))
  rintro v σ ⟨x12_3, rfl, h⟩
  refine Ls rfl rfl (X_call rfl Tryz.func22 rfl rfl rfl (ACalls.mono h ?_))
  rintro v σ ⟨x13_4, x13_5, rfl, h⟩
  refine Lp (V_move rfl rfl) rfl rfl ?_
  refine Lp (V_ext rfl rfl rfl) rfl rfl ?_
  refine Lp (V_ext rfl rfl rfl) rfl rfl ?_
  refine Lp (V_asg rfl rfl) rfl rfl ?_
  refine Lp (V_asg rfl rfl) rfl rfl ?_
  refine Lnil ?_
  refine thenN ?_
  refine AW.seq ?_
  refine AW.reg ?_
  refine Lp (V_move rfl rfl) rfl rfl ?_
  refine Ls rfl rfl (X_call rfl Tryz.func22 rfl rfl rfl (ACalls.mono h ?_))
  rintro v σ ⟨x18_6, x18_7, rfl, h⟩
  refine Lp (V_move rfl rfl) rfl rfl ?_
  refine Lp (V_ext rfl rfl rfl) rfl rfl ?_
  refine Lp (V_ext rfl rfl rfl) rfl rfl ?_
  refine Lp (V_asg rfl rfl) rfl rfl ?_
  refine Lp (V_asg rfl rfl) rfl rfl ?_
  refine Lnil ?_
  refine thenN ?_
  refine AW.seq ?_
  refine AW.reg ?_
  refine Lp (V_move rfl rfl) rfl rfl ?_
  refine Lp (V_eql rfl rfl rfl) rfl rfl ?_
  refine Lp (V_move rfl rfl) rfl rfl ?_
  refine Lsplit 3 (decide (x13_5 = 0)) [(1, .pointer x6_1), (2, .string x13_4), (4, .string x18_6), (26, .bool ((decide (x13_5 = 0)) && (decide (x18_7 = 0))))] ?_ ?_ ?_
  · intro e2 hk2
    refine Lypb (V_move rfl rfl) rfl rfl rfl rfl e2 ?_
    refine Lypb (V_eql rfl rfl rfl) rfl rfl rfl rfl e2 ?_
    refine Lp (V_pickT rfl (evb e2) rfl) rfl rfl ?_
    exact hk2 _ (FrLe.cons rfl (FrLe.cons rfl (FrLe.cons rfl (FrLe.cons (by rw [e2]; rfl) (FrLe.nil _)))))
  · intro e2 hk2
    refine Ln rfl rfl rfl rfl (.inl (by rw [e2]; rfl)) ?_
    refine Ln rfl rfl rfl rfl (.inl (by rw [e2]; rfl)) ?_
    refine Lp (V_pickF rfl (evb e2) rfl) rfl rfl ?_
    exact hk2 _ (FrLe.cons rfl (FrLe.cons rfl (FrLe.cons rfl (FrLe.cons (by rw [e2]; rfl) (FrLe.nil _)))))
  intro fr hl
  refine Lfr hl ?_
  refine Lp (V_move rfl rfl) rfl rfl ?_
  refine Lsplit 3 ((decide (x13_5 = 0)) && (decide (x18_7 = 0))) [(1, .pointer x6_1), (4, .string x18_6), (30, .bool (((decide (x13_5 = 0)) && (decide (x18_7 = 0))) && (decide (x13_4 = (⟨#[47, 97]⟩ : ByteArray)))))] ?_ ?_ ?_
  · intro e6 hk6
    refine Lypb (V_move rfl rfl) rfl rfl rfl rfl e6 ?_
    refine Lypb (V_eqlS rfl rfl rfl) rfl rfl rfl rfl e6 ?_
    refine Lp (V_pickT rfl (evb e6) rfl) rfl rfl ?_
    exact hk6 _ (FrLe.cons rfl (FrLe.cons rfl (FrLe.cons (by rw [e6]; rfl) (FrLe.nil _))))
  · intro e6 hk6
    refine Ln rfl rfl rfl rfl (.inl (by rw [e6]; rfl)) ?_
    refine Ln rfl rfl rfl rfl (.inl (by rw [e6]; rfl)) ?_
    refine Lp (V_pickF rfl (evb e6) rfl) rfl rfl ?_
    exact hk6 _ (FrLe.cons rfl (FrLe.cons rfl (FrLe.cons (by rw [e6]; rfl) (FrLe.nil _))))
  intro fr hl
  refine Lfr hl ?_
  refine Lp (V_move rfl rfl) rfl rfl ?_
  refine Lsplit 3 (((decide (x13_5 = 0)) && (decide (x18_7 = 0))) && (decide (x13_4 = (⟨#[47, 97]⟩ : ByteArray)))) [(1, .pointer x6_1), (34, .bool ((((decide (x13_5 = 0)) && (decide (x18_7 = 0))) && (decide (x13_4 = (⟨#[47, 97]⟩ : ByteArray)))) && (decide (x18_6 = (⟨#[47, 97, 47, 115, 48, 48, 48, 48, 48, 48, 48, 48, 48, 48]⟩ : ByteArray)))))] ?_ ?_ ?_
  · intro e10 hk10
    refine Lypb (V_move rfl rfl) rfl rfl rfl rfl e10 ?_
    refine Lypb (V_eqlS rfl rfl rfl) rfl rfl rfl rfl e10 ?_
    refine Lp (V_pickT rfl (evb e10) rfl) rfl rfl ?_
    exact hk10 _ (FrLe.cons rfl (FrLe.cons (by rw [e10]; rfl) (FrLe.nil _)))
  · intro e10 hk10
    refine Ln rfl rfl rfl rfl (.inl (by rw [e10]; rfl)) ?_
    refine Ln rfl rfl rfl rfl (.inl (by rw [e10]; rfl)) ?_
    refine Lp (V_pickF rfl (evb e10) rfl) rfl rfl ?_
    exact hk10 _ (FrLe.cons rfl (FrLe.cons (by rw [e10]; rfl) (FrLe.nil _)))
  intro fr hl
  refine Lfr hl ?_
  refine Lp (V_move rfl rfl) rfl rfl ?_
  refine LsplitJ 4 ((((decide (x13_5 = 0)) && (decide (x18_7 = 0))) && (decide (x13_4 = (⟨#[47, 97]⟩ : ByteArray)))) && (decide (x18_6 = (⟨#[47, 97, 47, 115, 48, 48, 48, 48, 48, 48, 48, 48, 48, 48]⟩ : ByteArray)))) (band_iff (band_iff (band_iff decide_eq_true_iff decide_eq_true_iff) decide_eq_true_iff) decide_eq_true_iff) h (fun fr σ => ∃ (x39_9 : Bool), FrLe [(39, .bool x39_9)] fr ∧ j8_law07_awake B ro Q x39_9 σ) ?_ ?_ ?_
  · intro h e14 hk14
    refine Lypb (V_move rfl rfl) rfl rfl rfl rfl e14 ?_
    refine Lyb rfl rfl rfl rfl e14 (X_call rfl Tryz.func16 rfl rfl rfl (ACalls.mono h ?_))
    rintro v σ ⟨x37_10, rfl, h⟩
    refine Lypb (V_eql rfl rfl rfl) rfl rfl rfl rfl e14 ?_
    refine Lp (V_pickT rfl (evb e14) rfl) rfl rfl ?_
    exact hk14 _ _ ⟨_, (FrLe.cons rfl (FrLe.nil _)), h⟩
  · intro h e14 hk14
    refine Ln rfl rfl rfl rfl (.inl (by rw [e14]; rfl)) ?_
    refine Ln rfl rfl rfl rfl (.inl (by rw [e14]; rfl)) ?_
    refine Ln rfl rfl rfl rfl (.inl (by rw [e14]; rfl)) ?_
    refine Lp (V_pickF rfl (evb e14) rfl) rfl rfl ?_
    exact hk14 _ _ ⟨_, (FrLe.cons rfl (FrLe.nil _)), h⟩
  rintro fr σ ⟨x39_9, hl, h⟩
  unfold j8_law07_awake at h
  refine Lfr hl ?_
  refine Lp (V_asg rfl rfl) rfl rfl ?_
  refine Lnil ?_
  refine thenN ?_
  refine AW.ret ?_
  exact bR1 Tryz.results20 rfl ⟨_, rfl, h⟩

end Go.Proofs.YthfpmipeejjogaaGreatDoor.G

/- Functions as predicate transformers, and the proofs that the code does what they tell: printed by wip/tools/gen.py. -/
namespace Go.Proofs.YthfpmipeejjogaaGreatDoor.G
open Go Go.Proofs.YthfpmipeejjogaaGreatDoor.SL
set_option linter.unusedVariables false
set_option linter.unusedSimpArgs false

def f_ref01_Copy (B : World) (ro : AH) (a0 : Sl) (σ : AH) (Q : Sl → AH → Prop) : Prop :=
 nw ro σ (.cells #[Sl.v a0] 30) fun x4_1 σ =>
 c_ref01_Join B ro (⟨some ⟨x4_1, 0, none⟩, 1, 1⟩ : Sl) σ fun x5_2 σ =>
 Q x5_2 σ

set_option maxRecDepth 100000 in
set_option maxHeartbeats 4000000 in
theorem ref01_Copy_ok {B : World} {ro : AH} {a0 : Sl} {σ : AH} {Q : Sl → AH → Prop} (h : Sep ro σ → f_ref01_Copy B ro a0 σ Q) : c_ref01_Copy B ro a0 σ Q := by
  refine ACalls.of_sep fun hsep => ?_
  replace h := h hsep
  refine ACalls.of_body (args := [Sl.v a0]) Tryz.func23 rfl (by rw [Tryz.ntmps23]; simp) ?_
  rw [Tryz.ntmps23]
  unfold f_ref01_Copy at h
  refine AW.seq ?_
  refine AW.reg ?_
  refine Lp (V_asg rfl rfl) rfl rfl ?_
  refine Lnil ?_
  refine thenN ?_
  refine AW.seq ?_
  refine AW.reg ?_
  refine Lp (V_move rfl rfl) rfl rfl ?_
  refine Ls rfl rfl (X_new (A_bsl (vs := [(0, Sl.v a0)]) (cs := #[Sl.v a0]) rfl Tryz.underlying208 ty30 (by decide) rfl rfl) fun x4_1 g1 g2 => ?_)
  replace h := h x4_1 g1 g2
  refine Ls rfl rfl (X_call rfl Tryz.func72 rfl rfl rfl (ACalls.mono h ?_))
  rintro v σ ⟨x5_2, rfl, h⟩
  refine Lp (V_asg rfl rfl) rfl rfl ?_
  refine Lnil ?_
  refine thenN ?_
  refine AW.ret ?_
  exact bR1 Tryz.results23 rfl ⟨_, rfl, h⟩

def f_ref01_Same (B : World) (ro : AH) (a0 : Sl) (a1 : Sl) (σ : AH) (Q : Bool → AH → Prop) : Prop :=
 awp Tryz.prog ro (convert 30 9 (Sl.v a0)) (fun v σ =>
  (∃ (x6_1 : ByteArray), v = .string x6_1 ∧
   awp Tryz.prog ro (convert 30 9 (Sl.v a1)) (fun v σ =>
    (∃ (x8_2 : ByteArray), v = .string x8_2 ∧
     Q (decide (x6_1 = x8_2)) σ)) σ)) σ

set_option maxRecDepth 100000 in
set_option maxHeartbeats 4000000 in
theorem ref01_Same_ok {B : World} {ro : AH} {a0 : Sl} {a1 : Sl} {σ : AH} {Q : Bool → AH → Prop} (h : Sep ro σ → f_ref01_Same B ro a0 a1 σ Q) : c_ref01_Same B ro a0 a1 σ Q := by
  refine ACalls.of_sep fun hsep => ?_
  replace h := h hsep
  refine ACalls.of_body (args := [Sl.v a0, Sl.v a1]) Tryz.func26 rfl (by rw [Tryz.ntmps26]; simp) ?_
  rw [Tryz.ntmps26]
  unfold f_ref01_Same at h
  refine AW.seq ?_
  refine AW.reg ?_
  refine Lp (V_asg rfl rfl) rfl rfl ?_
  refine Lnil ?_
  refine thenN ?_
  refine AW.seq ?_
  refine AW.reg ?_
  refine Lp (V_move rfl rfl) rfl rfl ?_
  refine Ls rfl rfl (X_cvt rfl rfl (awp_mono _ h ?_))
  rintro v σ ⟨x6_1, rfl, h⟩
  refine Lp (V_move rfl rfl) rfl rfl ?_
  refine Ls rfl rfl (X_cvt rfl rfl (awp_mono _ h ?_))
  rintro v σ ⟨x8_2, rfl, h⟩
  refine Lp (V_eqlS rfl rfl rfl) rfl rfl ?_
  refine Lp (V_asg rfl rfl) rfl rfl ?_
  refine Lnil ?_
  refine thenN ?_
  refine AW.ret ?_
  exact bR1 Tryz.results26 rfl ⟨_, rfl, h⟩

def j2_ref01_Join (B : World) (ro : AH) (Q : Sl → AH → Prop) (x3_3 : Sl) (σ : AH) : Prop :=
 Q x3_3 σ

def l4_ref01_Join (B : World) (ro : AH) (a0 : Sl) (Q : Sl → AH → Prop) : (Sl × Int) → AH → ((Sl × Int) → AH → Prop) → Prop := fun ⟨x3_5, x4_6⟩ σ Y4 =>
 if x4_6 < (a0.len : Int) then
  ∃ p15_7 : Addr, a0.a = some p15_7 ∧ (0 : Int) ≤ x4_6 ∧ x4_6 < (a0.len : Int) ∧
  ∃ (x16_8 : Sl), acell ro σ (p15_7.add (Int.toNat x4_6 * 1)) = some (Sl.v x16_8) ∧
  awp Tryz.prog ro (Builtin.append_ #[30, 30] 30 #[Sl.v x3_5, Sl.v x16_8]) (fun v σ => ∃ (x17_9 : Sl), v = Sl.v x17_9 ∧
   Y4 (x17_9, IntKind.i64.wrap (x4_6 + 1)) σ) σ
 else
 j2_ref01_Join B ro Q x3_5 σ

def f_ref01_Join (B : World) (ro : AH) (a0 : Sl) (σ : AH) (Q : Sl → AH → Prop) : Prop :=
 nw ro σ (.cells #[] 5) fun x5_1 σ =>
 lfpD (l4_ref01_Join B ro a0 Q ) ((⟨some ⟨x5_1, 0, none⟩, 0, 0⟩ : Sl), 0) σ

set_option maxRecDepth 100000 in
set_option maxHeartbeats 4000000 in
theorem ref01_Join_ok {B : World} {ro : AH} {a0 : Sl} {σ : AH} {Q : Sl → AH → Prop} (h : Sep ro σ → f_ref01_Join B ro a0 σ Q) : c_ref01_Join B ro a0 σ Q := by
  refine ACalls.of_sep fun hsep => ?_
  replace h := h hsep
  refine ACalls.of_body (args := [Sl.v a0]) Tryz.func72 rfl (by rw [Tryz.ntmps72]; simp) ?_
  rw [Tryz.ntmps72]
  unfold f_ref01_Join at h
  refine AW.seq ?_
  refine AW.reg ?_
  refine Lp (V_asg rfl rfl) rfl rfl ?_
  refine Lnil ?_
  refine thenN ?_
  refine AW.seq ?_
  refine AW.reg ?_
  refine Ls rfl rfl (X_new (A_bsl (vs := []) (cs := #[]) rfl Tryz.underlying30 ty5 (by decide) rfl rfl) fun x5_1 g1 g2 => ?_)
  replace h := h x5_1 g1 g2
  refine Lp (V_asg rfl rfl) rfl rfl ?_
  refine Lnil ?_
  refine thenN ?_
  refine AW.seqJ (fun fr σ => ∃ (x3_3 : Sl), FrLe [(3, Sl.v x3_3)] fr ∧ j2_ref01_Join B ro Q x3_3 σ) ?_ ?_
  · rintro fr σ ⟨x3_3, hl, h⟩
    refine AW.weaken ?_ hl (HLe.refl _)
    unfold j2_ref01_Join at h
    refine AW.seq ?_
    refine AW.reg ?_
    refine Lp (V_move rfl rfl) rfl rfl ?_
    refine Lp (V_asg rfl rfl) rfl rfl ?_
    refine Lnil ?_
    refine thenN ?_
    refine AW.ret ?_
    exact bR1 Tryz.results72 rfl ⟨_, rfl, h⟩
  refine AW.seq ?_
  refine AW.reg ?_
  refine Lp (V_asg rfl rfl) rfl rfl ?_
  refine Lnil ?_
  refine thenN ?_
  refine AW.block ?_
  refine ARound.loop (fr' := [(0, Sl.v a0), (3, Sl.v (⟨some ⟨x5_1, 0, none⟩, 0, 0⟩ : Sl)), (4, .int .i64 0)]) ?_ (FrLe.cons rfl (FrLe.cons rfl (FrLe.cons rfl (FrLe.nil _))))
  refine h (fun ⟨x3_5, x4_6⟩ σ => ARound _ _ _ _ _ _ [(0, Sl.v a0), (3, Sl.v x3_5), (4, .int .i64 x4_6)] σ) ?_
  rintro ⟨x3_5, x4_6⟩ σ Y4 hY4 h
  show AW _ _ _ _ _ _ _ _
  unfold l4_ref01_Join at h
  dsimp only at h
  refine AW.seq ?_
  refine AW.seq ?_
  refine AW.reg ?_
  refine Lp (V_move rfl rfl) rfl rfl ?_
  refine Lp (V_move rfl rfl) rfl rfl ?_
  refine Lp (V_lenL rfl rfl Tryz.underlying208 rfl rfl) rfl rfl ?_
  refine Lp (V_lss rfl rfl rfl) rfl rfl ?_
  refine Lnil ?_
  refine thenN ?_
  refine AW.iff rfl decide_eq_true_iff h (fun h => ?_) (fun h => ?_)
  rotate_left
  · refine AW.exit ?_
    refine thenE ?_
    refine thenE ?_
    refine blockE ?_
    refine thenN ?_
    exact ⟨_, (FrLe.cons rfl (FrLe.nil _)), h⟩
  refine AW.skip ?_
  refine thenN ?_
  refine AW.seq ?_
  refine AW.block ?_
  refine AW.reg ?_
  refine Lp (V_move rfl rfl) rfl rfl ?_
  refine Lp (V_move rfl rfl) rfl rfl ?_
  refine Lp (V_move rfl rfl) rfl rfl ?_
  obtain ⟨p15_7, ha, h0, h1, h⟩ := h
  refine Lp (V_ixA rfl Tryz.underlying208 ty30 (ixL rfl ha) rfl h0 h1) rfl rfl ?_
  obtain ⟨x16_8, hc, h⟩ := h
  refine Ls rfl rfl (X_ld rfl Tryz.underlying30 rfl rfl hc ?_)
  refine Ls rfl rfl (X_bi (s := Builtin.append_ #[30, 30] 30 #[Sl.v x3_5, Sl.v x16_8]) rfl rfl (fun _ => rfl) (awp_mono _ h ?_))
  rintro v σ ⟨x17_9, rfl, h⟩
  refine Lp (V_asg rfl rfl) rfl rfl ?_
  refine Lnil ?_
  refine blockN ?_
  refine thenN ?_
  refine AW.reg ?_
  refine Lp (V_move rfl rfl) rfl rfl ?_
  refine Lp (V_add rfl rfl rfl) rfl rfl ?_
  refine Lp (V_asg rfl rfl) rfl rfl ?_
  refine Lnil ?_
  refine thenN ?_
  refine ARound.head (fr' := [(0, Sl.v a0), (3, Sl.v x17_9), (4, .int .i64 (IntKind.i64.wrap (x4_6 + 1)))]) ?_ (FrLe.cons rfl (FrLe.cons rfl (FrLe.cons rfl (FrLe.nil _))))
  exact hY4 _ _ h

end Go.Proofs.YthfpmipeejjogaaGreatDoor.G

/- The laws of the tree, the walk: a tree behind a script. -/
namespace Go.Proofs.YthfpmipeejjogaaGreatDoor.Zt
open Go Go.Proofs.YthfpmipeejjogaaGreatDoor.SL Go.Proofs.YthfpmipeejjogaaGreatDoor.G Go.Proofs.YthfpmipeejjogaaGreatDoor.Pa
set_option linter.unusedSimpArgs false
set_option linter.unusedVariables false
variable {B : World} {ro σ σ' : AH} {tag tag' : Nat → Nat}

theorem glob_lent {ψ : AH} (g : Glob ro) : Glob (join ro ψ) := by
  obtain ⟨m, o, h1, h2⟩ := g.maxlen
  exact ⟨⟨m, o, join_left h1, h2⟩, fun w hw => g.tab w fun b o hb => hw b o (join_left hb)⟩
theorem TreeIs.del {r T b : Nat} {st : St} (h : TreeIs tag σ r T st) (hr : r < 64) (hr0 : r ≠ 0) (hb : tag b = 0) : TreeIs tag (SL.del σ b) r T st := by
  obtain ⟨M, bs, h⟩ := h
  refine ⟨M, bs, h.keys, h.len, h.nd, h.cell.del hb hr0, h.map.del (by rw [hb]; omega), fun i c p hc hp => ?_⟩
  obtain ⟨s, h1, h2⟩ := h.nodes i c p hc hp
  exact ⟨s, h1.del hb (by omega), h2.del hb (by omega)⟩
theorem TreeIs.back {r T b r' : Nat} {st : St} {τ : AH} (h : TreeIs tag' τ r T st) (hd : Disj (SL.one σ b) τ) (hb : ∃ o, σ b = some o) : TreeIs (setTag tag' b r') (join (SL.one σ b) τ) r T st := by
  obtain ⟨M, bs, h⟩ := h
  refine ⟨M, bs, h.keys, h.len, h.nd, h.cell.back hd hb, h.map.back hd hb, fun i c p hc hp => ?_⟩
  obtain ⟨s, h1, h2⟩ := h.nodes i c p hc hp
  exact ⟨s, h1.back hd hb, h2.back hd hb⟩

set_option maxRecDepth 100000 in
theorem copy_ok {s : Sl} {l : List Value} {Q : Sl → AH → Prop} (h : SL.Read ro σ s l) (hs : SL.Sep ro σ) (hl : l.length ≤ 140737488355328) (hv : ∀ v ∈ l, storable v = true) (hQ : ∀ s' tag' σ', (∀ R, Step R ro tag σ tag' σ') → Row tag' σ' 6 5 s' l → Q s' σ') : c_ref01_Copy B ro s σ Q := by
  refine ref01_Copy_ok fun _ => ?_
  unfold f_ref01_Copy
  refine nw_cells (tag := tag) 0 hs fun b tag1 σ1 st1 r1 => ?_
  refine ref01_Join_ok fun _ => ?_
  unfold f_ref01_Join
  refine nw_cells (tag := tag1) 6 (st1 []).sep fun c tag2 σ2 st2 r2 => ?_
  have r1' := r1.keep (st2 []) (by simp)
  have h2 : SL.Read ro σ2 s l := (h.step (st1 [])).step (st2 [])
  refine lfpD.intro ?_
  unfold l4_ref01_Join
  simp only
  rw [if_pos (by decide)]
  obtain ⟨p, hp, hg⟩ := r1'.ptr (st2 []).sep (by simp)
  cases hp
  refine ⟨_, rfl, by decide, by decide, s, hg 0 _ rfl, ?_⟩
  refine awp_appendN r2 (st2 []).sep h2 u30 ty5 rfl hv (by simp; omega) (by decide) fun s' tag3 σ3 st3 r3 => ?_
  refine ⟨s', rfl, ?_⟩
  rw [show IntKind.i64.wrap (0 + 1) = 1 from by decide]
  refine lfpD.intro ?_
  show (if (1 : Int) < ((1 : Nat) : Int) then _ else _)
  rw [if_neg (by decide)]
  unfold j2_ref01_Join
  exact hQ s' tag3 σ3 (fun R => (st1 R).trans ((st2 R).trans (st3 R (.inl rfl)))) r3

structure OpV where
  kind : Int
  n : Int
  path : Str
  data : Str
  seq : Bool
def apply1 (st : St) (o : OpV) : St :=
  if o.kind = 1 then (create st o.path o.data o.n o.seq).1 else if o.kind = 2 then (remove st o.path o.n).1 else if o.kind = 3 then (setD st o.path o.data o.n).1 else st
theorem apply1_inv {st : St} (o : OpV) (h : Inv st) (hl : st.length ≤ 4398046511104) : Inv (apply1 st o) ∧ (apply1 st o).length ≤ st.length + 1 := by
  unfold apply1
  split
  · exact ⟨inv_create h hl, create_len _ _ _ _ _⟩
  · split
    · exact ⟨inv_remove h hl, Nat.le_trans (remove_len _ _ _) (Nat.le_succ _)⟩
    · split
      · exact ⟨inv_set h, by rw [setD_len]; exact Nat.le_succ _⟩
      · exact ⟨h, Nat.le_succ _⟩
def Ops (ro : AH) (s : Sl) (os : List OpV) : Prop := s.len = os.length ∧ ∀ j o, os[j]? = some o → ∃ q ds, s.a = some q ∧ (∀ σ, cellsAt ro σ (q.add (j * 5)) 0 [vI o.kind, vI o.n, .string (S o.path), Sl.v ds, .bool o.seq]) ∧ SL.Read ro (fun _ => none) ds (o.data.map vU)

set_option maxRecDepth 100000 in
theorem made_ok {σ0 : AH} {tag0 : Nat → Nat} {a0 : Sl} {os : List OpV} {Q : Option Addr → AH → Prop} (r : Nat) (g : Glob ro) (hr : r < 64) (hr6 : r ≠ 6) (hr0 : r ≠ 0) (hO : Ops ro a0 os) (hl : os.length ≤ 2199023255552) (hd : ∀ o ∈ os, o.data.length ≤ 140737488355328)
    (hQ : ∀ T tag' σ', StepC r ro tag0 σ0 tag' σ' → TreeIs tag' σ' r T (os.foldl apply1 St.new) → Inv (os.foldl apply1 St.new) → (os.foldl apply1 St.new).length ≤ 2199023255553 → Q (some ⟨T, 0, none⟩) σ') : c_law07_made B ro a0 σ0 Q := by
  refine law07_made_ok fun hs => ?_
  unfold f_law07_made
  refine new_ok (tag := tag0) r hr hr6 fun T tag1 σ1 st1 h1 => ?_
  rw [if_neg (by simp)]
  have hln := hO.1
  suffices ∀ m j tag σ, j + m = os.length → StepC r ro tag0 σ0 tag σ → TreeIs tag σ r T ((os.take j).foldl apply1 St.new) → Inv ((os.take j).foldl apply1 St.new) → ((os.take j).foldl apply1 St.new).length ≤ j + 1 → lfpD (l3_law07_made B ro a0 (some ⟨T, 0, none⟩) Q) (j : Int) σ from
    this _ 0 tag1 σ1 (Nat.zero_add _) st1 h1 inv_new (by simp [St.new])
  intro m
  induction m with
  | zero =>
    intro j tag σ hj hs h hi hlen
    refine lfpD.intro ?_
    unfold l3_law07_made
    rw [if_neg (by omega)]
    unfold j2_law07_made
    rw [List.take_of_length_le (by omega)] at h hi hlen
    exact hQ T tag σ hs h hi (by omega)
  | succ m ih =>
    intro j tag σ hj hst0 h hi hlen
    have hs := hst0.sep
    have hjl : j < os.length := by omega
    obtain ⟨q, ds, hq, hc, hrd⟩ := hO.2 j os[j] (List.getElem?_eq_getElem hjl)
    have hdj := hd _ (List.getElem_mem hjl)
    generalize hst : (os.take j).foldl apply1 St.new = st at h hi hlen
    have hnext : (os.take (j + 1)).foldl apply1 St.new = apply1 st os[j] := by
      rw [List.take_succ_eq_append_getElem hjl, List.foldl_append, hst]; rfl
    generalize os[j] = o at hc hrd hdj hnext
    obtain ⟨hi2, hl2⟩ := apply1_inv o hi (by omega)
    have next : ∀ tag' σ', StepC r ro tag0 σ0 tag' σ' → TreeIs tag' σ' r T (apply1 st o) → j5_law07_made B ro a0 (some ⟨T, 0, none⟩) (j : Int) Q (lfpD (l3_law07_made B ro a0 (some ⟨T, 0, none⟩) Q)) σ' := fun tag' σ' hs' h' => by
      unfold j5_law07_made
      rw [Pa.inc j (by omega)]
      exact ih (j + 1) tag' σ' (by omega) hs' (by rw [hnext]; exact h') (by rw [hnext]; exact hi2) (by rw [hnext]; omega)
    refine lfpD.intro ?_
    unfold l3_law07_made
    rw [if_pos (by omega)]
    refine ⟨q, hq, by omega, by omega, o.kind, o.n, S o.path, ds, o.seq, hc σ, ?_⟩
    refine nw_st (tag := tag) 0 hs rfl (by simp [storable, Sl.v]) fun x tag2 σ2 st2 r2 => ?_
    have hs2 := (st2 []).sep
    have h2 := h.keep (st2 []) (by simp)
    obtain ⟨px, hpx, hg⟩ := r2.ptr hs2 (by simp)
    cases hpx
    have f0 := hg 0 _ rfl
    have f1 := hg 1 _ rfl
    have f2 := hg 2 _ rfl
    obtain ⟨ht0, hto⟩ := r2.tagOf
    refine ⟨o.kind, f0, ?_⟩
    by_cases k1 : o.kind = 1
    · rw [if_pos k1]
      refine lent_block x ?_
      have hs3 : SL.Sep (join ro (SL.one σ2 x)) (SL.del σ2 x) := hs2.lent
      refine ⟨S o.path, r2.lend hs2 (i := 2) rfl, o.n, r2.lend hs2 (i := 1) rfl, o.seq, r2.lend hs2 (i := 4) rfl, ds, r2.lend hs2 (i := 3) rfl, ?_⟩
      refine copy_ok (tag := tag2) (hrd.keep.lent x) hs3 (by simp; omega) (by simp [storable]) fun s' tag3 σ3 st3 r3 => ?_
      have h3 := (h2.del hr hr0 ht0 (b := x)).keep (st3 []) (by simp)
      refine create_ok (glob_lent g) hr hr6 hr0 h3 (r3.read (st3 []).sep) (by omega) fun tag4 σ4 st4 h4 => ?_
      intro hdis
      rw [L_S] at h4
      obtain ⟨R, hR, st4⟩ := st4
      have stB := ((st3 R).trans st4).back hs2 hdis hto
      refine next (setTag tag4 x (tag2 x)) _ (hst0.trans (((st2 []).c (by simp)).trans ⟨R, hR, stB⟩)) ?_
      have : apply1 st o = (create st o.path o.data o.n o.seq).1 := by unfold apply1; rw [if_pos k1]
      rw [this]
      exact h4.back (r' := tag2 x) hdis hto
    · rw [if_neg k1]
      by_cases k2 : o.kind = 2
      · rw [if_pos k2]
        refine ⟨S o.path, f2, o.n, f1, ?_⟩
        refine delete_ok g hr hr6 hr0 h2 (fun u n hu hn => ?_) fun tag4 σ4 st4 h4 => ?_
        · rw [L_S] at hu hn
          have hne : o.path ≠ [47] := fun e => by rw [e, root_parent] at hu; cases hu
          obtain ⟨u', m', e1, e2, _⟩ := hi.up _ n hn hne
          rw [hu] at e1; cases e1
          exact ⟨m', e2⟩
        · rw [L_S] at h4
          refine next tag4 _ (hst0.trans (((st2 []).c (by simp)).trans st4)) ?_
          have : apply1 st o = (remove st o.path o.n).1 := by unfold apply1; rw [if_neg k1, if_pos k2]
          rw [this]; exact h4
      · rw [if_neg k2]
        by_cases k3 : o.kind = 3
        · rw [if_pos k3]
          refine lent_block x ?_
          have hs3 : SL.Sep (join ro (SL.one σ2 x)) (SL.del σ2 x) := hs2.lent
          refine ⟨S o.path, r2.lend hs2 (i := 2) rfl, o.n, r2.lend hs2 (i := 1) rfl, ds, r2.lend hs2 (i := 3) rfl, ?_⟩
          refine copy_ok (tag := tag2) (hrd.keep.lent x) hs3 (by simp; omega) (by simp [storable]) fun s' tag3 σ3 st3 r3 => ?_
          have h3 := (h2.del hr hr0 ht0 (b := x)).keep (st3 []) (by simp)
          refine set_ok (glob_lent g) hr hr6 hr0 h3 (r3.read (st3 []).sep) (by omega) fun tag4 σ4 st4 h4 => ?_
          intro hdis
          rw [L_S] at h4
          obtain ⟨R, hR, st4⟩ := st4
          have stB := ((st3 R).trans st4).back hs2 hdis hto
          refine next (setTag tag4 x (tag2 x)) _ (hst0.trans (((st2 []).c (by simp)).trans ⟨R, hR, stB⟩)) ?_
          have : apply1 st o = (setD st o.path o.data o.n).1 := by unfold apply1; rw [if_neg k1, if_neg k2, if_pos k3]
          rw [this]
          exact h4.back (r' := tag2 x) hdis hto
        · rw [if_neg k3]
          refine next tag2 _ (hst0.trans ((st2 []).c (by simp))) ?_
          have : apply1 st o = st := by unfold apply1; rw [if_neg k1, if_neg k2, if_neg k3]
          rw [this]; exact h2
end Go.Proofs.YthfpmipeejjogaaGreatDoor.Zt
