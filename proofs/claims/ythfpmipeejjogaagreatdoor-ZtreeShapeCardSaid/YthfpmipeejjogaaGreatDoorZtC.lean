/- The tree, the walk: Create. -/
import Derived.Test.YthfpmipeejjogaaGreatDoorZtB
namespace Go.Proofs.YthfpmipeejjogaaGreatDoor.Zt
open Go Go.Proofs.YthfpmipeejjogaaGreatDoor.SL Go.Proofs.YthfpmipeejjogaaGreatDoor.G Go.Proofs.YthfpmipeejjogaaGreatDoor.Pa
set_option linter.unusedSimpArgs false
set_option linter.unusedVariables false
variable {B : World} {ro σ σ' : AH} {tag tag' : Nat → Nat}

theorem st_last {q : Str} {n : Nd} (st : St) {i : Nat} {u : Str} {m : Nd} (h : st[i]? = some (u, m)) : (st ++ [(q, n)])[i]? = some (u, m) := by
  have hil : i < st.length := by
    rcases Nat.lt_or_ge i st.length with h' | h'
    · exact h'
    · rw [List.getElem?_eq_none h'] at h; cases h
  rw [List.getElem?_append_left hil]; exact h
theorem app_idx {bs : List Nat} {c i b : Nat} (h : bs[i]? = some b) : (bs ++ [c])[i]? = some b := by
  have hil : i < bs.length := by
    rcases Nat.lt_or_ge i bs.length with h' | h'
    · exact h'
    · rw [List.getElem?_eq_none h'] at h; cases h
  rw [List.getElem?_append_left hil]; exact h

set_option maxRecDepth 100000 in
theorem create_ok {r T : Nat} {st : St} {p : ByteArray} {s : Sl} {d : Str} {o : Int} {seq : Bool} {Q : ByteArray → Int → AH → Prop} (g : Glob ro) (hr : r < 64) (hr6 : r ≠ 6) (hr0 : r ≠ 0) (h : TreeIs tag σ r T st) (hd : SL.Read ro σ s (d.map vU)) (hdl : d.length < 4611686018427387904)
    (hQ : ∀ tag' σ', StepC r ro tag σ tag' σ' → TreeIs tag' σ' r T (create st (L p) d o seq).1 → Q (S (create st (L p) d o seq).2.1) (create st (L p) d o seq).2.2 σ') : c_ztree_Tree_Create B ro (some ⟨T, 0, none⟩) p s o seq σ Q := by
  refine ztree_Tree_Create_ok fun hs => ?_
  unfold f_ztree_Tree_Create
  have hsl : s.len = d.length := by rw [hd.1, List.length_map]
  have same : ∀ e : Int, create st (L p) d o seq = (st, [], e) → Q (⟨#[]⟩ : ByteArray) e σ := fun e he => by
    have := hQ tag σ (StepC.refl hs) (by rw [he]; exact h)
    rw [he] at this; exact this
  refine parent_ok g (fun hp => ?_) (fun u hu => ?_)
  · rw [if_pos (by decide)]
    exact same 20 (by unfold create; rw [hp])
  · rw [if_neg (by decide)]
    by_cases h1 : 256 < (s.len : Int)
    · rw [if_pos h1]
      exact same 75 (by unfold create; rw [hu]; simp only; rw [if_pos (by omega)])
    · rw [if_neg h1]
      have h1' : ¬ 256 < d.length := by omega
      by_cases h2 : o < 0 ∨ 4611686018427387903 < o
      · rw [if_pos h2]
        exact same 10 (by unfold create; rw [hu]; simp only; rw [if_neg h1', if_pos h2])
      · rw [if_neg h2]
        obtain ⟨M, bs, hA⟩ := h
        refine ⟨_, rfl, _, Row.cell1 hA.cell hs, ?_⟩
        refine awp_lookup_str hA.map hs u126 u9 ty129 ?_
        rcases kv_lookup st bs u hA.len with ⟨a, e⟩ | ⟨i, b, n, a1, a2, a3, e⟩
        · rw [e]
          refine ⟨none, rfl, ?_⟩
          rw [if_pos rfl]
          exact same 70 (by unfold create; rw [hu]; simp only; rw [if_neg h1', if_neg h2, a])
        · rw [e]
          refine ⟨some ⟨b, 0, none⟩, rfl, ?_⟩
          rw [if_neg (by simp)]
          obtain ⟨ds, hn, hdat⟩ := hA.nodes i b _ a1 a2
          obtain ⟨q, hq, hg⟩ := hn.ptr hs (by simp)
          cases hq
          refine ⟨_, rfl, n.own, hg 2 _ rfl, ?_⟩
          by_cases h3 : n.own = 0
          · rw [if_neg (by simp [h3])]
            refine ⟨_, rfl, n.ctr, hg 1 _ rfl, ?_⟩
            by_cases h4 : 9999999999 < n.ctr
            · rw [if_pos h4]
              exact same 76 (by unfold create; rw [hu]; simp only; rw [if_neg h1', if_neg h2, a3]; simp only; rw [if_neg (by simp [h3]), if_pos h4])
            · rw [if_neg h4]
              have hcr : create st (L p) d o seq = match (if seq then suffix (L p) n.ctr else some (L p)) with
                  | none => (st, [], 20)
                  | some q => if (st.lookup q).isSome then (st, [], 71) else (modN (st ++ [(q, ⟨0, 0, o, 0, d⟩)]) u bump, q, 0) := by
                unfold create; rw [hu]; simp only; rw [if_neg h1', if_neg h2, a3]; simp only; rw [if_neg (by simp [h3]), if_neg h4]; rfl
              have main : ∀ q : Str, (if seq then suffix (L p) n.ctr else some (L p)) = some q → j10_ztree_Tree_Create B ro (some ⟨T, 0, none⟩) s o (some ⟨b, 0, none⟩) Q (S q) σ := by
                intro q hq
                rw [hq] at hcr
                simp only at hcr
                unfold j10_ztree_Tree_Create
                refine ⟨_, rfl, _, Row.cell1 hA.cell hs, ?_⟩
                refine awp_lookup_str hA.map hs u126 u9 ty129 ?_
                rcases kv_lookup st bs q hA.len with ⟨c, e2⟩ | ⟨i2, b2, n2, c1, c2, c3, e2⟩
                · rw [e2]
                  refine ⟨none, rfl, ?_⟩
                  rw [if_neg (by simp)]
                  rw [c] at hcr
                  simp only [Option.isSome_none, Bool.false_eq_true, if_false] at hcr
                  refine lent_block T ?_
                  obtain ⟨hT0, hTo⟩ := hA.cell.tagOf
                  have hs1 : SL.Sep (join ro (SL.one σ T)) (SL.del σ T) := hs.lent
                  refine ⟨_, rfl, some M, hA.cell.lend hs (i := 0) rfl, ?_⟩
                  refine clone_ok (tag := tag) (hd.lent T) hs1 (by simp; omega) (by simp [storable]) fun s' tag1 σ1 st1 r1 => ?_
                  refine nw_cellsF (tag := tag1) (fun b => r + 64 * (b + 2)) (st1 []).sep fun c' tag2 σ2 hro2 hc2 st2 r2 => ?_
                  have hM1 := ((hA.map.del (by rw [hT0]; omega)).keep (st1 []) (by simp)).keep (st2 []) (by simp)
                  refine awp_update_str hM1 (st2 []).sep u126 u9 fun σ3 st3 m3 => ?_
                  intro hdj
                  have stA : Step [r + 64] (join ro (SL.one σ T)) tag (SL.del σ T) tag2 σ3 := (st1 _).trans ((st2 _).trans st3)
                  have stB := stA.back hs hdj hTo
                  have m4 := m3.back (r' := tag T) hdj hTo
                  have hnode : NodeAt (setTag tag2 T (tag T)) (join (SL.one σ T) σ3) r c' ⟨0, 0, o, 0, d⟩ :=
                    ⟨s', (r2.keep st3 (by simp; omega)).back hdj hTo, ((r1.keep (st2 []) (by simp)).keep st3 (by simp)).back hdj hTo⟩
                  have hfree : σ c' = none := by
                    cases hcc : σ c' with
                    | none => rfl
                    | some x =>
                      have hne : c' ≠ T := fun e => by
                        have := (join_none hro2).2
                        unfold SL.one at this
                        rw [if_pos e, hcc] at this; cases this
                      obtain ⟨_, x', hx'⟩ := (st1 []).old c' x (by unfold SL.del; rw [if_neg hne]; exact hcc)
                      rw [hc2] at hx'; cases hx'
                  have hA2 := hA.add (n := ⟨0, 0, o, 0, d⟩) hr hr6 c hfree stB hnode m4
                  have b1 := app_idx (c := c') a1
                  have b2 := st_last (q := q) (n := ⟨0, 0, o, 0, d⟩) st a2
                  generalize setTag tag2 T (tag T) = tagx at *
                  generalize join (SL.one σ T) σ3 = σx at *
                  have hsx := stB.sep
                  obtain ⟨d1, hn1, hd1⟩ := hA2.nodes i b _ b1 b2
                  obtain ⟨q1, hq1, hg1⟩ := hn1.ptr hsx (by simp)
                  cases hq1
                  refine ⟨_, rfl, n.ctr, hg1 1 _ rfl, _, rfl, ?_⟩
                  refine hn1.st (i := 1) hsx rfl (by simp) rfl fun σ4 st4 r4 => ?_
                  have hA3 := hA2.write (n' := { n with ctr := IntKind.i64.wrap (n.ctr + 1) }) hr hr6 b1 b2 st4 ⟨d1, r4, hd1.keep st4 (by simp; omega)⟩
                  have b3 : ((st ++ [(q, (⟨0, 0, o, 0, d⟩ : Nd))]).set i (u, { n with ctr := IntKind.i64.wrap (n.ctr + 1) }))[i]? = some (u, { n with ctr := IntKind.i64.wrap (n.ctr + 1) }) := by
                    rw [List.getElem?_set, if_pos rfl, if_pos]
                    rcases Nat.lt_or_ge i (st ++ [(q, (⟨0, 0, o, 0, d⟩ : Nd))]).length with h' | h'
                    · exact h'
                    · rw [List.getElem?_eq_none h'] at b2; cases b2
                  obtain ⟨q2, hq2, hg2⟩ := r4.ptr st4.sep (by simp)
                  cases hq2
                  refine ⟨_, rfl, n.kids, hg2 3 _ rfl, _, rfl, ?_⟩
                  refine r4.st (i := 3) st4.sep rfl (by simp) rfl fun σ5 st5 r5 => ?_
                  have hA4 := hA3.write (n' := bump n) hr hr6 b1 b3 st5 ⟨d1, r5, (hd1.keep st4 (by simp; omega)).keep st5 (by simp; omega)⟩
                  rw [List.set_set] at hA4
                  rw [← modN_set hA2.keys b2 bump] at hA4
                  have hres := hQ tagx σ5 ((stB.c (by simp; omega)).trans ((st4.c (by simp; omega)).trans (st5.c (by simp; omega)))) (by rw [hcr]; exact ⟨M, _, hA4⟩)
                  rw [hcr] at hres
                  exact hres
                · rw [e2]
                  refine ⟨some ⟨b2, 0, none⟩, rfl, ?_⟩
                  rw [if_pos (by simp)]
                  refine same 71 ?_
                  rw [hcr, c3]; rfl
              by_cases h5 : seq = true
              · rw [if_pos h5]
                refine ⟨_, rfl, n.ctr, hg 1 _ rfl, ?_⟩
                refine suffix_ok g (fun hnone => ?_) (fun q hq => ?_)
                · rw [if_pos (by decide)]
                  refine same 20 ?_
                  rw [hcr, if_pos h5, hnone]
                · rw [if_neg (by decide)]
                  exact main q (by rw [if_pos h5]; exact hq)
              · rw [if_neg h5]
                have := main (L p) (by rw [if_neg h5])
                rw [S_L] at this; exact this
          · rw [if_pos (by simp [h3])]
            exact same 74 (by unfold create; rw [hu]; simp only; rw [if_neg h1', if_neg h2, a3]; simp only; rw [if_pos (by simp [h3])])
end Go.Proofs.YthfpmipeejjogaaGreatDoor.Zt
