/- The tree, the walk: Size, Get, Children, the paths under the root. -/
import Derived.Test.YthfpmipeejjogaaGreatDoorZtE
namespace Go.Proofs.YthfpmipeejjogaaGreatDoor.Zt
open Go Go.Proofs.YthfpmipeejjogaaGreatDoor.SL Go.Proofs.YthfpmipeejjogaaGreatDoor.G Go.Proofs.YthfpmipeejjogaaGreatDoor.Pa
set_option linter.unusedSimpArgs false
set_option linter.unusedVariables false
variable {B : World} {ro σ σ' : AH} {tag tag' : Nat → Nat}

set_option maxRecDepth 100000 in
theorem size_ok {r T M : Nat} {bs : List Nat} {st : St} {Q : Int → AH → Prop} (h : TreeAt tag σ r T M bs st) (hQ : Q (st.length : Int) σ) : c_ztree_Tree_Size B ro (some ⟨T, 0, none⟩) σ Q := by
  refine ztree_Tree_Size_ok fun hs => ?_
  unfold f_ztree_Tree_Size
  refine ⟨_, rfl, _, Row.cell1 h.cell hs, ?_⟩
  obtain ⟨es, clock, hb, he, hbn⟩ := h.map.obj
  have hsz : es.size = st.length := by
    have := congrArg List.length he
    simp only [List.length_map, Array.length_toList] at this
    rw [this, kv_length _ _ h.len]
  unfold Builtin.len_
  refine ⟨.map es clock, by unfold SL.rd; rw [hs M _ hb]; exact hb, rfl, ?_⟩
  exact ⟨(st.length : Int), by rw [hsz]; rfl, hQ⟩

set_option maxRecDepth 100000 in
theorem get_ok {r T M : Nat} {bs : List Nat} {st : St} {p : ByteArray} {Q : Sl → Int → Int → Int → Int → Int → AH → Prop} (g : Glob ro) (hr : r < 64) (hr6 : r ≠ 6) (hr0 : r ≠ 0) (h : TreeAt tag σ r T M bs st) (hdl : ∀ p n, st.lookup p = some n → n.data.length ≤ 256)
    (hbad : parts (L p) = none → ∀ tag' σ', StepC 0 ro tag σ tag' σ' → Q ⟨none, 0, 0⟩ 0 0 0 0 20 σ') (hmiss : ∀ ps, parts (L p) = some ps → st.lookup (L p) = none → ∀ tag' σ', StepC 0 ro tag σ tag' σ' → Q ⟨none, 0, 0⟩ 0 0 0 0 70 σ')
    (hhit : ∀ n, st.lookup (L p) = some n → ∀ s tag' σ', StepC 0 ro tag σ tag' σ' → Row tag' σ' 6 5 s (n.data.map vU) → Q s n.ver n.ctr n.own n.kids 0 σ') : c_ztree_Tree_Get B ro (some ⟨T, 0, none⟩) p σ Q := by
  refine ztree_Tree_Get_ok fun hs => ?_
  unfold f_ztree_Tree_Get
  refine nw_cells (tag := tag) 0 hs fun x tag1 σ1 st1 r1 => ?_
  have hA := h.keep (st1 []) (by simp)
  have hs1 := (st1 []).sep
  have err : ∀ e : Int, (∀ tag' σ', StepC 0 ro tag σ tag' σ' → Q ⟨none, 0, 0⟩ 0 0 0 0 e σ') → stN ⟨x, 0, none⟩ (fun σ => ∃ (x5_4a : Int) (x5_4b : Int) (x5_4c : Int) (x5_4d : Int), cellsAt ro σ ⟨x, 0, none⟩ 0 [.int .i64 x5_4a, .int .i64 x5_4b, .int .i64 x5_4c, .int .i64 x5_4d] ∧ Q (⟨none, 0, 0⟩ : Sl) x5_4a x5_4b x5_4c x5_4d e σ) [.int .i64 0, .int .i64 0, .int .i64 0, .int .i64 0] 0 σ1 := by
    intro e he
    refine r1.stAll hs1 rfl (by simp [storable]) fun σ2 st2 r2 => ?_
    obtain ⟨q, hq, hg⟩ := r2.ptr st2.sep (by simp)
    cases hq
    exact ⟨0, 0, 0, 0, cellsAt_of 0 fun j v hj => by have := hg j v hj; rwa [Nat.mul_one, ← Nat.zero_add j] at this, he tag1 σ2 (((st1 []).c (by simp)).trans (st2.c (by simp)))⟩
  refine find_ok g hA hs1 (fun hb => ?_) (fun ps hps hl => ?_) (fun ps i b n hps hb hp hl => ?_)
  · rw [if_pos (by decide)]
    exact err 20 (hbad hb)
  · rw [if_pos (by decide)]
    exact err 70 (hmiss ps hps hl)
  · rw [if_neg (by decide)]
    obtain ⟨ds, hn, hd⟩ := hA.nodes i b _ hb hp
    obtain ⟨ht0, hto⟩ := hn.tagOf
    refine lent_block b ?_
    have hs2 : SL.Sep (join ro (SL.one σ1 b)) (SL.del σ1 b) := hs1.lent
    refine ⟨_, rfl, _, rfl, n.ver, n.ctr, n.own, n.kids, cellsAt_of 0 fun j v hj => ?_, ds, hn.lend hs1 (i := 4) rfl, ?_⟩
    · rw [Nat.zero_add, ← Nat.mul_one j]
      have hj4 : j < 4 := by
        rcases Nat.lt_or_ge j 4 with h' | h'
        · exact h'
        · rw [List.getElem?_eq_none (by simpa using h')] at hj; cases hj
      refine hn.lend hs1 (i := j) ?_
      rw [← hj]
      rcases j with _ | _ | _ | _ | j
      · rfl
      · rfl
      · rfl
      · rfl
      · omega
    · have hd1 := hd.del (b := b) ht0 (by omega)
      have hx1 := r1.del (b := b) ht0 (by omega)
      refine clone_ok (tag := tag1) (hd1.read hs2) hs2 ?_ (by simp [storable]) fun s' tag2 σ2 st2 r2 => ?_
      · have := hdl _ _ hl; simp; omega
      · have hx2 := hx1.keep (st2 []) (by simp)
        refine hx2.stAll (st2 []).sep rfl (by simp [storable]) fun σ3 st3 r3 => ?_
        intro hdj
        have stB := ((st2 [0]).trans st3).back hs1 hdj hto
        have r4 := r3.back (r' := tag1 b) hdj hto
        have r5 := (r2.keep st3 (by simp)).back (r' := tag1 b) hdj hto
        obtain ⟨q, hq, hg⟩ := r4.ptr stB.sep (by simp)
        cases hq
        refine ⟨n.ver, n.ctr, n.own, n.kids, cellsAt_of 0 fun j v hj => by have := hg j v hj; rwa [Nat.mul_one, ← Nat.zero_add j] at this, ?_⟩
        exact hhit n hl s' _ _ (((st1 []).c (by simp)).trans (stB.c (by simp))) r5

theorem call58 {x : Nat} {s : Str} {K : Value → AH → Prop} (h : c_ztree_Tree_Paths_c1 B ro (S s) ⟨x, 0, none⟩ σ fun r σ => K (.bool r) σ) : callV Tryz.prog B ro (.func (.func 58) #[] #[.pointer (some ⟨x, 0, none⟩)]) [.string (S s)] σ K := by
  refine ⟨58, Tryz.f58, #[], #[.pointer (some ⟨x, 0, none⟩)], rfl, Tryz.func58, by kernel_rfl, by kernel_rfl, ?_⟩
  exact ACalls.mono h fun v τ ⟨r, e, q⟩ => e ▸ q
set_option maxRecDepth 100000 in
/-- all paths: what stands under the root -/
theorem paths_root {r T M q : Nat} {bs : List Nat} {st : St} {Q : Sl → Int → AH → Prop} (g : Glob ro) (hr : r < 64) (hr0 : r ≠ 0) (h : TreeAt tag σ r T M bs st) (hl : ∀ p ∈ st, ∃ ps, parts p.1 = some ps) (hn : st.length ≤ 4398046511104)
    (hQ : ∀ (s : Sl) (tag' : Nat → Nat) (σ' : AH) (ks : List Str), (∀ R, Step R ro tag σ tag' σ') → ks.Perm (st.map (·.1)) → ks.Pairwise (· ≤ ·) → Row tag' σ' q 9 s (ks.map Pa.vS) → Q s 0 σ') : c_ztree_Tree_Paths B ro (some ⟨T, 0, none⟩) (⟨#[47]⟩ : ByteArray) σ Q := by
  refine ztree_Tree_Paths_ok fun hs => ?_
  unfold f_ztree_Tree_Paths
  refine nw_cells (tag := tag) 0 hs fun x tag1 σ1 st1 r1 => ?_
  have hA := h.keep (st1 []) (by simp)
  refine ⟨_, Row.cell1 r1 (st1 []).sep, ?_⟩
  refine check_ok g ?_
  rw [show Pa.chk (L (⟨#[47]⟩ : ByteArray)) = 0 from by decide, if_neg (by decide)]
  have h128 : ∀ p ∈ st, p.1.length ≤ 128 := fun p hp => by
    obtain ⟨ps, e⟩ := hl p hp
    obtain ⟨e1, e2⟩ := parts_iff.1 e
    rw [e1]; exact e2.len
  refine paths_ok (q := q) hA h128 hn fun s tag2 σ2 ks st2 hp hsrt hr2 => ?_
  have hx := Row.cell1 (r1.keep (st2 []) (by simp)) (st2 []).sep
  have hln : s.len = ks.length := by rw [hr2.len, List.length_map]
  have hkl : ks.length = st.length := by rw [hp.length_eq, List.length_map]
  refine slices_DeleteFunc_string_string_ok fun _ => ?_
  unfold f_slices_DeleteFunc_string_string
  refine slices_IndexFunc_string_string_ok fun _ => ?_
  unfold f_slices_IndexFunc_string_string
  suffices ∀ m j, j + m = ks.length → lfpD (l2_slices_IndexFunc_string_string B ro s (.func (.func 58) #[] #[.pointer (some ⟨x, 0, none⟩)]) fun x10 σ => if x10 = (-1) then Q s 0 σ else lfpD (l4_slices_DeleteFunc_string_string B ro s (.func (.func 58) #[] #[.pointer (some ⟨x, 0, none⟩)]) fun x15 σ => Q x15 0 σ) (x10, IntKind.i64.wrap (x10 + 1)) σ) (j : Int) σ2 from
    this _ 0 (Nat.zero_add _)
  intro m
  induction m with
  | zero =>
    intro j hj
    refine lfpD.intro ?_
    unfold l2_slices_IndexFunc_string_string
    rw [if_neg (by omega)]
    unfold j1_slices_IndexFunc_string_string
    show (if (-1 : Int) = -1 then _ else _)
    rw [if_pos rfl]
    exact hQ s tag2 σ2 ks (fun R => (st1 R).trans (st2 R)) hp hsrt hr2
  | succ m ih =>
    intro j hj
    have hjl : j < ks.length := by omega
    obtain ⟨p, hpp, _, hget⟩ := Row.sget hr2 (st2 []).sep hjl
    refine lfpD.intro ?_
    unfold l2_slices_IndexFunc_string_string
    rw [if_pos (by omega)]
    refine ⟨p, hpp, by omega, by omega, _, hget j hjl, ?_⟩
    refine call58 ?_
    refine ztree_Tree_Paths_c1_ok fun _ => ?_
    unfold f_ztree_Tree_Paths_c1
    refine ⟨_, hx, ?_⟩
    have hmem : ks[j] ∈ st.map (·.1) := hp.mem_iff.1 (List.getElem_mem hjl)
    obtain ⟨y, hy, e⟩ := List.mem_map.1 hmem
    obtain ⟨ps, hps⟩ := hl y hy
    rw [e] at hps
    have hu : under (L (⟨#[47]⟩ : ByteArray)) (L (S ks[j])) = some true := by
      unfold under
      rw [show parts (L (⟨#[47]⟩ : ByteArray)) = some [] from by decide, L_S, hps]
      rfl
    refine under_ok g (fun hnone => by rw [hu] at hnone; cases hnone) (fun b hb => ?_)
    rw [hu] at hb
    cases hb
    refine ⟨false, rfl, ?_⟩
    rw [if_neg (by decide), Pa.inc j (by omega)]
    exact ih (j + 1) (by omega)

/-- the names right below a path, of a list of paths -/
def namesOf (ks : List Str) (p : Str) : List Str := ks.filterMap fun k => if parent k = some p then base k else none
set_option maxRecDepth 100000 in
theorem children_ok {r T M q : Nat} {bs : List Nat} {st : St} {p : ByteArray} {Q : Sl → Int → AH → Prop} (g : Glob ro) (hr : r < 64) (hr0 : r ≠ 0) (hq0 : q ≠ q + 1) (h : TreeAt tag σ r T M bs st) (hl : ∀ p ∈ st, ∃ ps, parts p.1 = some ps) (hn : st.length ≤ 4398046511104)
    (hbad : parts (L p) = none → Q ⟨none, 0, 0⟩ 20 σ) (hmiss : ∀ ps, parts (L p) = some ps → st.lookup (L p) = none → Q ⟨none, 0, 0⟩ 70 σ)
    (hhit : ∀ n, st.lookup (L p) = some n → ∀ (s : Sl) (tag' : Nat → Nat) (σ' : AH) (ks : List Str), Step [q] ro tag σ tag' σ' → ks.Perm (st.map (·.1)) → ks.Pairwise (· ≤ ·) → Row tag' σ' q 9 s ((namesOf ks (L p)).map Pa.vS) → Q s 0 σ') : c_ztree_Tree_Children B ro (some ⟨T, 0, none⟩) p σ Q := by
  refine ztree_Tree_Children_ok fun hs => ?_
  unfold f_ztree_Tree_Children
  refine find_ok g h hs (fun hb => ?_) (fun ps hps hl' => ?_) (fun ps i b n hps hb hp hl' => ?_)
  · rw [if_pos (by decide)]; exact hbad hb
  · rw [if_pos (by decide)]; exact hmiss ps hps hl'
  · rw [if_neg (by decide)]
    have h128 : ∀ p ∈ st, p.1.length ≤ 128 := fun p hp => by
      obtain ⟨ps, e⟩ := hl p hp
      obtain ⟨e1, e2⟩ := parts_iff.1 e
      rw [e1]; exact e2.len
    refine paths_ok (q := q + 1) h h128 hn fun s tag2 σ2 ks st2 hpm hsrt hr2 => ?_
    have hln : s.len = ks.length := by rw [hr2.len, List.length_map]
    have hkl : ks.length = st.length := by rw [hpm.length_eq, List.length_map]
    suffices ∀ m j (so : Sl) tag3 σ3, j + m = ks.length → Step [q] ro tag2 σ2 tag3 σ3 → Row tag3 σ3 (q + 1) 9 s (ks.map Pa.vS) → Row tag3 σ3 q 9 so ((namesOf (ks.take j) (L p)).map Pa.vS) → lfpD (l6_ztree_Tree_Children B ro p s Q) (so, (j : Int)) σ3 from
      this _ 0 ⟨none, 0, 0⟩ tag2 σ2 (Nat.zero_add _) (Step.refl (st2 []).sep) hr2 (Row.nil q 9)
    intro m
    induction m with
    | zero =>
      intro j so tag3 σ3 hj st3 hs3 hso
      refine lfpD.intro ?_
      unfold l6_ztree_Tree_Children
      simp only
      rw [if_neg (by omega)]
      unfold j3_ztree_Tree_Children
      rw [List.take_of_length_le (by omega)] at hso
      exact hhit n hl' so tag3 σ3 ks ((st2 _).trans st3) hpm hsrt hso
    | succ m ih =>
      intro j so tag3 σ3 hj st3 hs3 hso
      have hjl : j < ks.length := by omega
      obtain ⟨pp, hpp, _, hget⟩ := Row.sget hs3 st3.sep hjl
      have htake : ∀ x, namesOf (ks.take (j + 1)) x = namesOf (ks.take j) x ++ namesOf [ks[j]] x := fun x => by
        rw [List.take_succ_eq_append_getElem hjl]; unfold namesOf; rw [List.filterMap_append]
      have hlen : (namesOf (ks.take j) (L p)).length ≤ j := by
        unfold namesOf
        refine Nat.le_trans (List.length_filterMap_le _ _) ?_
        simp; omega
      refine lfpD.intro ?_
      unfold l6_ztree_Tree_Children
      simp only
      rw [if_pos (by omega)]
      refine ⟨pp, hpp, by omega, by omega, _, hget j hjl, ?_⟩
      have skip : parent ks[j] ≠ some (L p) → j9_ztree_Tree_Children B ro p s (j : Int) Q (lfpD (l6_ztree_Tree_Children B ro p s Q)) so σ3 := fun hne => by
        unfold j9_ztree_Tree_Children
        rw [Pa.inc j (by omega)]
        refine ih (j + 1) so tag3 σ3 (by omega) st3 hs3 ?_
        rw [htake, show namesOf [ks[j]] (L p) = [] by simp [namesOf, hne], List.append_nil]; exact hso
      refine parent_ok g (fun hnone => ?_) (fun u hu => ?_)
      · rw [if_neg (by simp)]
        exact skip (by rw [L_S] at hnone; rw [hnone]; simp)
      · rw [L_S] at hu
        by_cases hup : u = L p
        · rw [if_pos ⟨rfl, by rw [hup, S_L]⟩]
          have hbase : ∃ x, base ks[j] = some x := by
            unfold parent at hu
            unfold base
            cases hq : parts ks[j] with
            | none => rw [hq] at hu; cases hu
            | some qs =>
              rw [hq] at hu
              simp only at hu ⊢
              split at hu
              · cases hu
              · rename_i hne
                exact ⟨_, List.getLast?_eq_some_getLast hne⟩
          obtain ⟨x, hx⟩ := hbase
          refine base_ok g (fun hnone => by rw [L_S, hx] at hnone; cases hnone) (fun y hy => ?_)
          rw [L_S, hx] at hy
          cases hy
          refine nw_cells (tag := tag3) 0 st3.sep fun c tag4 σ4 st4 r4 => ?_
          refine awp_append1 (hso.keep (st4 []) (by simp)) (st4 []).sep t25 ty9 rfl rfl (Row.cell1 r4 (st4 []).sep) rfl (by rw [List.length_map]; omega) (by decide) fun s' tag5 σ5 st5 r5 => ?_
          refine ⟨s', rfl, ?_⟩
          unfold j9_ztree_Tree_Children
          rw [Pa.inc j (by omega)]
          refine ih (j + 1) s' tag5 σ5 (by omega) (st3.trans ((st4 _).trans st5)) ((hs3.keep (st4 []) (by simp)).keep st5 (by simp)) ?_
          rw [htake, show namesOf [ks[j]] (L p) = [x] by simp [namesOf, hu, hup, hx], List.map_append]
          exact r5
        · rw [if_neg (fun h' => hup (by rw [← h'.2, L_S]))]
          exact skip (by rw [hu]; intro h'; exact hup (Option.some.inj h'))
end Go.Proofs.YthfpmipeejjogaaGreatDoor.Zt
