/- ZtreeShape, the walk. -/
import Derived.Test.YthfpmipeejjogaaGreatDoorZtL
namespace Go.Proofs.YthfpmipeejjogaaGreatDoor.Zt
open Go Go.Proofs.YthfpmipeejjogaaGreatDoor.SL Go.Proofs.YthfpmipeejjogaaGreatDoor.G Go.Proofs.YthfpmipeejjogaaGreatDoor.Pa
set_option linter.unusedSimpArgs false
set_option linter.unusedVariables false
variable {B : World} {ro σ σ' : AH} {tag tag' : Nat → Nat}

theorem slash_le {k : Str} {ps : List Str} (h : parts k = some ps) : ([47] : Str) ≤ k := by
  obtain ⟨hl, _⟩ := parts_iff.1 h
  obtain ⟨r, hr⟩ := mk_head ps
  rw [hl, hr]
  rw [List.cons_le_cons_iff]
  exact .inr ⟨rfl, List.nil_le _⟩
theorem names_len (ks : List Str) (p : Str) : (namesOf ks p).length = kc ks p := by
  unfold namesOf kc
  induction ks with
  | nil => rfl
  | cons k ks ih =>
    rw [List.filterMap_cons, List.countP_cons]
    by_cases h : parent k = some p
    · have hb : ∃ x, base k = some x := by
        unfold parent at h
        unfold base
        cases hq : parts k with
        | none => rw [hq] at h; cases h
        | some qs =>
          rw [hq] at h
          simp only at h ⊢
          split at h
          · cases h
          · rename_i hne
            exact ⟨_, List.getLast?_eq_some_getLast hne⟩
      obtain ⟨x, hx⟩ := hb
      simp [h, hx, ih]
    · simp [h, ih]
theorem kc_perm {a b : List Str} (h : a.Perm b) (u : Str) : kc a u = kc b u := by unfold kc; exact h.countP_eq _

theorem u5 : Tryz.prog.underlying 5 = some (.int .u8) := by kernel_rfl
set_option maxRecDepth 100000 in
theorem awake_ok {Q : Bool → AH → Prop} (g : Glob ro) (hQ : ∀ σ, SL.Sep ro σ → Q true σ) : c_law07_awake B ro σ Q := by
  refine law07_awake_ok fun hs => ?_
  unfold f_law07_awake
  refine new_ok (tag := fun _ => 0) 10 (by decide) (by decide) fun T tag1 σ1 st1 h1 => ?_
  rw [if_neg (by simp)]
  refine nw_cells (tag := tag1) 0 st1.sep fun x tag2 σ2 st2 r2 => ?_
  have h2 := h1.keep (st2 []) (by simp)
  have hs2 := (st2 []).sep
  have hcv : ∀ K : Value → AH → Prop, (∀ σ', Step [0] ro tag2 σ2 tag2 σ' → SL.Read ro σ' ⟨some ⟨x, 0, none⟩, 1, 1⟩ [vU 120] → K (Sl.v ⟨some ⟨x, 0, none⟩, 1, 1⟩) σ') → awp Tryz.prog ro (convert 30 30 (Sl.v ⟨some ⟨x, 0, none⟩, 1, 1⟩)) K σ2 := by
    intro K hK
    rcases r2 with ⟨h, _⟩ | ⟨b', cs, ha, ht, hb, hln, hc, hle, hg⟩
    · cases h
    · cases ha
      have hrd : SL.rd ro σ2 x = some (.cells cs 5) := by unfold SL.rd; rw [hs2 x _ hb]; exact hb
      unfold convert
      simp only [bind_def]
      rw [awp_underlying u30, awp_underlying u30]
      simp only [Sl.v]
      rw [awp_underlying u5]
      refine ⟨.cells cs 5, hrd, ?_⟩
      refine ⟨by decide, .cells cs 5, hb, ?_⟩
      refine hK _ (step_obj hs2 ht hb) ⟨rfl, (fun h => by cases h), fun p hp i v hv => ?_⟩
      cases hp
      rcases i with _ | i
      · cases hv
        rw [add_zero]
        unfold acell SL.rd
        rw [hs2 x _ hb]
        simp only [upd_same]
        show (if (⟨x, 0, none⟩ : Addr).spot.isSome then none else cs[0]?) = _
        rw [if_neg (by simp), hg 0 (by simp)]; rfl
      · cases hv
  refine hcv _ fun σx stx rdx => ⟨_, rfl, ?_⟩
  have h2 := h2.keep stx (by simp)
  refine create_ok (d := [120]) g (by decide) (by decide) (by decide) h2 rdx (by decide) fun tag3 σ3 st3 h3 => ?_
  have e1 : (create St.new (L (⟨#[47, 97]⟩ : ByteArray)) [120] 0 false).2 = ([47, 97], 0) := by decide
  rw [show (create St.new (L (⟨#[47, 97]⟩ : ByteArray)) [120] 0 false).2.1 = [47, 97] from by rw [e1], show (create St.new (L (⟨#[47, 97]⟩ : ByteArray)) [120] 0 false).2.2 = 0 from by rw [e1]]
  refine create_ok (d := []) g (by decide) (by decide) (by decide) h3 ⟨rfl, fun _ => rfl, fun p h => by cases h⟩ (by decide) fun tag4 σ4 st4 h4 => ?_
  have e2 : (create (create St.new (L (⟨#[47, 97]⟩ : ByteArray)) [120] 0 false).1 (L (⟨#[47, 97, 47, 115]⟩ : ByteArray)) [] 0 true).2 = ([47, 97, 47, 115, 48, 48, 48, 48, 48, 48, 48, 48, 48, 48], 0) := by decide
  have e3 : (create (create St.new (L (⟨#[47, 97]⟩ : ByteArray)) [120] 0 false).1 (L (⟨#[47, 97, 47, 115]⟩ : ByteArray)) [] 0 true).1.length = 3 := by decide
  generalize create (create St.new (L (⟨#[47, 97]⟩ : ByteArray)) [120] 0 false).1 (L (⟨#[47, 97, 47, 115]⟩ : ByteArray)) [] 0 true = y at e2 e3 h4
  rw [e2]
  rw [if_pos (by decide)]
  obtain ⟨M, bs, hA⟩ := h4
  refine size_ok hA ?_
  unfold j8_law07_awake
  rw [e3]
  exact hQ _ st4.sep

set_option maxRecDepth 100000 in
theorem shape_ok {a0 : Sl} {os : List OpV} (g : Glob ro) (hO : Ops ro a0 os) (hl : os.length ≤ 2199023255552) (hd : ∀ o ∈ os, o.data.length ≤ 140737488355328) : c_law07_ZtreeShape B ro a0 σ fun r _ => r = true := by
  refine law07_ZtreeShape_ok fun hs => ?_
  unfold f_law07_ZtreeShape
  refine made_ok 10 g (by decide) (by decide) (by decide) hO hl hd fun T tag1 σ1 hs1 h1 hi hlen => ?_
  rw [if_neg (by simp)]
  generalize os.foldl apply1 St.new = st at h1 hi hlen
  obtain ⟨M, bs, hA⟩ := h1
  have hparts : ∀ p ∈ st, ∃ ps, parts p.1 = some ps := fun p hp => by
    obtain ⟨n, hn⟩ := lookup_in (List.mem_map.2 ⟨p, hp, rfl⟩)
    exact hi.path _ n hn
  refine paths_root (q := 20) g (by decide) (by decide) hA hparts (by omega) fun s tag2 σ2 ks st2 hpm hsrt hr2 => ?_
  rw [if_neg (by decide)]
  have hA2 := hA.keep (st2 []) (by simp)
  have hs2 := (st2 []).sep
  refine size_ok hA2 ?_
  have hln : s.len = ks.length := by rw [hr2.len, List.length_map]
  have hkl : ks.length = st.length := by rw [hpm.length_eq, List.length_map]
  obtain ⟨n0, hn0⟩ := hi.root
  have h47 : ([47] : Str) ∈ ks := hpm.mem_iff.2 (in_lookup hn0)
  have hpos : 0 < ks.length := List.length_pos_of_mem h47
  have hk0 : ks[0] = [47] := by
    obtain ⟨i, hi', e⟩ := List.getElem_of_mem h47
    have h1 : ([47] : Str) ≤ ks[0] := by
      obtain ⟨p, hp, e'⟩ := List.mem_map.1 (hpm.mem_iff.1 (List.getElem_mem hpos))
      obtain ⟨ps, hps⟩ := hparts p hp
      rw [← e']; exact slash_le hps
    rcases Nat.eq_zero_or_pos i with h0 | h0
    · subst h0; exact e
    · have h2 : ks[0] ≤ ks[i] := List.pairwise_iff_getElem.1 hsrt 0 i hpos hi' h0
      rw [e] at h2
      exact List.le_antisymm h2 h1
  have hnd : ks.Nodup := hpm.nodup_iff.2 hi.keys
  unfold j4_law07_ZtreeShape
  rw [if_neg (by simp; omega)]
  obtain ⟨p0, hp0, _, hget0⟩ := Row.sget hr2 hs2 hpos
  refine ⟨p0, hp0, by decide, by omega, _, hget0 0 hpos, ?_⟩
  unfold j6_law07_ZtreeShape
  rw [hk0]
  rw [if_neg (by decide)]
  suffices ∀ m j tag3 σ3, j + m = ks.length → SL.Sep ro σ3 → TreeAt tag3 σ3 10 T M bs st → Row tag3 σ3 20 9 s (ks.map Pa.vS) → lfpD (l10_law07_ZtreeShape B ro (some ⟨T, 0, none⟩) s fun r _ => r = true) (j : Int) σ3 from
    this _ 0 tag2 σ2 (Nat.zero_add _) hs2 hA2 hr2
  intro m
  induction m with
  | zero =>
    intro j tag3 σ3 hj hs3 hA3 hr3
    refine lfpD.intro ?_
    unfold l10_law07_ZtreeShape
    rw [if_neg (by omega)]
    unfold j8_law07_ZtreeShape
    exact awake_ok g fun σ _ => rfl
  | succ m ih =>
    intro j tag3 σ3 hj hs3 hA3 hr3
    have hjl : j < ks.length := by omega
    obtain ⟨pp, hpp, _, hget⟩ := Row.sget hr3 hs3 hjl
    have hkm : ks[j] ∈ st.map (·.1) := hpm.mem_iff.1 (List.getElem_mem hjl)
    obtain ⟨n, hn⟩ := lookup_in hkm
    obtain ⟨ps, hps⟩ := hi.path _ n hn
    refine lfpD.intro ?_
    unfold l10_law07_ZtreeShape
    rw [if_pos (by omega)]
    refine ⟨pp, hpp, by omega, by omega, _, hget j hjl, ?_⟩
    refine get_ok g (by decide) (by decide) (by decide) hA3 (fun p n h => hi.data p n h) (fun hb => by rw [L_S, hps] at hb; cases hb) (fun _ _ hb => by rw [L_S, hn] at hb; cases hb) (fun n' hn' ds tag4 σ4 st4 hr4 => ?_)
    rw [L_S, hn] at hn'; cases hn'
    have hA4 := hA3.keepC st4 (by decide) (by decide)
    have hr3' := hr3.keepC st4 (by decide)
    refine nw_st (tag := tag4) 0 st4.sep rfl (by simp [storable]) fun x tag5 σ5 st5 r5 => ?_
    have hA5 := hA4.keep (st5 []) (by simp)
    have hr5 := hr3'.keep (st5 []) (by simp)
    refine children_ok (q := 21) g (by decide) (by decide) (by decide) hA5 hparts (by omega) (fun hb => by rw [L_S, hps] at hb; cases hb) (fun _ _ hb => by rw [L_S, hn] at hb; cases hb) (fun n' hn' c tag6 σ6 ks' st6 hp6 _ hr6 => ?_)
    rw [L_S, hn] at hn'; cases hn'
    rw [L_S] at hr6
    have hA6 := hA5.keep st6 (by simp)
    have hr36 := hr5.keep st6 (by simp)
    have r56 := r5.keep st6 (by simp)
    have hs6 := st6.sep
    have hcl : (c.len : Int) = n.kids := by
      rw [hr6.len, List.length_map, names_len, kc_perm hp6, hi.kids _ n hn]
    have hctr := hi.ctr _ n hn
    rw [if_neg (by simp)]
    obtain ⟨px, hpx, hg⟩ := r56.ptr hs6 (by simp)
    cases hpx
    refine ⟨n.kids, hg 3 _ rfl, ?_⟩
    unfold j21_law07_ZtreeShape
    rw [if_neg (by simp [hcl])]
    refine ⟨n.ctr, hg 1 _ rfl, ?_⟩
    unfold j23_law07_ZtreeShape
    rw [if_neg (by simp; omega)]
    refine ⟨n.own, hg 2 _ rfl, ?_⟩
    unfold j25_law07_ZtreeShape
    have hown : n.own ≠ 0 → ¬ (0 < (c.len : Int)) := fun ho hc => by
      rw [hcl, hi.kids _ n hn] at hc
      obtain ⟨k, hk, hpk⟩ := kc_pos (u := ks[j]) (ks := st.map (·.1)) (by omega)
      obtain ⟨y, hy⟩ := lookup_in hk
      have hne : k ≠ [47] := fun e => by rw [e, root_parent] at hpk; cases hpk
      obtain ⟨u, mm, g1, g2, g3⟩ := hi.up k y hy hne
      rw [hpk] at g1; cases g1
      rw [hn] at g2; cases g2
      exact ho g3
    rw [if_neg (fun h => by
      rw [Bool.and_eq_true] at h
      exact hown (by simpa using h.1) (by simpa using h.2))]
    have nxt : ∀ tag7 σ7, SL.Sep ro σ7 → TreeAt tag7 σ7 10 T M bs st → Row tag7 σ7 20 9 s (ks.map Pa.vS) → j12_law07_ZtreeShape B ro (some ⟨T, 0, none⟩) s (j : Int) (fun r _ => r = true) (lfpD (l10_law07_ZtreeShape B ro (some ⟨T, 0, none⟩) s fun r _ => r = true)) σ7 := fun tag7 σ7 hs7 hA7 hr7 => by
      unfold j12_law07_ZtreeShape
      rw [Pa.inc j (by omega)]
      exact ih (j + 1) tag7 σ7 (by omega) hs7 hA7 hr7
    by_cases hj0 : j = 0
    · rw [if_pos (by omega)]
      exact nxt tag6 σ6 hs6 hA6 hr36
    · rw [if_neg (by omega)]
      have hne : ks[j] ≠ [47] := fun e => hj0 ((List.getElem_inj hnd).1 (e.trans hk0.symm))
      obtain ⟨u, mm, g1, g2, _⟩ := hi.up _ n hn hne
      refine rparent_ok (fun hb => by rw [L_S, g1] at hb; cases hb) (fun u' hu' => ?_)
      rw [L_S, g1] at hu'; cases hu'
      obtain ⟨pu, hpu⟩ := hi.path _ mm g2
      refine get_ok g (by decide) (by decide) (by decide) hA6 (fun p n h => hi.data p n h) (fun hb => by rw [L_S, hpu] at hb; cases hb) (fun _ _ hb => by rw [L_S, g2] at hb; cases hb) (fun n' hn' ds' tag7 σ7 st7 hr7 => ?_)
      refine nw_st (tag := tag7) 0 st7.sep rfl (by simp [storable]) fun x' tag8 σ8 st8 r8 => ?_
      rw [if_neg (by simp)]
      exact nxt tag8 σ8 (st8 []).sep ((hA6.keepC st7 (by decide) (by decide)).keep (st8 []) (by simp)) ((hr36.keepC st7 (by decide)).keep (st8 []) (by simp))
end Go.Proofs.YthfpmipeejjogaaGreatDoor.Zt
