/- MuB, MuD, MuE, MuF -/
import Derived.Test.YthfpmipeejjogaaGreatDoorXL
/- What homes hold, the walk: Home, Usage. -/
namespace Go.Proofs.YthfpmipeejjogaaGreatDoor.Zt
open Go Go.Proofs.YthfpmipeejjogaaGreatDoor.SL Go.Proofs.YthfpmipeejjogaaGreatDoor.G Go.Proofs.YthfpmipeejjogaaGreatDoor.Pa
set_option linter.unusedSimpArgs false
set_option linter.unusedVariables false
variable {B : World} {ro σ σ' : AH} {tag tag' : Nat → Nat}

/-- a path's parts: what was owned is as it was -/
theorem parts2_ok {s : ByteArray} {Q : Sl → Int → AH → Prop} (r : Nat) (g : Glob ro) (hs : SL.Sep ro σ) (hnone : parts (L s) = none → ∀ sl tag' σ', Step [] ro tag σ tag' σ' → Q sl 20 σ')
    (hsome : ∀ ps, parts (L s) = some ps → ∀ sl tag' σ', Step [] ro tag σ tag' σ' → Row tag' σ' r 9 sl (ps.map Pa.vS) → Q sl 0 σ') : c_path_Parts B ro s σ Q := by
  have base : c_path_Parts B ro s (fun _ => none) (fun sl e σ' => (parts (L s) = none ∧ e = 20) ∨ ∃ ps tag', parts (L s) = some ps ∧ e = 0 ∧ Row tag' σ' r 9 sl (ps.map Pa.vS)) :=
    Pa.parts_ok (tag := fun _ => 0) r g (fun h _ _ => .inl ⟨h, rfl⟩) fun ps h sl tag' σ' _ hr => .inr ⟨ps, tag', h, rfl, hr⟩
  have fr := c_path_Parts_frame (ψ := σ) base (fun b o h => by cases h)
  have e : join (fun _ => none) σ = σ := by funext b; rfl
  rw [e] at fr
  refine c_path_Parts_mono fr ?_
  rintro sl ev σ' hsep ⟨τ, rfl, hd, hq⟩
  have keep : ∀ (tg : Nat → Nat), (∀ b, τ b = none → tg b = tag b) → Step [] ro tag σ tg (join τ σ) := fun tg htg => by
    have hn : ∀ b o, σ b = some o → τ b = none := fun b o ho => by
      cases h : τ b with
      | none => rfl
      | some x => have := hd b x h; rw [ho] at this; cases this
    refine ⟨fun b o ho _ => ⟨htg b (hn b o ho), join_right hd ho⟩, fun b o ho => ⟨htg b (hn b o ho), o, join_right hd ho⟩, hsep⟩
  rcases hq with ⟨h, rfl⟩ | ⟨ps, tg, h, rfl, hr⟩
  · exact hnone h sl tag _ (keep tag fun _ _ => rfl)
  · refine hsome ps h sl (fun b => if (τ b).isSome then tg b else tag b) _ (keep _ fun b hb => by simp [hb]) ?_
    rcases hr with h | ⟨b, cs, ha, ht, hb, hx⟩
    · exact .inl h
    · exact .inr ⟨b, cs, ha, by simp [hb, ht], by unfold join; rw [hb], hx⟩
theorem home_ok {s : ByteArray} {ps : List Str} {Q : ByteArray → Int → AH → Prop} (g : Glob ro) (hps : parts (L s) = some ps) (hQ : ∀ tag' σ', Step [] ro tag σ tag' σ' → Q (S ((homeOf (L s)).getD [])) 0 σ') : c_path_Home B ro s σ Q := by
  refine path_Home_ok fun hs => ?_
  unfold f_path_Home
  refine parts2_ok (tag := tag) 0 g hs (fun h => by rw [hps] at h; cases h) fun ps' h sl tag1 σ1 st1 r1 => ?_
  rw [hps] at h; cases h
  have hln : sl.len = ps.length := by rw [r1.len, List.length_map]
  have hh := homeOf_parts hps
  by_cases h0 : ps = []
  · subst h0
    rw [if_pos (by rw [hln]; rfl)]
    rw [hh] at hQ
    exact hQ tag1 σ1 st1
  · have hpos := List.length_pos_iff.2 h0
    rw [if_neg (by omega)]
    obtain ⟨p, hp, _, hget⟩ := Row.sget r1 st1.sep hpos
    refine ⟨p, hp, by decide, by omega, _, hget 0 hpos, ?_⟩
    rw [hh, List.head?_eq_getElem?, List.getElem?_eq_getElem hpos] at hQ
    exact hQ tag1 σ1 st1

set_option maxRecDepth 100000 in
theorem usage_ok {r T M q0 : Nat} {bs : List Nat} {st : St} {hs : List Str} {s : Sl} {Q : Int → Int → AH → Prop} (g : Glob ro) (hr : r < 64) (hr' : r ∉ [0, 2, 3, 4, 6, 20]) (h : TreeAt tag σ r T M bs st) (hi : Inv st) (hn : st.length ≤ 4294967296)
    (hrow : Row tag σ q0 9 s (hs.map Pa.vS)) (hq0 : q0 % 64 ∉ [0, 2, 3, 4, 20]) (hhl : ∀ x ∈ hs, x.length ≤ 4611686018427387903) (hhn : hs.length ≤ 1024)
    (hQ : ∀ tag' σ', StepS [0, 2, 3, 4, 20] ro tag σ tag' σ' → Q ((usages st hs).1 : Nat) ((usages st hs).2 : Nat) σ') : c_multi_Usage B ro (some ⟨T, 0, none⟩) s σ Q := by
  refine multi_Usage_ok fun hsep => ?_
  unfold f_multi_Usage
  simp only [List.mem_cons, List.not_mem_nil, or_false, not_or] at hr' hq0
  refine nw_cells (tag := tag) 2 hsep fun x4 tag1 σ1 st1 r1 => ?_
  refine nw_cells (tag := tag1) 3 (st1 []).sep fun x5 tag2 σ2 st2 r2 => ?_
  have hsl : s.len = hs.length := by rw [hrow.len, List.length_map]
  have hpaths : ∀ p ∈ st, ∃ ps, parts p.1 = some ps := fun p hp => hi.path _ _ ((lookup_iff hi.keys (k := p.1) (n := p.2)).2 hp)
  let acc (j : Nat) : Nat × Nat := usages st (hs.take j)
  have hacc : ∀ j, j ≤ hs.length → (acc j).1 ≤ j * st.length ∧ (acc j).2 ≤ j * (384 * st.length) := by
    intro j
    induction j with
    | zero => intro _; exact ⟨by simp [acc, usages], by simp [acc, usages]⟩
    | succ j ih =>
      intro hj
      have := ih (by omega)
      have hu := usage_le hi hs[j]
      have e : acc (j + 1) = ((acc j).1 + (usage st hs[j]).1, (acc j).2 + (usage st hs[j]).2) := by
        simp only [acc, usages]
        rw [List.take_add_one, List.getElem?_eq_getElem (by omega), List.foldl_append]; rfl
      rw [e]
      simp only [Nat.add_mul, Nat.one_mul]
      omega
  have hbound : ∀ j, j ≤ hs.length → (acc j).1 ≤ 4398046511104 ∧ (acc j).2 ≤ 1688849860263936 := fun j hj => by
    have h1 := hacc j hj
    have h2 : j * st.length ≤ 1024 * 4294967296 := Nat.mul_le_mul (by omega) hn
    have h3 : j * (384 * st.length) ≤ 1024 * (384 * 4294967296) := Nat.mul_le_mul (by omega) (Nat.mul_le_mul_left _ hn)
    omega
  suffices ∀ (m j : Nat) (tag3 : Nat → Nat) (σ3 : AH), j + m = hs.length → StepS [0, 2, 3, 4, 20] ro tag σ tag3 σ3 → TreeAt tag3 σ3 r T M bs st → Row tag3 σ3 q0 9 s (hs.map Pa.vS) → Row tag3 σ3 2 69 ⟨some ⟨x4, 0, none⟩, 2, 2⟩ [vI 0, vI 0] → Row tag3 σ3 3 69 ⟨some ⟨x5, 0, none⟩, 2, 2⟩ [vI (acc j).1, vI (acc j).2] →
      lfpD (l6_multi_Usage B ro (some ⟨T, 0, none⟩) s x4 x5 Q) (j : Int) σ3 from
    this _ 0 tag2 σ2 (Nat.zero_add _) (((st1 []).s (by simp)).trans ((st2 []).s (by simp))) ((h.keep (st1 []) (by simp)).keep (st2 []) (by simp)) ((hrow.keep (st1 []) (by simp)).keep (st2 []) (by simp)) (r1.keep (st2 []) (by simp)) r2
  intro m
  induction m with
  | zero =>
    intro j tag3 σ3 hj hst hA hrow3 h4 h5
    refine lfpD.intro ?_
    unfold l6_multi_Usage
    rw [if_neg (by omega)]
    unfold j3_multi_Usage
    obtain ⟨p5, hp5, hg5⟩ := h5.ptr hst.sep (by simp)
    cases hp5
    refine ⟨_, _, cellsAt_of 0 fun i v hv => by rw [Nat.zero_add]; have := hg5 i v hv; rwa [Nat.mul_one] at this, ?_⟩
    refine h4.stAll hst.sep (by simp) (by simp [storable]) fun σ4 st4 r4 => ?_
    obtain ⟨p4, hp4, hg4⟩ := r4.ptr st4.sep (by simp)
    cases hp4
    refine ⟨_, _, cellsAt_of 0 fun i v hv => by rw [Nat.zero_add]; have := hg4 i v hv; rwa [Nat.mul_one] at this, ?_⟩
    have e : acc j = usages st hs := by simp only [acc]; rw [List.take_of_length_le (by omega)]
    rw [e]
    exact hQ tag3 σ4 (hst.trans (st4.s (by simp)))
  | succ m ih =>
    intro j tag3 σ3 hj hst hA hrow3 h4 h5
    have hjl : j < hs.length := by omega
    obtain ⟨pp, hpp, _, hget⟩ := Row.sget hrow3 hst.sep hjl
    refine lfpD.intro ?_
    unfold l6_multi_Usage
    rw [if_pos (by omega)]
    refine ⟨pp, hpp, by omega, by omega, S hs[j], by rw [Int.toNat_natCast]; exact hget j hjl, ?_⟩
    have hxl := hhl _ (List.getElem_mem hjl)
    refine ⟨by rw [show (⟨#[47]⟩ : ByteArray).size = 1 from rfl, show (S hs[j]).size = hs[j].length from by rw [← L_len, L_S]]; omega, ?_⟩
    have hcat : (⟨#[47]⟩ : ByteArray) ++ S hs[j] = S (47 :: hs[j]) := by
      rw [show (⟨#[47]⟩ : ByteArray) = S [47] from rfl, S_append]; rfl
    rw [hcat]
    have hu := usage_le hi hs[j]
    have hej : acc (j + 1) = ((acc j).1 + (usage st hs[j]).1, (acc j).2 + (usage st hs[j]).2) := by
      simp only [acc, usages]
      rw [List.take_add_one, List.getElem?_eq_getElem hjl, List.foldl_append]; rfl
    have hbj := hbound (j + 1) (by omega)
    rw [hej] at hbj
    simp only at hbj
    -- the inner loop, over the paths under the home
    have inner : ∀ (l : List Str) (sl : Sl) (m2 i : Nat) (tag5 : Nat → Nat) (σ5 : AH), i + m2 = l.length → l.length ≤ st.length → (∀ k ∈ l, k ∈ st.map (·.1)) → usageK st hs[j] l = usage st hs[j] → StepS [0, 2, 3, 4, 20] ro tag σ tag5 σ5 → TreeAt tag5 σ5 r T M bs st → Row tag5 σ5 q0 9 s (hs.map Pa.vS) → Row tag5 σ5 2 69 ⟨some ⟨x4, 0, none⟩, 2, 2⟩ [vI 0, vI 0] → Row tag5 σ5 20 9 sl (l.map Pa.vS) →
        Row tag5 σ5 3 69 ⟨some ⟨x5, 0, none⟩, 2, 2⟩ [vI ((acc j).1 + (usageK st hs[j] (l.take i)).1 : Nat), vI ((acc j).2 + (usageK st hs[j] (l.take i)).2 : Nat)] →
        lfpD (l13_multi_Usage B ro (some ⟨T, 0, none⟩) s x4 x5 (j : Int) (S hs[j]) sl Q (lfpD (l6_multi_Usage B ro (some ⟨T, 0, none⟩) s x4 x5 Q))) (i : Int) σ5 := by
      intro l sl m2
      induction m2 with
      | zero =>
        intro i tag5 σ5 hil hll hlk hul hst5 hA5 hrow5 h45 h20 h35
        refine lfpD.intro ?_
        unfold l13_multi_Usage
        have hsll : sl.len = l.length := by rw [h20.len, List.length_map]
        rw [if_neg (by omega)]
        unfold j8_multi_Usage
        rw [Pa.inc j (by omega)]
        rw [List.take_of_length_le (by omega), hul] at h35
        exact ih (j + 1) tag5 σ5 (by omega) hst5 hA5 hrow5 h45 (by rw [hej]; exact h35)
      | succ m2 ih2 =>
        intro i tag5 σ5 hil hll hlk hul hst5 hA5 hrow5 h45 h20 h35
        have hil' : i < l.length := by omega
        have hsll : sl.len = l.length := by rw [h20.len, List.length_map]
        obtain ⟨pl, hpl, _, hgetl⟩ := Row.sget h20 hst5.sep hil'
        obtain ⟨n, hnl⟩ := lookup_in (hlk _ (List.getElem_mem hil'))
        obtain ⟨ps, hps⟩ := hi.path _ _ hnl
        have hda := hi.data _ _ hnl
        have hk128 : l[i].length ≤ 128 := (hi.small _ ((lookup_iff hi.keys).1 hnl)).1
        refine lfpD.intro ?_
        unfold l13_multi_Usage
        rw [if_pos (by omega)]
        refine ⟨pl, hpl, by omega, by omega, S l[i], by rw [Int.toNat_natCast]; exact hgetl i hil', ?_⟩
        refine home_ok (tag := tag5) g (by rw [L_S]; exact hps) fun tag6 σ6 st6 => ?_
        rw [L_S]
        have etk : usageK st hs[j] (l.take (i + 1)) = if homeOf l[i] = some hs[j] then ((usageK st hs[j] (l.take i)).1 + 1, (usageK st hs[j] (l.take i)).2 + (l[i].length + n.data.length)) else usageK st hs[j] (l.take i) := by
          rw [List.take_add_one, List.getElem?_eq_getElem hil']
          simp only [Option.toList_some]
          rw [usageK_app, hnl]
        have ul := usageK_le st hs[j] (l.take (i + 1)) (fun k hk => by
          obtain ⟨n', hn'⟩ := lookup_in (hlk k (List.mem_of_mem_take hk))
          exact (hi.small _ ((lookup_iff hi.keys).1 hn')).1) hi.data
        by_cases hh : homeOf l[i] = some hs[j]
        · rw [hh]
          simp only [Option.getD_some]
          rw [if_neg (by
            rintro (h | h)
            · exact h trivial
            · exact homeOf_ne hh (S_inj.1 h))]
          rw [if_pos hh] at etk
          refine get_ok g hr (by omega) (by omega) (hA5.keep st6 (by simp)) (fun p n h => hi.data p n h) (fun hb => by rw [L_S, hps] at hb; cases hb) (fun _ _ hb => by rw [L_S, hnl] at hb; cases hb) (fun n' hn' ds tag7 σ7 st7 hr7 => ?_)
          rw [L_S, hnl] at hn'; cases hn'
          refine nw_st (tag := tag7) 4 st7.sep rfl (by simp [storable]) fun x tag8 σ8 st8 r8 => ?_
          have h38 := ((h35.keep st6 (by simp)).keepC st7 (by decide)).keep (st8 []) (by simp)
          obtain ⟨p5, hp5, hg5⟩ := h38.ptr (st8 []).sep (by simp)
          cases hp5
          refine ⟨_, hg5 0 _ rfl, ?_⟩
          refine h38.st (i := 0) (st8 []).sep rfl (by simp) rfl fun σ9 st9 r9 => ?_
          obtain ⟨p9, hp9, hg9⟩ := r9.ptr st9.sep (by simp)
          cases hp9
          refine ⟨_, hg9 1 _ rfl, ?_⟩
          refine r9.st (i := 1) st9.sep rfl (by simp) rfl fun σa sta ra => ?_
          unfold j15_multi_Usage
          rw [Pa.inc i (by omega)]
          have hdl : (ds.len : Int) = n.data.length := by rw [hr7.len, List.length_map]
          have hsz : ((S l[i]).size : Int) = l[i].length := by rw [← L_len, L_S]
          have k9 : ∀ (R : Nat), R ≠ 3 → R ∉ [3] := fun R h => by simpa using h
          rw [etk] at ul
          simp only at ul
          have lt : (l.take (i + 1)).length ≤ st.length := by rw [List.length_take]; omega
          refine ih2 (i + 1) tag8 σa (by omega) hll hlk hul (hst5.trans ((st6.s (by simp)).trans ((st7.s (by simp)).trans (((st8 []).s (by simp)).trans ((st9.s (by simp)).trans (sta.s (by simp))))))) ?_ ?_ ?_ ?_ ?_
          · exact ((((hA5.keep st6 (by simp)).keepC st7 (by omega) (by omega)).keep (st8 []) (by simp)).keep st9 (by simp; omega)).keep sta (by simp; omega)
          · exact ((((hrow5.keep st6 (by simp)).keepC st7 (by omega)).keep (st8 []) (by simp)).keep st9 (by simp; omega)).keep sta (by simp; omega)
          · exact ((((h45.keep st6 (by simp)).keepC st7 (by omega)).keep (st8 []) (by simp)).keep st9 (by simp)).keep sta (by simp)
          · exact ((((h20.keep st6 (by simp)).keepC st7 (by omega)).keep (st8 []) (by simp)).keep st9 (by simp)).keep sta (by simp)
          · rw [etk]
            have e1 : IntKind.i64.wrap ((((acc j).1 + (usageK st hs[j] (l.take i)).1 : Nat) : Int) + 1) = (((acc j).1 + ((usageK st hs[j] (l.take i)).1 + 1) : Nat) : Int) := by
              rw [w64_eq (by omega) (by omega)]; omega
            have e2 : IntKind.i64.wrap ((((acc j).2 + (usageK st hs[j] (l.take i)).2 : Nat) : Int) + IntKind.i64.wrap (((S l[i]).size : Int) + (ds.len : Int))) = (((acc j).2 + ((usageK st hs[j] (l.take i)).2 + (l[i].length + n.data.length)) : Nat) : Int) := by
              rw [hdl, hsz, w64_eq (n := (l[i].length : Int) + (n.data.length : Int)) (by omega) (by omega), w64_eq (by omega) (by omega)]; omega
            simp only
            rw [← e1, ← e2]
            exact ra
        · rw [if_pos (by
            by_cases h0 : hs[j] = []
            · exact .inr (by rw [h0]; rfl)
            · refine .inl fun h => hh ?_
              have := S_inj.1 h
              cases e : homeOf l[i] with
              | none => rw [e] at this; exact absurd this.symm h0
              | some x => rw [e] at this; simp at this; rw [this])]
          rw [if_neg hh] at etk
          unfold j15_multi_Usage
          rw [Pa.inc i (by omega)]
          exact ih2 (i + 1) tag6 σ6 (by omega) hll hlk hul (hst5.trans (st6.s (by simp))) (hA5.keep st6 (by simp)) (hrow5.keep st6 (by simp)) (h45.keep st6 (by simp)) (h20.keep st6 (by simp)) (by rw [etk]; exact h35.keep st6 (by simp))
    refine pathsAny_ok (q := 20) g hr (by omega) (by decide) hA hpaths (by omega) (fun hbad tag5 σ5 st5 => ?_) fun ps hps sl tag5 σ5 ks st5 hp5 hsrt5 r5 => ?_
    · rw [L_S] at hbad
      have hz : usage st hs[j] = (0, 0) := by
        rw [← usageK_srt hi.keys]
        exact usageK_none st _ _ (by rw [hbad]; simp)
      refine inner [] ⟨none, 0, 0⟩ 0 0 tag5 σ5 rfl (Nat.zero_le _) (fun _ h => by cases h) (by rw [hz]; rfl) (hst.trans ((st5 []).s (by simp))) (hA.keep (st5 []) (by simp)) (hrow3.keep (st5 []) (by simp)) (h4.keep (st5 []) (by simp)) (Row.nil _ _) ?_
      simpa [usageK] using h5.keep (st5 []) (by simp)
    · rw [L_S] at r5
      have hks := srt_keys hA.keys hp5 hsrt5
      refine inner _ sl _ 0 tag5 σ5 (Nat.zero_add _) (by have h1 := List.length_filter_le (fun k => isUnder (47 :: hs[j]) k) ks; have h2 := hp5.length_eq; rw [List.length_map] at h2; omega) (fun k hk => hp5.mem_iff.1 (List.mem_filter.1 hk).1) ?_ (hst.trans (st5.s (by simp))) (hA.keep st5 (by simp; omega)) (hrow3.keep st5 (by simp; omega)) (h4.keep st5 (by simp)) r5 ?_
      · rw [usageK_under, hks, usageK_srt hi.keys]
      · simpa [usageK] using h5.keep st5 (by simp)
end Go.Proofs.YthfpmipeejjogaaGreatDoor.Zt

/- One change of several, the walk: within, do. -/
namespace Go.Proofs.YthfpmipeejjogaaGreatDoor.Zt
open Go Go.Proofs.YthfpmipeejjogaaGreatDoor.SL Go.Proofs.YthfpmipeejjogaaGreatDoor.G Go.Proofs.YthfpmipeejjogaaGreatDoor.Pa
set_option linter.unusedSimpArgs false
set_option linter.unusedVariables false
variable {B : World} {ro σ σ' : AH} {tag tag' : Nat → Nat}

theorem RowW.keepS {C : List Nat} {r : Nat} {e : TypeId} {w : Nat} {s : Sl} {l : List (List Value)} (h : RowW tag σ r e w s l) (k : StepS C ro tag σ tag' σ') (hr : r % 64 ∉ C) : RowW tag' σ' r e w s l := by
  obtain ⟨R, h1, h2⟩ := k
  exact h.keep h2 fun m => hr (h1 _ m)
theorem Row.cellsAt {r : Nat} {e : TypeId} {b n c : Nat} {l : List Value} (h : Row tag σ r e ⟨some ⟨b, 0, none⟩, n, c⟩ l) (hs : SL.Sep ro σ) : SL.cellsAt ro σ ⟨b, 0, none⟩ 0 l := by
  rcases Nat.eq_zero_or_pos l.length with h0 | h0
  · rw [List.eq_nil_of_length_eq_zero h0]; trivial
  · obtain ⟨p, hp, hg⟩ := h.ptr hs h0
    cases hp
    exact cellsAt_of 0 fun i v hv => by rw [Nat.zero_add]; have := hg i v hv; rwa [Nat.mul_one] at this
theorem Row.readW1 {r w : Nat} {e : TypeId} {b n c : Nat} {l : List Value} (h : Row tag σ r e ⟨some ⟨b, 0, none⟩, n, c⟩ l) (hs : SL.Sep ro σ) (hw : l.length = w) (h0 : 0 < w) : SL.ReadW ro σ w ⟨some ⟨b, 0, none⟩, 1, 1⟩ [l] := by
  obtain ⟨p, hp, hg⟩ := h.ptr hs (by omega)
  cases hp
  refine ⟨rfl, (fun h => by cases h), fun x hx => by rw [List.mem_singleton.1 hx]; exact hw, fun p hp i v hv => ?_⟩
  cases hp
  have := hg i v (by simpa using hv)
  rwa [Nat.mul_one] at this

/-- what is being done, in memory -/
def resV (r : Str × Int) : List Value := [Pa.vS r.1, vI r.2]
def effV (e : Int × Str) : List Value := [vI e.1, Pa.vS e.2]
structure WorkAt (tag : Nat → Nat) (σ : AH) (W T : Nat) (home : Str) (owner qn qb : Int) (res : List (Str × Int)) (eff : List (Int × Str)) : Prop where
  mem : ∃ rs es : Sl, Row tag σ 13 173 ⟨some ⟨W, 0, none⟩, 8, 8⟩ [Sl.v rs, Sl.v es, vI 0, ptr T, Pa.vS home, vI owner, vI qn, vI qb] ∧ RowW tag σ 14 84 2 rs (res.map resV) ∧ RowW tag σ 15 108 2 es (eff.map effV)
theorem WorkAt.keepS {C : List Nat} {W T : Nat} {home : Str} {owner qn qb : Int} {res : List (Str × Int)} {eff : List (Int × Str)} (h : WorkAt tag σ W T home owner qn qb res eff) (k : StepS C ro tag σ tag' σ') (h3 : 13 ∉ C) (h4 : 14 ∉ C) (h5 : 15 ∉ C) : WorkAt tag' σ' W T home owner qn qb res eff := by
  obtain ⟨rs, es, a, b, c⟩ := h.mem
  exact ⟨rs, es, a.keepS k h3, RowW.keepS b k h4, RowW.keepS c k h5⟩
/-- the classes of roles that one change touches -/
abbrev DC : List Nat := [0, 2, 3, 4, 5, 12, 13, 14, 15, 17, 18, 19, 20, 21]

set_option maxRecDepth 100000 in
theorem within_ok {W T : Nat} {home : Str} {owner qn qb : Int} {res : List (Str × Int)} {eff : List (Int × Str)} {o : MOp} {ds : Sl} {Q : Int → AH → Prop} (g : Glob ro) (h : WorkAt tag σ W T home owner qn qb res eff)
    (hQ : ∀ tag' σ', Step [] ro tag σ tag' σ' → Q (withinE home o) σ') : c_multi_work_within B ro (some ⟨W, 0, none⟩) o.kind (S o.path) ds o.ver o.eph o.seq σ Q := by
  refine multi_work_within_ok fun hs => ?_
  unfold f_multi_work_within
  refine nw_cells (tag := tag) 0 hs fun x tag1 σ1 st1 r1 => ?_
  obtain ⟨p, hp, hg⟩ := r1.ptr (st1 []).sep (by simp)
  cases hp
  refine ⟨_, hg 1 _ rfl, ?_⟩
  have kindOf : ∀ tag2 σ2, Step [] ro tag1 σ1 tag2 σ2 → acell ro σ2 ⟨x, 0, none⟩ = some (vI o.kind) := fun tag2 σ2 st2 => by
    obtain ⟨p, hp, hg⟩ := (r1.keep st2 (by simp)).ptr st2.sep (by simp)
    cases hp
    exact hg 0 _ rfl
  have bad : ∀ tag2 σ2 sl e, Step [] ro tag1 σ1 tag2 σ2 → withinE home o = 80 → j6_multi_work_within B ro (some ⟨W, 0, none⟩) x sl e Q true σ2 := fun tag2 σ2 sl e st2 hw => by
    unfold j6_multi_work_within
    rw [if_pos rfl]
    have := hQ tag2 σ2 ((st1 _).trans st2)
    rw [hw] at this; exact this
  have split : ∀ tag2 σ2 sl e, Step [] ro tag1 σ1 tag2 σ2 → (¬ (o.kind < 1 ∨ 4 < o.kind) → j6_multi_work_within B ro (some ⟨W, 0, none⟩) x sl e Q false σ2) →
      ∃ (x15_5 : Int), acell ro σ2 ⟨x, 0, none⟩ = some (.int .i64 x15_5) ∧ if x15_5 < 1 then j6_multi_work_within B ro (some ⟨W, 0, none⟩) x sl e Q true σ2 else ∃ (x19_16 : Int), acell ro σ2 ⟨x, 0, none⟩ = some (.int .i64 x19_16) ∧ j6_multi_work_within B ro (some ⟨W, 0, none⟩) x sl e Q (decide (4 < x19_16)) σ2 := fun tag2 σ2 sl e st2 hgood => by
    have hw80 : (o.kind < 1 ∨ 4 < o.kind) → withinE home o = 80 := fun h => by unfold withinE; rw [if_pos h]
    refine ⟨o.kind, kindOf tag2 σ2 st2, ?_⟩
    by_cases h1 : o.kind < 1
    · rw [if_pos h1]; exact bad tag2 σ2 sl e st2 (hw80 (.inl h1))
    · rw [if_neg h1]
      refine ⟨o.kind, kindOf tag2 σ2 st2, ?_⟩
      by_cases h2 : 4 < o.kind
      · rw [show decide (4 < o.kind) = true from by simpa using h2]
        exact bad tag2 σ2 sl e st2 (hw80 (.inr h2))
      · rw [show decide (4 < o.kind) = false from by simpa using h2]
        exact hgood (by omega)
  refine parts2_ok (tag := tag1) 23 g (st1 []).sep (fun hnone sl tag2 σ2 st2 => ?_) (fun ps hps sl tag2 σ2 st2 r2 => ?_)
  · rw [L_S] at hnone
    refine split tag2 σ2 sl 20 st2 fun hk => ?_
    unfold j6_multi_work_within
    rw [if_neg (by decide), if_pos (by decide)]
    have := hQ tag2 σ2 ((st1 _).trans st2)
    unfold withinE at this
    rw [if_neg hk, hnone] at this; exact this
  · rw [L_S] at hps
    refine split tag2 σ2 sl 0 st2 fun hk => ?_
    have hwe : withinE home o = if ps.head? ≠ some home ∨ (ps.length = 1 ∧ o.kind ≤ 2) then 82 else 0 := by unfold withinE; rw [if_neg hk, hps]
    have fin : ∀ b : Bool, (b = true ↔ (ps.head? ≠ some home ∨ (ps.length = 1 ∧ o.kind ≤ 2))) → j8_multi_work_within B ro Q b σ2 := fun b hb => by
      unfold j8_multi_work_within
      have := hQ tag2 σ2 ((st1 _).trans st2)
      rw [hwe] at this
      cases b with
      | true => rw [if_pos rfl]; rw [if_pos (hb.1 rfl)] at this; exact this
      | false => rw [if_neg (by decide)]; rw [if_neg (fun h => by have := hb.2 h; cases this)] at this; exact this
    have hln : sl.len = ps.length := by rw [r2.len, List.length_map]
    unfold j6_multi_work_within
    rw [if_neg (by decide), if_neg (by decide)]
    by_cases h0 : ps = []
    · subst h0
      rw [if_pos (by rw [hln]; rfl), if_pos trivial]
      exact fin true (by simp)
    · have hpos := List.length_pos_iff.2 h0
      rw [if_neg (by omega)]
      obtain ⟨pp, hpp, _, hget⟩ := Row.sget r2 st2.sep hpos
      have hh : ps.head? = some ps[0] := by rw [List.head?_eq_getElem?, List.getElem?_eq_getElem hpos]
      refine ⟨pp, hpp, by decide, by omega, _, rfl, S ps[0], hget 0 hpos, S home, ?_, ?_⟩
      · obtain ⟨rs, es, a, b, c⟩ := h.mem
        obtain ⟨pw, hpw, hgw⟩ := ((a.keep (st1 []) (by simp)).keep st2 (by simp)).ptr st2.sep (by simp)
        cases hpw
        exact hgw 4 _ rfl
      · by_cases h1 : ps[0] = home
        · rw [if_neg (by rw [h1]; simp)]
          by_cases h2 : ps.length = 1
          · rw [if_pos (by omega)]
            refine ⟨o.kind, kindOf tag2 σ2 st2, fin _ ?_⟩
            rw [hh, h1]
            simp [h2]
          · rw [if_neg (by omega)]
            exact fin false (by rw [hh, h1]; simp [h2])
        · rw [if_pos (by simpa [S_inj] using h1)]
          exact fin true (by rw [hh]; simp [h1])

set_option maxRecDepth 100000 in
theorem do_ok {W T b : Nat} {home : Str} {owner qn qb : Int} {w : Work} {o : MOp} {ds : Sl} {Q : Int → AH → Prop} (g : Glob ro) (h : WorkAt tag σ W T home owner qn qb w.res w.eff) (ht : TreeIs tag σ 12 T w.st) (hi : InvB b w.st) (hb : b ≤ 2147483648)
    (hlen : w.res.length ≤ 1024 ∧ w.eff.length ≤ 1024) (hd : Row tag σ 6 5 ds (o.data.map vU)) (hdl : o.data.length < 4611686018427387904) (hhl : home.length ≤ 4611686018427387903)
    (hbad : (doE home owner qn qb w o).1 ≠ 0 → ∀ tag' σ', StepS DC ro tag σ tag' σ' → Q (doE home owner qn qb w o).1 σ')
    (hok : (doE home owner qn qb w o).1 = 0 → ∀ tag' σ', StepS DC ro tag σ tag' σ' → WorkAt tag' σ' W T home owner qn qb (doE home owner qn qb w o).2.res (doE home owner qn qb w o).2.eff → TreeIs tag' σ' 12 T (doE home owner qn qb w o).2.st → Q 0 σ') :
    c_multi_work_do B ro (some ⟨W, 0, none⟩) o.kind (S o.path) ds o.ver o.eph o.seq σ Q := by
  refine multi_work_do_ok fun hs => ?_
  unfold f_multi_work_do
  refine nw_cells (tag := tag) 16 hs fun x3 tag1 σ1 st1 r1 => ?_
  refine ⟨_, _, _, _, _, _, Row.cellsAt r1 (st1 []).sep, ?_⟩
  have h1 := h.keepS ((st1 []).s (C := []) (by simp)) (by simp) (by simp) (by simp)
  refine within_ok (tag := tag1) g h1 fun tag2 σ2 st2 => ?_
  by_cases hw' : withinE home o ≠ 0
  · rw [if_pos (by simpa using hw')]
    have hde : doE home owner qn qb w o = (withinE home o, w) := by unfold doE; rw [if_pos hw']
    rw [hde] at hbad
    exact hbad hw' tag2 σ2 (((st1 []).s (by simp)).trans (st2.s (by simp)))
  have hw : withinE home o = 0 := by simpa using hw'
  rw [if_neg (by simpa using hw)]
  have r12 := r1.keep st2 (by simp)
  refine nw_cells (tag := tag2) 17 st2.sep fun x6 tag3 σ3 st3 r3 => ?_
  have r13 := r12.keep (st3 []) (by simp)
  obtain ⟨p, hp, hg⟩ := r13.ptr (st3 []).sep (by simp)
  cases hp
  refine ⟨o.kind, hg 0 _ rfl, S o.path, hg 1 _ rfl, ?_⟩
  refine nw_st (tag := tag3) 18 (st3 []).sep rfl (by simp [storable]) fun x8 tag4 σ4 st4 r8 => ?_
  have r14 := r13.keep (st4 []) (by simp)
  have r34 := r3.keep (st4 []) (by simp)
  have stA : StepS DC ro tag σ tag4 σ4 := ((st1 []).s (by simp)).trans ((st2.s (by simp)).trans (((st3 []).s (by simp)).trans ((st4 []).s (by simp))))
  have hW4 := ((h1.keepS (st2.s (C := []) (by simp)) (by simp) (by simp) (by simp)).keepS ((st3 []).s (C := []) (by simp)) (by simp) (by simp) (by simp)).keepS ((st4 []).s (C := []) (by simp)) (by simp) (by simp) (by simp)
  have hT4 := (((ht.keep (st1 []) (by simp)).keep st2 (by simp)).keep (st3 []) (by simp)).keep (st4 []) (by simp)
  obtain ⟨p4, hp4, hg4⟩ := r14.ptr (st4 []).sep (by simp)
  have hd4 := ((((hd.keep (st1 []) (by simp)).keep st2 (by simp)).keep (st3 []) (by simp)).keep (st4 []) (by simp)).read (st4 []).sep
  cases hp4
  generalize hcore : core owner w.st o = c at *
  have hci : InvB (b + 1) c.1 := by rw [← hcore]; exact core_inv hi (by omega)
  -- behind the change: j8
  have fin : ∀ (tag5 : Nat → Nat) (σ5 : AH), StepS DC ro tag σ tag5 σ5 → Row tag5 σ5 16 82 ⟨some ⟨x3, 0, none⟩, 6, 6⟩ [vI o.kind, Pa.vS o.path, Sl.v ds, vI o.ver, .bool o.eph, .bool o.seq] → Row tag5 σ5 17 84 ⟨some ⟨x6, 0, none⟩, 2, 2⟩ (resV (c.2.1, c.2.2.1)) →
      Row tag5 σ5 18 108 ⟨some ⟨x8, 0, none⟩, 2, 2⟩ (effV (o.kind, if o.kind = 1 then c.2.1 else o.path)) → WorkAt tag5 σ5 W T home owner qn qb w.res w.eff → TreeIs tag5 σ5 12 T c.1 → j8_multi_work_do B ro (some ⟨W, 0, none⟩) x3 x6 x8 Q c.2.2.2 σ5 := by
    intro tag5 σ5 st5 h35 h65 h85 hW5 hT5
    unfold j8_multi_work_do
    by_cases he' : c.2.2.2 ≠ 0
    · rw [if_pos (by simpa using he')]
      have hde : doE home owner qn qb w o = (c.2.2.2, { w with st := c.1 }) := by unfold doE; rw [if_neg (by simpa using hw), hcore, if_pos he']
      rw [hde] at hbad
      exact hbad he' tag5 σ5 st5
    have he : c.2.2.2 = 0 := by simpa using he'
    rw [if_neg (by simpa using he)]
    obtain ⟨p5, hp5, hg5⟩ := h35.ptr st5.sep (by simp)
    cases hp5
    have hde : doE home owner qn qb w o = if overE c.1 home qn qb o.kind then (81, { w with st := c.1 }) else (0, ⟨c.1, w.res ++ [(c.2.1, c.2.2.1)], if o.kind = 4 then w.eff else w.eff ++ [(o.kind, if o.kind = 1 then c.2.1 else o.path)]⟩) := by
      unfold doE; rw [if_neg (by simpa using hw), hcore, if_neg (by simpa using he)]
    -- behind the look at the quota: j10
    have app : overE c.1 home qn qb o.kind = false → ∀ (tag6 : Nat → Nat) (σ6 : AH), StepS DC ro tag σ tag6 σ6 → Row tag6 σ6 16 82 ⟨some ⟨x3, 0, none⟩, 6, 6⟩ [vI o.kind, Pa.vS o.path, Sl.v ds, vI o.ver, .bool o.eph, .bool o.seq] → Row tag6 σ6 17 84 ⟨some ⟨x6, 0, none⟩, 2, 2⟩ (resV (c.2.1, c.2.2.1)) →
        Row tag6 σ6 18 108 ⟨some ⟨x8, 0, none⟩, 2, 2⟩ (effV (o.kind, if o.kind = 1 then c.2.1 else o.path)) → WorkAt tag6 σ6 W T home owner qn qb w.res w.eff → TreeIs tag6 σ6 12 T c.1 → j10_multi_work_do B ro (some ⟨W, 0, none⟩) x3 x6 x8 Q σ6 := by
      intro hov tag6 σ6 st6 h36 h66 h86 hW6 hT6
      rw [hov] at hde
      simp only [Bool.false_eq_true, if_false] at hde
      rw [hde] at hok
      simp only at hok
      unfold j10_multi_work_do
      obtain ⟨rs, es, a, bb, cc⟩ := hW6.mem
      obtain ⟨pw, hpw, hgw⟩ := a.ptr st6.sep (by simp)
      cases hpw
      refine ⟨_, rfl, rs, hgw 0 _ rfl, S c.2.1, c.2.2.1, Row.cellsAt h66 st6.sep, ?_⟩
      refine nw_cells (tag := tag6) 0 st6.sep fun y tag7 σ7 st7 r7 => ?_
      refine awp_appendW (l2 := [resV (c.2.1, c.2.2.1)]) (bb.keep (st7 []) (by simp)) (st7 []).sep (Row.readW1 r7 (st7 []).sep rfl (by decide)) (t := 74) (by kernel_rfl) ty84 rfl (by simp [resV, storable]) (by simp; omega) (by decide) fun rs' tag8 σ8 st8 r8 => ?_
      have st8' := st8 [14] (.inr (by simp))
      refine ⟨rs', rfl, ?_⟩
      have a8 := (a.keep (st7 []) (by simp)).keep st8' (by simp)
      have c8 := (cc.keep (st7 []) (by simp)).keep st8' (by simp)
      refine ⟨_, rfl, ?_⟩
      refine a8.st (i := 0) st8'.sep rfl (by simp) rfl fun σ9 st9 r9 => ?_
      have h39 := ((h36.keep (st7 []) (by simp)).keep st8' (by simp)).keep st9 (by simp)
      obtain ⟨p9, hp9, hg9⟩ := h39.ptr st9.sep (by simp)
      cases hp9
      have st69 : StepS DC ro tag6 σ6 tag8 σ9 := ((st7 []).s (by simp)).trans ((st8'.s (by simp)).trans (st9.s (by simp)))
      have hT9 := ((hT6.keep (st7 []) (by simp)).keep st8' (by simp)).keep st9 (by simp)
      refine ⟨o.kind, hg9 0 _ rfl, ?_⟩
      by_cases hk : o.kind = 4
      · rw [if_neg (by simpa using hk)]
        unfold j17_multi_work_do
        refine hok trivial tag8 σ9 (st6.trans st69) ⟨rs', es, r9, ?_, ?_⟩ hT9
        · rw [List.map_append]; exact r8.keep st9 (by simp)
        · rw [if_pos hk]; exact c8.keep st9 (by simp)
      · rw [if_pos (by simpa using hk)]
        obtain ⟨pb, hpb, hgb⟩ := r9.ptr st9.sep (by simp)
        cases hpb
        have h89 := ((h86.keep (st7 []) (by simp)).keep st8' (by simp)).keep st9 (by simp)
        refine ⟨_, rfl, es, hgb 1 _ rfl, o.kind, S (if o.kind = 1 then c.2.1 else o.path), Row.cellsAt h89 st9.sep, ?_⟩
        refine nw_cells (tag := tag8) 0 st9.sep fun z taga σa sta ra => ?_
        refine awp_appendW (l2 := [effV (o.kind, if o.kind = 1 then c.2.1 else o.path)]) ((c8.keep st9 (by simp)).keep (sta []) (by simp)) (sta []).sep (Row.readW1 ra (sta []).sep rfl (by decide)) (t := 75) (by kernel_rfl) ty108 rfl (by simp [effV, storable]) (by simp; omega) (by decide) fun es' tagb σb stb rb => ?_
        have stb' := stb [15] (.inr (by simp))
        refine ⟨es', rfl, _, rfl, ?_⟩
        refine ((r9.keep (sta []) (by simp)).keep stb' (by simp)).st (i := 1) stb'.sep rfl (by simp) rfl fun σc stc rc => ?_
        unfold j17_multi_work_do
        refine hok trivial tagb σc (st6.trans (st69.trans (((sta []).s (by simp)).trans ((stb'.s (by simp)).trans (stc.s (by simp)))))) ⟨rs', es', rc, ?_, ?_⟩ (((hT9.keep (sta []) (by simp)).keep stb' (by simp)).keep stc (by simp))
        · rw [List.map_append]
          exact (((r8.keep st9 (by simp)).keep (sta []) (by simp)).keep stb' (by simp)).keep stc (by simp)
        · rw [if_neg hk, List.map_append]; exact rb.keep stc (by simp)
    -- the look at the quota
    have look : ∀ hk13 : (o.kind = 1 ∨ o.kind = 3), j26_multi_work_do B ro (some ⟨W, 0, none⟩) x3 x6 x8 Q true σ5 := fun hk13 => by
      unfold j26_multi_work_do
      rw [if_pos rfl]
      obtain ⟨rs, es, a, bb, cc⟩ := id hW5.mem
      obtain ⟨pw, hpw, hgw⟩ := a.ptr st5.sep (by simp)
      cases hpw
      refine ⟨_, rfl, _, rfl, some ⟨T, 0, none⟩, hgw 3 _ rfl, S home, hgw 4 _ rfl, ?_⟩
      refine nw_cells (tag := tag5) 22 st5.sep fun y tag6 σ6 st6 r6 => ?_
      obtain ⟨M6, bs6, hA6⟩ := hT5.keep (st6 []) (by simp)
      have hlc := hci.len
      refine usage_ok (q0 := 22) (hs := [home]) g (by decide) (by decide) hA6 hci.inv (by omega) r6 (by decide) (fun x hx => by rw [List.mem_singleton.1 hx]; exact hhl) (by simp) fun tag7 σ7 st7 => ?_
      have hus : usages c.1 [home] = usage c.1 home := by simp [usages]
      rw [hus]
      refine nw_st (tag := tag7) 21 st7.sep rfl (by simp [storable]) fun z tag8 σ8 st8 r8 => ?_
      have st58 : StepS DC ro tag5 σ5 tag8 σ8 := ((st6 []).s (by simp)).trans ((st7.mono (by decide)).trans ((st8 []).s (by simp)))
      have hW8 := ((hW5.keepS ((st6 []).s (C := []) (by simp)) (by simp) (by simp) (by simp)).keepS st7 (by decide) (by decide) (by decide)).keepS ((st8 []).s (C := []) (by simp)) (by simp) (by simp) (by simp)
      have hT8 : TreeIs tag8 σ8 12 T c.1 := ((hT5.keep (st6 []) (by simp)).keepS st7 (by decide) (by decide)).keep (st8 []) (by simp)
      have h38 := ((h35.keep (st6 []) (by simp)).keepS st7 (by decide)).keep (st8 []) (by simp)
      have h68 := ((h65.keep (st6 []) (by simp)).keepS st7 (by decide)).keep (st8 []) (by simp)
      have h88 := ((h85.keep (st6 []) (by simp)).keepS st7 (by decide)).keep (st8 []) (by simp)
      obtain ⟨rs8, es8, a8, _, _⟩ := hW8.mem
      obtain ⟨pw8, hpw8, hgw8⟩ := a8.ptr (st8 []).sep (by simp)
      cases hpw8
      obtain ⟨pz, hpz, hgz⟩ := r8.ptr (st8 []).sep (by simp)
      cases hpz
      have hov : overE c.1 home qn qb o.kind = (decide (qn < ((usage c.1 home).1 : Nat)) || decide (qb < ((usage c.1 home).2 : Nat))) := by
        unfold overE
        rcases hk13 with h | h <;> simp [h]
      have j35 : ∀ bq : Bool, (bq = overE c.1 home qn qb o.kind) → j35_multi_work_do B ro (some ⟨W, 0, none⟩) x3 x6 x8 Q bq σ8 := fun bq hbq => by
        unfold j35_multi_work_do
        cases hbv : bq with
        | true =>
          rw [if_pos rfl]
          rw [hbv] at hbq
          rw [← hbq] at hde
          simp only [if_true] at hde
          rw [hde] at hbad
          exact hbad (by simp) tag8 σ8 (st5.trans st58)
        | false =>
          rw [if_neg (by decide)]
          exact app (by rw [← hbq, hbv]) tag8 σ8 (st5.trans st58) h38 h68 h88 hW8 hT8
      refine ⟨_, rfl, _, hgz 0 _ rfl, _, hgw8 6 _ rfl, ?_⟩
      by_cases hq1 : qn < ((usage c.1 home).1 : Nat)
      · rw [if_pos hq1]
        exact j35 true (by rw [hov]; simp [hq1])
      · rw [if_neg hq1]
        refine ⟨_, rfl, _, hgz 1 _ rfl, qb, hgw8 7 _ rfl, ?_⟩
        exact j35 _ (by rw [hov]; simp [hq1])
    have nolook : ¬ (o.kind = 1 ∨ o.kind = 3) → j26_multi_work_do B ro (some ⟨W, 0, none⟩) x3 x6 x8 Q false σ5 := fun hk => by
      unfold j26_multi_work_do
      rw [if_neg (by decide)]
      refine app ?_ tag5 σ5 st5 h35 h65 h85 hW5 hT5
      unfold overE
      simp only [not_or] at hk
      simp [hk.1, hk.2]
    refine ⟨o.kind, hg5 0 _ rfl, ?_⟩
    by_cases hk1 : o.kind = 1
    · rw [if_pos hk1]; exact look (.inl hk1)
    · rw [if_neg hk1]
      refine ⟨o.kind, hg5 0 _ rfl, ?_⟩
      by_cases hk3 : o.kind = 3
      · rw [show decide (o.kind = 3) = true from by simpa using hk3]; exact look (.inr hk3)
      · rw [show decide (o.kind = 3) = false from by simpa using hk3]; exact nolook (by simp [hk1, hk3])
  obtain ⟨rs4, es4, a4, _, _⟩ := id hW4.mem
  obtain ⟨pw4, hpw4, hgw4⟩ := a4.ptr (st4 []).sep (by simp)
  cases hpw4
  refine ⟨o.kind, hg4 0 _ rfl, ?_⟩
  by_cases k1 : o.kind = 1
  · rw [if_pos k1]
    have hc1 : c = ((create w.st o.path o.data (if o.eph then owner else 0) o.seq).1, (create w.st o.path o.data (if o.eph then owner else 0) o.seq).2.1, 0, (create w.st o.path o.data (if o.eph then owner else 0) o.seq).2.2) := by rw [← hcore]; unfold core; rw [if_pos k1]
    have j45 : j45_multi_work_do B ro (some ⟨W, 0, none⟩) x3 x6 x8 Q (if o.eph then owner else 0) σ4 := by
      unfold j45_multi_work_do
      refine ⟨_, rfl, some ⟨T, 0, none⟩, hgw4 3 _ rfl, _, hg4 1 _ rfl, _, hg4 2 _ rfl, _, hg4 5 _ rfl, ?_⟩
      refine create_ok g (by decide) (by decide) (by decide) hT4 hd4 hdl fun tag5 σ5 st5 hT5 => ?_
      rw [L_S] at hT5 ⊢
      have st5s : StepS DC ro tag4 σ4 tag5 σ5 := st5.s (by simp)
      have r35 := r34.keepC st5 (by decide)
      refine r35.st (i := 0) st5.sep rfl (by simp) rfl fun σ6 st6 r6 => ?_
      obtain ⟨p6, hp6, hg6⟩ := r6.ptr st6.sep (by simp)
      cases hp6
      refine ⟨_, hg6 0 _ rfl, ?_⟩
      refine ((r8.keepC st5 (by decide)).keep st6 (by simp)).st (i := 1) st6.sep rfl (by simp) rfl fun σ7 st7 r7 => ?_
      have hW7 := ((hW4.keepS (st5.s (C := [12]) (by simp)) (by decide) (by decide) (by decide)).keepS (st6.s (C := [17]) (by simp)) (by decide) (by decide) (by decide)).keepS (st7.s (C := [18]) (by simp)) (by decide) (by decide) (by decide)
      have := fin tag5 σ7 (stA.trans (st5s.trans ((st6.s (by simp)).trans (st7.s (by simp))))) (((r14.keepC st5 (by decide)).keep st6 (by simp)).keep st7 (by simp)) (by rw [hc1]; exact r6.keep st7 (by simp)) (by rw [if_pos k1, hc1]; exact r7) hW7 (by rw [hc1]; exact (hT5.keep st6 (by simp)).keep st7 (by simp))
      rw [hc1] at this
      exact this
    refine ⟨o.eph, hg4 4 _ rfl, ?_⟩
    cases he : o.eph with
    | true =>
      rw [if_pos rfl]
      refine ⟨_, rfl, owner, hgw4 5 _ rfl, ?_⟩
      rw [he] at j45; exact j45
    | false =>
      rw [if_neg (by decide)]
      rw [he] at j45; exact j45
  rw [if_neg k1]
  by_cases k2 : o.kind = 2
  · rw [if_pos k2]
    have hc1 : c = ((remove w.st o.path o.ver).1, [], 0, (remove w.st o.path o.ver).2) := by rw [← hcore]; unfold core; rw [if_neg k1, if_pos k2]
    refine ⟨_, rfl, some ⟨T, 0, none⟩, hgw4 3 _ rfl, _, hg4 1 _ rfl, _, hg4 3 _ rfl, ?_⟩
    refine delete_ok g (by decide) (by decide) (by decide) hT4 (by rw [L_S]; exact del_up hi.inv) fun tag5 σ5 st5 hT5 => ?_
    rw [L_S] at hT5 ⊢
    have hW5 := hW4.keepS (st5.s (C := [12]) (by simp)) (by decide) (by decide) (by decide)
    have := fin tag5 σ5 (stA.trans (st5.s (by simp))) (r14.keepC st5 (by decide)) (by rw [hc1]; exact r34.keepC st5 (by decide)) (by rw [if_neg k1]; exact r8.keepC st5 (by decide)) hW5 (by rw [hc1]; exact hT5)
    rw [hc1] at this
    exact this
  rw [if_neg k2]
  by_cases k3 : o.kind = 3
  · rw [if_pos k3]
    have hc1 : c = ((setD w.st o.path o.data o.ver).1, [], (setD w.st o.path o.data o.ver).2.1, (setD w.st o.path o.data o.ver).2.2) := by rw [← hcore]; unfold core; rw [if_neg k1, if_neg k2, if_pos k3]
    refine ⟨_, rfl, some ⟨T, 0, none⟩, hgw4 3 _ rfl, _, hg4 1 _ rfl, _, hg4 2 _ rfl, _, hg4 3 _ rfl, ?_⟩
    refine set_ok g (by decide) (by decide) (by decide) hT4 hd4 hdl fun tag5 σ5 st5 hT5 => ?_
    rw [L_S] at hT5 ⊢
    refine (r34.keepC st5 (by decide)).st (i := 1) st5.sep rfl (by simp) rfl fun σ6 st6 r6 => ?_
    have hW6 := (hW4.keepS (st5.s (C := [12]) (by simp)) (by decide) (by decide) (by decide)).keepS (st6.s (C := [17]) (by simp)) (by decide) (by decide) (by decide)
    have := fin tag5 σ6 (stA.trans ((st5.s (by simp)).trans (st6.s (by simp)))) ((r14.keepC st5 (by decide)).keep st6 (by simp)) (by rw [hc1]; exact r6) (by rw [if_neg k1]; exact (r8.keepC st5 (by decide)).keep st6 (by simp)) hW6 (by rw [hc1]; exact hT5.keep st6 (by simp))
    rw [hc1] at this
    exact this
  rw [if_neg k3]
  have k4 : o.kind = 4 := by
    unfold withinE at hw
    split at hw
    · cases hw
    · omega
  rw [if_pos k4]
  have hc1 : c = (w.st, [], 0, chkE w.st o.path o.ver) := by rw [← hcore]; unfold core; rw [if_neg k1, if_neg k2, if_neg k3]
  have hps : ∃ ps, parts o.path = some ps := by
    unfold withinE at hw
    split at hw
    · cases hw
    · cases e : parts o.path with
      | none => rw [e] at hw; cases hw
      | some ps => exact ⟨ps, rfl⟩
  obtain ⟨ps, hps⟩ := hps
  refine nw_cells (tag := tag4) 19 (st4 []).sep fun x10 tag5 σ5 st5 r5 => ?_
  have hT5 := hT4.keep (st5 []) (by simp)
  have hW5 := hW4.keepS ((st5 []).s (C := []) (by simp)) (by simp) (by simp) (by simp)
  have r145 := r14.keep (st5 []) (by simp)
  obtain ⟨rs5, es5, a5, _, _⟩ := id hW5.mem
  obtain ⟨pw5, hpw5, hgw5⟩ := a5.ptr (st5 []).sep (by simp)
  cases hpw5
  obtain ⟨p5, hp5, hg5⟩ := r145.ptr (st5 []).sep (by simp)
  cases hp5
  refine ⟨_, rfl, some ⟨T, 0, none⟩, hgw5 3 _ rfl, _, hg5 1 _ rfl, ?_⟩
  obtain ⟨M5, bs5, hA5⟩ := hT5
  have endz : ∀ (tag6 : Nat → Nat) (σ6 : AH) (e : Int), StepC 0 ro tag5 σ5 tag6 σ6 → ∀ v1 v2 v3 v4 : Int, (e = 0 → (∃ n, w.st.lookup o.path = some n ∧ v1 = n.ver)) → (e ≠ 0 → chkE w.st o.path o.ver = e) →
      stN ⟨x10, 0, none⟩ (fun σ =>
        if e = 0 then
         ∃ (x97_83 : Int), acell ro σ ((⟨x3, 0, none⟩ : Addr).add 3) = some (.int .i64 x97_83) ∧
         j77_multi_work_do B ro (some ⟨W, 0, none⟩) x3 x6 x8 x10 e Q (!(decide (x97_83 = (-1)))) σ
        else
        j77_multi_work_do B ro (some ⟨W, 0, none⟩) x3 x6 x8 x10 e Q false σ) [.int .i64 v1, .int .i64 v2, .int .i64 v3, .int .i64 v4] 0 σ6 := by
    intro tag6 σ6 e st6 v1 v2 v3 v4 he0 hen
    refine (r5.keepC st6 (by decide)).stAll st6.sep (by simp) (by simp [storable]) fun σ7 st7 r7 => ?_
    have st57 : StepS DC ro tag4 σ4 tag6 σ7 := ((st5 []).s (by simp)).trans ((st6.s (by simp)).trans (st7.s (by simp)))
    have r147 := (r145.keepC st6 (by decide)).keep st7 (by simp)
    have hW7 := (hW5.keepS (st6.s (C := [0]) (by simp)) (by decide) (by decide) (by decide)).keepS (st7.s (C := [19]) (by simp)) (by decide) (by decide) (by decide)
    have hT7 : TreeIs tag6 σ7 12 T w.st := ⟨M5, bs5, (hA5.keepC st6 (by decide) (by decide)).keep st7 (by simp)⟩
    obtain ⟨p7, hp7, hg7⟩ := r147.ptr st7.sep (by simp)
    cases hp7
    obtain ⟨pa, hpa, hga⟩ := r7.ptr st7.sep (by simp)
    cases hpa
    have f8 : chkE w.st o.path o.ver = c.2.2.2 := by rw [hc1]
    have goal : ∀ e', e' = chkE w.st o.path o.ver → j8_multi_work_do B ro (some ⟨W, 0, none⟩) x3 x6 x8 Q e' σ7 := fun e' he' => by
      rw [he', f8]
      exact fin tag6 σ7 (stA.trans st57) r147 (by rw [hc1]; exact ((r34.keep (st5 []) (by simp)).keepC st6 (by decide)).keep st7 (by simp)) (by rw [if_neg k1]; exact ((r8.keep (st5 []) (by simp)).keepC st6 (by decide)).keep st7 (by simp)) hW7 (by rw [hc1]; exact hT7)
    by_cases hz : e = 0
    · rw [if_pos hz]
      obtain ⟨n, hn, hv1⟩ := he0 hz
      have hchk : chkE w.st o.path o.ver = if o.ver ≠ -1 ∧ o.ver ≠ n.ver then 72 else 0 := by unfold chkE; rw [hn]
      refine ⟨o.ver, hg7 3 _ rfl, ?_⟩
      unfold j77_multi_work_do
      by_cases hm : o.ver = -1
      · rw [show (!decide (o.ver = -1)) = false from by simp [hm], if_neg (by decide)]
        unfold j79_multi_work_do
        rw [if_neg (by decide)]
        exact goal e (by rw [hchk, if_neg (by simp [hm]), hz])
      · rw [show (!decide (o.ver = -1)) = true from by simp [hm], if_pos rfl]
        refine ⟨o.ver, hg7 3 _ rfl, v1, hga 0 _ rfl, ?_⟩
        unfold j79_multi_work_do
        by_cases hv : o.ver = v1
        · rw [show (!decide (o.ver = v1)) = false from by simp [hv], if_neg (by decide)]
          exact goal e (by rw [hchk, if_neg (by rw [← hv1]; simp [hv]), hz])
        · rw [show (!decide (o.ver = v1)) = true from by simp [hv], if_pos rfl]
          exact goal 72 (by rw [hchk, if_pos ⟨hm, by rw [← hv1]; exact hv⟩])
    · rw [if_neg hz]
      unfold j77_multi_work_do
      rw [if_neg (by decide)]
      unfold j79_multi_work_do
      rw [if_neg (by decide)]
      exact goal e (hen hz).symm
  refine get_ok g (by decide) (by decide) (by decide) hA5 (fun p n h => hi.inv.data p n h) (fun hb => by rw [L_S, hps] at hb; cases hb) (fun _ _ hmiss tag6 σ6 st6 => ?_) (fun n hn s tag6 σ6 st6 hr6 => ?_)
  · rw [L_S] at hmiss
    exact endz tag6 σ6 70 st6 0 0 0 0 (fun h => by cases h) (fun _ => by unfold chkE; rw [hmiss])
  · rw [L_S] at hn
    exact endz tag6 σ6 0 st6 n.ver n.ctr n.own n.kids (fun _ => ⟨n, hn, rfl⟩) (fun h => absurd rfl h)
end Go.Proofs.YthfpmipeejjogaaGreatDoor.Zt

/- Several changes as one: the pure part, and the roles of a copy that takes the place of a tree. -/
namespace Go.Proofs.YthfpmipeejjogaaGreatDoor.Zt
open Go Go.Proofs.YthfpmipeejjogaaGreatDoor.SL Go.Proofs.YthfpmipeejjogaaGreatDoor.G Go.Proofs.YthfpmipeejjogaaGreatDoor.Pa
set_option linter.unusedSimpArgs false
set_option linter.unusedVariables false
variable {B : World} {ro σ σ' : AH} {tag tag' : Nat → Nat}

/-- the changes one behind the other: the place of the bad one and its error, or what is done -/
def applyL (home : Str) (owner qn qb : Int) : List MOp → Nat → Work → (Nat × Int) ⊕ Work
  | [], _, w => .inr w
  | o :: os, i, w => if (doE home owner qn qb w o).1 ≠ 0 then .inl (i, (doE home owner qn qb w o).1) else applyL home owner qn qb os (i + 1) (doE home owner qn qb w o).2
structure Done where
  st : St
  res : List (Str × Int)
  eff : List (Int × Str)
  bad : Int
  err : Int
def doneOf (st : St) : (Nat × Int) ⊕ Work → Done
  | .inl (i, e) => ⟨st, [], [], i, e⟩
  | .inr w => ⟨w.st, w.res, w.eff, -1, 0⟩
def applyE (st : St) (home : Str) (owner qn qb : Int) (ops : List MOp) : Done :=
  if ops.length = 0 ∨ 16 < ops.length then ⟨st, [], [], 0, 80⟩
  else if owner < 1 ∨ 4611686018427387903 < owner then ⟨st, [], [], 0, 10⟩
  else doneOf st (applyL home owner qn qb ops 0 ⟨srt st, [], []⟩)
theorem applyL_inv {home : Str} {owner qn qb : Int} : ∀ {os : List MOp} {i b : Nat} {w w' : Work}, applyL home owner qn qb os i w = .inr w' → InvB b w.st → b + os.length ≤ 4398046511103 → InvB (b + os.length) w'.st := by
  intro os
  induction os with
  | nil => intro i b w w' h hi _; cases h; exact hi
  | cons o os ih =>
    intro i b w w' h hi hb
    simp only [List.length_cons] at hb ⊢
    unfold applyL at h
    split at h
    · cases h
    · have := ih h (doE_inv hi (by omega)) (by omega)
      rw [show b + (os.length + 1) = b + 1 + os.length by omega]; exact this
theorem invB_srt {b : Nat} {st : St} (h : InvB b st) : InvB b (srt st) := by
  have hp := (srt_perm st).symm
  have hl := lookup_perm hp h.inv.keys
  exact ⟨inv_perm hp h.inv, fun k n hk => h.ver k n (by rw [hl]; exact hk), fun k n hk => h.own k n (by rw [hl]; exact hk), fun n hk => h.rt n (by rw [hl]; exact hk), by rw [(srt_perm st).length_eq]; exact h.len⟩
theorem applyE_inv {b : Nat} {st : St} {home : Str} {owner qn qb : Int} {ops : List MOp} (h : InvB b st) (hb : b ≤ 4398046511000) : InvB (b + 16) (applyE st home owner qn qb ops).st := by
  unfold applyE
  split
  · exact h.mono (by omega)
  · rename_i hl
    split
    · exact h.mono (by omega)
    · cases e : applyL home owner qn qb ops 0 ⟨srt st, [], []⟩ with
      | inl x => exact h.mono (by omega)
      | inr w => exact (applyL_inv e (invB_srt h) (by omega)).mono (by omega)

/-! other roles for the same blocks -/
theorem Row.retag {tg : Nat → Nat} {r r' : Nat} {e : TypeId} {s : Sl} {l : List Value} (h : Row tag σ r e s l) (hr : ∀ c, tag c = r → σ c ≠ none → tg c = r') : Row tg σ r' e s l := by
  rcases h with h | ⟨b, cs, ha, ht, hb, hx⟩
  · exact .inl h
  · exact .inr ⟨b, cs, ha, hr b ht (by rw [hb]; simp), hb, hx⟩
theorem RowW.retag {tg : Nat → Nat} {r r' : Nat} {e : TypeId} {w : Nat} {s : Sl} {l : List (List Value)} (h : RowW tag σ r e w s l) (hr : ∀ c, tag c = r → σ c ≠ none → tg c = r') : RowW tg σ r' e w s l := by
  rcases h with h | ⟨b, cs, ha, ht, hb, hx⟩
  · exact .inl h
  · exact .inr ⟨b, cs, ha, hr b ht (by rw [hb]; simp), hb, hx⟩
theorem MapIs.retag {tg : Nat → Nat} {r r' b : Nat} {m : KV} (h : MapIs tag σ r b m) (hr : ∀ c, tag c = r → σ c ≠ none → tg c = r') : MapIs tg σ r' b m := by
  obtain ⟨es, k, hb, hx⟩ := h.obj
  exact ⟨hr b h.tg (by rw [hb]; simp), es, k, hb, hx⟩
theorem TreeIs.retag {tg : Nat → Nat} {r T : Nat} {st : St} (h : TreeIs tag σ r T st) (hr : ∀ c, tag c % 64 = r % 64 ∨ tag c = 6 → σ c ≠ none → tg c = tag c) : TreeIs tg σ r T st := by
  obtain ⟨M, bs, h⟩ := h
  refine ⟨M, bs, h.keys, h.len, h.nd, Row.retag h.cell fun c hc hn => ?_, MapIs.retag h.map fun c hc hn => ?_, fun i b p hb hp => ?_⟩
  · rw [hr c (.inl (by rw [hc])) hn, hc]
  · rw [hr c (.inl (by rw [hc]; omega)) hn, hc]
  · obtain ⟨s, h1, h2⟩ := h.nodes i b p hb hp
    exact ⟨s, Row.retag h1 fun c hc hn => by rw [hr c (.inl (by rw [hc]; omega)) hn, hc], Row.retag h2 fun c hc hn => by rw [hr c (.inr hc) hn, hc]⟩
end Go.Proofs.YthfpmipeejjogaaGreatDoor.Zt

/- Several changes as one, the walk: Apply. -/
namespace Go.Proofs.YthfpmipeejjogaaGreatDoor.Zt
open Go Go.Proofs.YthfpmipeejjogaaGreatDoor.SL Go.Proofs.YthfpmipeejjogaaGreatDoor.G Go.Proofs.YthfpmipeejjogaaGreatDoor.Pa
set_option linter.unusedSimpArgs false
set_option linter.unusedVariables false
variable {B : World} {ro σ σ' : AH} {tag tag' : Nat → Nat}

def opV (o : MOp) (d : Sl) : List Value := [vI o.kind, Pa.vS o.path, Sl.v d, vI o.ver, .bool o.eph, .bool o.seq]
/-- ops in memory: a row of the role q, the bytes of each in rows of data -/
def OpsAt (tag : Nat → Nat) (σ : AH) (q : Nat) (s : Sl) (ops : List MOp) : Prop :=
  ∃ ds : List Sl, ds.length = ops.length ∧ RowW tag σ q 82 6 s (List.zipWith opV ops ds) ∧ ∀ (i : Nat) (o : MOp) (d : Sl), ops[i]? = some o → ds[i]? = some d → Row tag σ 6 5 d (o.data.map vU)
theorem OpsAt.keepS {C : List Nat} {q : Nat} {s : Sl} {ops : List MOp} (h : OpsAt tag σ q s ops) (k : StepS C ro tag σ tag' σ') (hq : q % 64 ∉ C) (h6 : 6 ∉ C) : OpsAt tag' σ' q s ops := by
  obtain ⟨ds, h1, h2, h3⟩ := h
  exact ⟨ds, h1, RowW.keepS h2 k hq, fun i o d ho hd => (h3 i o d ho hd).keepS k h6⟩
theorem OpsAt.len {q : Nat} {s : Sl} {ops : List MOp} (h : OpsAt tag σ q s ops) : s.len = ops.length := by
  obtain ⟨ds, h1, h2, h3⟩ := h
  rw [h2.len, List.length_zipWith, h1, Nat.min_self]
theorem OpsAt.retag {tg : Nat → Nat} {q : Nat} {s : Sl} {ops : List MOp} (h : OpsAt tag σ q s ops) (hr : ∀ c, tag c = q ∨ tag c = 6 → σ c ≠ none → tg c = tag c) : OpsAt tg σ q s ops := by
  obtain ⟨ds, h1, h2, h3⟩ := h
  exact ⟨ds, h1, RowW.retag h2 fun c hc hn => by rw [hr c (.inl hc) hn, hc], fun i o d ho hd => Row.retag (h3 i o d ho hd) fun c hc hn => by rw [hr c (.inr hc) hn, hc]⟩
/-- the classes of roles that Apply touches, beside the tree's own -/
abbrev DA : List Nat := [0, 1, 2, 3, 4, 5, 12, 13, 14, 15, 17, 18, 19, 20, 21, 25, 26, 27, 30, 31]
theorem dc_da : ∀ c ∈ DC, c ∈ DA := by decide
theorem stA_cells {r : Nat} {e : TypeId} {b n c : Nat} {l vs : List Value} {K : AH → Prop} (h : Row tag σ r e ⟨some ⟨b, 0, none⟩, n, c⟩ l) (hs : SL.Sep ro σ) (hl : vs.length = l.length) (hv : ∀ v ∈ vs, storable v = true)
    (hK : ∀ σ', Step [r] ro tag σ tag σ' → Row tag σ' r e ⟨some ⟨b, 0, none⟩, n, c⟩ vs → SL.cellsAt ro σ' ⟨b, 0, none⟩ 0 vs → K σ') : stN ⟨b, 0, none⟩ K vs 0 σ :=
  h.stAll hs hl hv fun σ' st r' => hK σ' st r' (Row.cellsAt r' st.sep)

set_option maxRecDepth 100000 in
set_option maxHeartbeats 1000000 in
theorem apply_ok {r T b q : Nat} {st : St} {home : Str} {owner qn qb : Int} {ops : List MOp} {s : Sl} {Q : Sl → Sl → Int → Int → AH → Prop} (g : Glob ro) (hr : r < 64) (hrD : r ∉ DA) (hr6 : r ≠ 6) (hr63 : r ≠ 63) (hq : q % 64 ∉ DA) (hq63 : q ≠ 63) (hT : TreeIs tag σ r T st) (hi : InvB b st) (hb : b ≤ 1073741824)
    (hops : OpsAt tag σ q s ops) (hdl : ∀ o ∈ ops, o.data.length < 4611686018427387904) (hhl : home.length ≤ 4611686018427387903)
    (hQ : ∀ (rs es : Sl) (tag' : Nat → Nat) (σ' : AH), StepS (r :: DA) ro tag σ tag' σ' → TreeIs tag' σ' r T (applyE st home owner qn qb ops).st → RowW tag' σ' 14 84 2 rs ((applyE st home owner qn qb ops).res.map resV) → RowW tag' σ' 15 108 2 es ((applyE st home owner qn qb ops).eff.map effV) →
      Q rs es (applyE st home owner qn qb ops).bad (applyE st home owner qn qb ops).err σ') :
    c_multi_Apply B ro (some ⟨T, 0, none⟩) (S home) owner qn qb s σ Q := by
  refine multi_Apply_ok fun hs => ?_
  unfold f_multi_Apply
  have hsl := hops.len
  -- roles of the start: nothing is of the copy's class
  let tag0 : Nat → Nat := fun c => if σ c ≠ none ∧ tag c % 64 = 12 then 63 else tag c
  have t0 : ∀ c, tag c % 64 ≠ 12 → tag0 c = tag c := fun c h => by simp only [tag0]; rw [if_neg (fun h' => h h'.2)]
  have hT0 : TreeIs tag0 σ r T st := hT.retag fun c hc _ => t0 c (by
    rcases hc with h | h
    · intro h'; simp only [List.mem_cons, not_or] at hrD; omega
    · omega)
  have hops0 : OpsAt tag0 σ q s ops := hops.retag fun c hc _ => t0 c (by
    rcases hc with h | h
    · intro h'; simp only [List.mem_cons, not_or] at hq; rw [h] at h'; omega
    · omega)
  have old12 : ∀ c, σ c ≠ none → tag0 c % 64 ≠ 12 := fun c hc h => by
    simp only [tag0] at h
    split at h
    · simp at h
    · rename_i hn; exact hn ⟨hc, h⟩
  -- the end: roles for what lies there
  have conv : ∀ (tagE : Nat → Nat) (σE : AH), StepS (r :: DA) ro tag0 σ tagE σE → ∀ tagF : Nat → Nat, (∀ c, tagF c = if σ c ≠ none then tag c else if tagE c % 64 = 12 then tagE c - 12 + r else tagE c) →
      StepS (r :: DA) ro tag σ tagF σE ∧ (∀ c, σE c ≠ none → tagE c % 64 ≠ 12 → tagE c ≠ 63 → tagF c = tagE c) ∧ (∀ c, tagE c % 64 = 12 → tagF c = tagE c - 12 + r) := fun tagE σE stE tagF hF => by
    obtain ⟨R, hR, stR⟩ := stE
    have holdE : ∀ c, σ c ≠ none → tagE c = tag0 c := fun c hc => by
      cases h : σ c with
      | none => exact absurd h hc
      | some o => exact (stR.old c o h).1
    refine ⟨⟨R, hR, ⟨fun c o hc hn => ?_, fun c o hc => ?_, stR.sep⟩⟩, fun c hcE h12 h63 => ?_, fun c h12 => ?_⟩
    · have hne : σ c ≠ none := by rw [hc]; simp
      refine ⟨by rw [hF, if_pos hne], ?_⟩
      by_cases h : tag c % 64 = 12
      · have e : tag0 c = 63 := by simp only [tag0]; rw [if_pos ⟨hne, h⟩]
        refine (stR.keep c o hc ?_).2
        rw [e]
        intro hm
        have := hR 63 hm
        simp only [List.mem_cons, not_or] at this
        rcases this with h | h
        · omega
        · revert h; decide
      · exact (stR.keep c o hc (by rw [t0 c h]; exact hn)).2
    · have hne : σ c ≠ none := by rw [hc]; simp
      exact ⟨by rw [hF, if_pos hne], (stR.old c o hc).2⟩
    · by_cases hne : σ c ≠ none
      · rw [hF, if_pos hne]
        have e := holdE c hne
        by_cases h : tag c % 64 = 12
        · have e2 : tag0 c = 63 := by simp only [tag0]; rw [if_pos ⟨hne, h⟩]
          exact absurd (e.trans e2) h63
        · rw [e, t0 c h]
      · rw [hF, if_neg hne, if_neg h12]
    · have hne : ¬ σ c ≠ none := fun hne => old12 c hne (by rw [← holdE c hne]; exact h12)
      rw [hF, if_neg hne, if_pos h12]
  -- what is answered at once
  have quick : ∀ (e bad : Int) (tag1 : Nat → Nat) (σ1 : AH) (x10 : Nat), applyE st home owner qn qb ops = ⟨st, [], [], bad, e⟩ → StepS (r :: DA) ro tag0 σ tag1 σ1 → TreeIs tag1 σ1 r T st → Row tag1 σ1 26 77 ⟨some ⟨x10, 0, none⟩, 3, 3⟩ [Sl.v ⟨none, 0, 0⟩, Sl.v ⟨none, 0, 0⟩, vI 0] →
      stN ⟨x10, 0, none⟩ (fun σ => ∃ (x10_3a : Sl) (x10_3b : Sl) (x10_3c : Int), SL.cellsAt ro σ ⟨x10, 0, none⟩ 0 [Sl.v x10_3a, Sl.v x10_3b, .int .i64 x10_3c] ∧ Q x10_3a x10_3b x10_3c e σ) [Sl.v (⟨none, 0, 0⟩ : Sl), Sl.v (⟨none, 0, 0⟩ : Sl), .int .i64 bad] 0 σ1 := by
    intro e bad tag1 σ1 x10 hE st1 hT1 r1
    refine stA_cells r1 st1.sep (by simp) (by simp [storable, Sl.v]) fun σ2 st2 r2 c2 => ?_
    refine ⟨⟨none, 0, 0⟩, ⟨none, 0, 0⟩, bad, c2, ?_⟩
    obtain ⟨k1, k2, _⟩ := conv tag1 σ2 (st1.trans (st2.s (by simp))) _ fun c => rfl
    rw [hE] at hQ
    refine hQ ⟨none, 0, 0⟩ ⟨none, 0, 0⟩ _ σ2 k1 ?_ (RowW.nil _ _ _) (RowW.nil _ _ _)
    refine (hT1.keep st2 (by simp only [List.mem_cons, not_or] at hrD; simp; omega)).retag fun c hc hn => ?_
    refine k2 c hn ?_ ?_
    · simp only [List.mem_cons, not_or] at hrD
      rcases hc with h | h <;> omega
    · rcases hc with h | h
      · intro h'; rw [h'] at h; omega
      · omega
  refine nw_cells (tag := tag0) 25 hs fun x8 tag1 σ1 st1 r1 => ?_
  refine nw_cells (tag := tag1) 26 (st1 []).sep fun x10 tag2 σ2 st2 r2 => ?_
  have st02 : StepS (r :: DA) ro tag0 σ tag2 σ2 := ((st1 []).s (by simp)).trans ((st2 []).s (by simp))
  have hT2 := (hT0.keep (st1 []) (by simp)).keep (st2 []) (by simp)
  have hops2 := (hops0.keepS ((st1 []).s (C := []) (by simp)) (by simp) (by simp)).keepS ((st2 []).s (C := []) (by simp)) (by simp) (by simp)
  by_cases c1 : ops.length = 0 ∨ 16 < ops.length
  · rw [if_pos (by omega)]
    exact quick 80 0 tag2 σ2 x10 (by unfold applyE; rw [if_pos c1]) st02 hT2 r2
  rw [if_neg (by omega)]
  by_cases c2 : owner < 1 ∨ 4611686018427387903 < owner
  · rw [if_pos c2]
    exact quick 10 0 tag2 σ2 x10 (by unfold applyE; rw [if_neg c1, if_pos c2]) st02 hT2 r2
  rw [if_neg c2]
  obtain ⟨R0, hR0⟩ : ∃ R0, applyL home owner qn qb ops 0 ⟨srt st, [], []⟩ = R0 := ⟨_, rfl⟩
  have hAE : applyE st home owner qn qb ops = doneOf st R0 := by unfold applyE; rw [if_neg c1, if_neg c2, hR0]
  have hrD' := hrD
  simp only [List.mem_cons, List.not_mem_nil, or_false, not_or] at hrD'
  have hlen := hi.len
  obtain ⟨M2, bs2, hA2⟩ := hT2
  refine encode_ok hr (by omega) (by omega) (by omega) (by omega) hA2 hi.inv.small (by omega) fun se tag3 σ3 st3 r3 => ?_
  have hRr : ∀ x ∈ [30, 94, 1], x % 64 ≠ r % 64 ∧ x ≠ 6 := fun x hx => by
    simp only [List.mem_cons, List.not_mem_nil, or_false] at hx; omega
  have hT3 : TreeIs tag3 σ3 r T st := ⟨M2, bs2, hA2.keep st3 hRr⟩
  have hel := encS_len hi (by omega)
  have hdec := dec_encS (hi.inv3 (by omega)) (by omega)
  refine decode_ok (tag := tag3) (r := 12) g (by decide) (by decide) (by decide) (by decide) (r3.read st3.sep) (by omega) (fun hn => by rw [hdec] at hn; cases hn) fun st' hst' U tag4 σ4 st4 h4 => ?_
  rw [hdec] at hst'
  obtain rfl := Option.some.inj hst'
  have st3s : StepS (r :: DA) ro tag2 σ2 tag3 σ3 := st3.s (by simp)
  have st4s : StepS (r :: DA) ro tag3 σ3 tag4 σ4 := st4.mono (by simp)
  have hT4 := hT3.keepS st4 (by simp; omega) (by decide)
  have hops4 := (hops2.keepS (st3.s (C := [30, 1]) (by decide)) (by simp only [List.mem_cons, not_or] at hq ⊢; simp; omega) (by decide)).keepS st4 (by simp only [List.mem_cons, not_or] at hq ⊢; simp; omega) (by decide)
  have r84 := ((r1.keep (st2 []) (by simp)).keep st3 (by decide)).keepS st4 (by decide)
  have r104 := (r2.keep st3 (by decide)).keepS st4 (by decide)
  refine ⟨qn, qb, Row.cellsAt r84 st4.sep, ?_⟩
  refine nw_cells (tag := tag4) 13 st4.sep fun W tag5 σ5 st5 r5 => ?_
  have hW5 : WorkAt tag5 σ5 W U home owner qn qb [] [] := ⟨⟨none, 0, 0⟩, ⟨none, 0, 0⟩, r5, RowW.nil _ _ _, RowW.nil _ _ _⟩
  suffices ∀ (m j : Nat) (w : Work) (tag6 : Nat → Nat) (σ6 : AH), j + m = ops.length → applyL home owner qn qb (ops.drop j) j w = R0 → InvB (b + j) w.st → w.res.length ≤ j ∧ w.eff.length ≤ j → StepS (r :: DA) ro tag0 σ tag6 σ6 → WorkAt tag6 σ6 W U home owner qn qb w.res w.eff → TreeIs tag6 σ6 12 U w.st → TreeIs tag6 σ6 r T st → OpsAt tag6 σ6 q s ops →
      Row tag6 σ6 26 77 ⟨some ⟨x10, 0, none⟩, 3, 3⟩ [Sl.v ⟨none, 0, 0⟩, Sl.v ⟨none, 0, 0⟩, vI 0] → lfpD (l16_multi_Apply B ro (some ⟨T, 0, none⟩) s x10 (some ⟨U, 0, none⟩) W Q) (j : Int) σ6 from
    this _ 0 ⟨srt st, [], []⟩ tag5 σ5 (Nat.zero_add _) hR0 (invB_srt hi) ⟨by simp, by simp⟩ (st02.trans (st3s.trans (st4s.trans ((st5 []).s (by simp))))) hW5 (h4.keep (st5 []) (by simp)) (hT4.keep (st5 []) (by simp)) (hops4.keepS ((st5 []).s (C := []) (by simp)) (by simp) (by simp)) (r104.keep (st5 []) (by simp))
  intro m
  induction m with
  | zero =>
    intro j w tag6 σ6 hj hap hi6 hl6 st6 hW6 hU6 hT6 hops6 r106
    refine lfpD.intro ?_
    unfold l16_multi_Apply
    rw [if_neg (by omega)]
    rw [List.drop_of_length_le (by omega)] at hap
    have hAE' : applyE st home owner qn qb ops = ⟨w.st, w.res, w.eff, -1, 0⟩ := by rw [hAE, ← hap]; rfl
    unfold j10_multi_Apply
    obtain ⟨M6, bs6, hA6⟩ := hT6
    obtain ⟨MU, bsU, hAU⟩ := hU6
    refine ⟨_, rfl, some MU, Row.cellsAt hAU.cell st6.sep, _, rfl, ?_⟩
    refine stA_cells hA6.cell st6.sep (by simp) (by simp [storable]) fun σ7 st7 r7 _ => ?_
    obtain ⟨rs, es, a, bb, cc⟩ := hW6.mem
    have hr13 : ∀ x : Nat, x ∈ DA → x ∉ [r] := fun x hx h => by
      rw [List.mem_singleton] at h; rw [h] at hx; exact hrD hx
    refine (a.keep st7 (hr13 13 (by decide))).st (i := 2) st7.sep rfl (by simp) rfl fun σ8 st8 r8 => ?_
    obtain ⟨pw, hpw, hgw⟩ := r8.ptr st8.sep (by simp)
    cases hpw
    refine ⟨rs, es, -1, cellsAt_of 0 fun i v hv => ?_, ?_⟩
    · rw [Nat.zero_add]
      rcases i with _ | _ | _ | i
      · cases hv; exact hgw 0 _ rfl
      · cases hv; exact hgw 1 _ rfl
      · cases hv; exact hgw 2 _ rfl
      · cases hv
    have r108 := (r106.keep st7 (hr13 26 (by decide))).keep st8 (by simp)
    refine stA_cells r108 st8.sep (by simp) (by simp [storable, Sl.v]) fun σ9 st9 r9 c9 => ?_
    refine ⟨rs, es, -1, c9, ?_⟩
    have st69 : StepS (r :: DA) ro tag0 σ tag6 σ9 := st6.trans ((st7.s (by simp; omega)).trans ((st8.s (by simp)).trans (st9.s (by simp))))
    obtain ⟨k1, k2, k3⟩ := conv tag6 σ9 st69 _ fun c => rfl
    rw [hAE'] at hQ
    refine hQ rs es _ σ9 k1 ?_ ?_ ?_
    · -- the tree that has taken the place
      have u7 := hAU.keep st7 (by simp; omega)
      have u8 := u7.keep st8 (by simp)
      have u9 := u8.keep st9 (by simp)
      have c79 := (r7.keep st8 (by simp; omega)).keep st9 (by simp; omega)
      refine ⟨MU, bsU, u9.keys, u9.len, u9.nd, Row.retag c79 fun c hc hn => ?_, MapIs.retag u9.map fun c hc hn => ?_, fun i c p hc hp => ?_⟩
      · rw [k2 c hn (by rw [hc]; omega) (by omega), hc]
      · rw [k3 c (by rw [hc]), hc]; omega
      · obtain ⟨ds, n1, n2⟩ := u9.nodes i c p hc hp
        refine ⟨ds, Row.retag n1 fun c' hc' hn => ?_, Row.retag n2 fun c' hc' hn => ?_⟩
        · rw [k3 c' (by rw [hc'] <;> omega), hc'] <;> omega
        · rw [k2 c' hn (by rw [hc']; decide) (by omega), hc']
    · have := ((bb.keep st7 (hr13 14 (by decide))).keep st8 (by simp)).keep st9 (by simp)
      exact RowW.retag this fun c hc hn => by rw [k2 c hn (by rw [hc]; decide) (by omega), hc]
    · have := ((cc.keep st7 (hr13 15 (by decide))).keep st8 (by simp)).keep st9 (by simp)
      exact RowW.retag this fun c hc hn => by rw [k2 c hn (by rw [hc]; decide) (by omega), hc]
  | succ m ih =>
    intro j w tag6 σ6 hj hap hi6 hl6 st6 hW6 hU6 hT6 hops6 r106
    have hjl : j < ops.length := by omega
    obtain ⟨ds, d1, d2, d3⟩ := id hops6
    have hjd : j < ds.length := by omega
    have hz : (List.zipWith opV ops ds)[j]? = some (opV ops[j] ds[j]) := by
      rw [List.getElem?_zipWith, List.getElem?_eq_getElem hjl, List.getElem?_eq_getElem hjd]; try rfl
    have hdj := d3 j ops[j] ds[j] (List.getElem?_eq_getElem hjl) (List.getElem?_eq_getElem hjd)
    have hdlj := hdl _ (List.getElem_mem hjl)
    obtain ⟨bq, hbq, _, hget⟩ := d2.get st6.sep hz
    have hdrop : ops.drop j = ops[j] :: ops.drop (j + 1) := List.drop_eq_getElem_cons hjl
    refine lfpD.intro ?_
    unfold l16_multi_Apply
    rw [if_pos (by omega)]
    refine ⟨_, hbq, by omega, by omega, ops[j].kind, S ops[j].path, ds[j], ops[j].ver, ops[j].eph, ops[j].seq, cellsAt_of 0 fun i v hv => ?_, ?_⟩
    · rw [Int.toNat_natCast, add_add, add_add, Nat.zero_add, Nat.zero_add]
      exact hget i v hv
    refine nw_st (tag := tag6) 27 st6.sep rfl (by simp [storable, Sl.v]) fun x16 tag7 σ7 st7 r7 => ?_
    refine ⟨ops[j].kind, S ops[j].path, ds[j], ops[j].ver, ops[j].eph, ops[j].seq, Row.cellsAt r7 (st7 []).sep, ?_⟩
    have k7 : ∀ C : List Nat, StepS C ro tag6 σ6 tag7 σ7 := fun C => (st7 []).s (by simp)
    have hq' := hq
    simp only [List.mem_cons, List.not_mem_nil, or_false, not_or] at hq'
    rw [hdrop] at hap
    unfold applyL at hap
    refine do_ok (tag := tag7) (b := b + j) (w := w) g (hW6.keepS (k7 []) (by simp) (by simp) (by simp)) (hU6.keep (st7 []) (by simp)) hi6 (by omega) ⟨by omega, by omega⟩ (hdj.keep (st7 []) (by simp)) hdlj hhl (fun he tag8 σ8 st8 => ?_) fun he tag8 σ8 st8 hW8 hU8 => ?_
    · rw [if_pos (by simpa using he)]
      rw [if_pos he] at hap
      have hAE' : applyE st home owner qn qb ops = ⟨st, [], [], (j : Nat), (doE home owner qn qb w ops[j]).1⟩ := by rw [hAE, ← hap]; rfl
      refine quick _ (j : Nat) tag8 σ8 x10 hAE' (st6.trans ((k7 _).trans (st8.mono (fun c hc => List.mem_cons_of_mem _ (dc_da c hc))))) ((hT6.keep (st7 []) (by simp)).keepS st8 (by simp; omega) (by decide)) ((r106.keep (st7 []) (by simp)).keepS st8 (by decide))
    · rw [if_neg (by simp)]
      rw [if_neg (by simpa using he)] at hap
      rw [Pa.inc j (by omega)]
      have hdl' := doE_len (home := home) (owner := owner) (qn := qn) (qb := qb) (w := w) (o := ops[j])
      have hi7 : InvB (b + (j + 1)) (doE home owner qn qb w ops[j]).2.st := by
        have hbj : b + j ≤ 4398046511103 := by omega
        have := doE_inv (home := home) (owner := owner) (qn := qn) (qb := qb) (o := ops[j]) hi6 hbj
        exact this
      refine ih (j + 1) _ tag8 σ8 (by omega) hap hi7 ⟨by omega, by omega⟩ (st6.trans ((k7 _).trans (st8.mono (fun c hc => List.mem_cons_of_mem _ (dc_da c hc))))) hW8 hU8 ((hT6.keep (st7 []) (by simp)).keepS st8 (by simp; omega) (by decide)) ((hops6.keepS (k7 []) (by simp) (by simp)).keepS st8 (by simp; omega) (by decide)) ((r106.keep (st7 []) (by simp)).keepS st8 (by decide))
end Go.Proofs.YthfpmipeejjogaaGreatDoor.Zt
