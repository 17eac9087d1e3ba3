/- Paths, the walk of the document's answer (althingref02): it says what package path says. -/
import Derived.Test.YthfpmipeejjogaaGreatDoorPaC
namespace Go.Proofs.YthfpmipeejjogaaGreatDoor.Pa
open Go Go.Proofs.YthfpmipeejjogaaGreatDoor.SL Go.Proofs.YthfpmipeejjogaaGreatDoor.G Go.RowKit
set_option linter.unusedSimpArgs false
set_option linter.unusedVariables false
variable {B : World} {ro σ σ' : AH} {tag tag' : Nat → Nat}

theorem get_L (s : ByteArray) (i : Nat) (h : i < s.size) : s[i]? = some ((L s)[i]'(by rw [L_len]; exact h)) := by
  conv => lhs; rw [← S_L s]
  rw [S_get, List.getElem?_eq_getElem]
theorem okc_int (c : UInt8) : okc c = true ↔ (((97 ≤ (c.toNat : Int) ∧ (c.toNat : Int) ≤ 122) ∨ (48 ≤ (c.toNat : Int) ∧ (c.toNat : Int) ≤ 57)) ∨ (c.toNat : Int) = 46) ∨ (c.toNat : Int) = 95 ∨ (c.toNat : Int) = 45 := by
  simp [okc]; omega

theorem rname_ok {s : ByteArray} {Q : Bool → AH → Prop} (hQ : Q (nameOk (L s)) σ) : c_ref02_Name B ro s σ Q := by
  refine ref02_Name_ok fun hs => ?_
  unfold f_ref02_Name
  by_cases g : ((((s.size : Int) < 1) ∨ (32 < (s.size : Int))) ∨ s = ⟨#[46]⟩) ∨ s = ⟨#[46, 46]⟩
  · rw [if_pos g]
    have : nameOk (L s) = false := by
      rw [Bool.eq_false_iff]
      intro h
      unfold nameOk at h
      simp only [Bool.and_eq_true, decide_eq_true_eq, bne_iff_ne] at h
      obtain ⟨⟨⟨⟨h1, h2⟩, h3⟩, h4⟩, _⟩ := h
      rw [L_len] at h1 h2
      rcases g with ((g | g) | g) | g
      · omega
      · omega
      · rw [g] at h3; exact h3 rfl
      · rw [g] at h4; exact h4 rfl
    rw [this] at hQ; exact hQ
  · rw [if_neg g]
    have hall : nameOk (L s) = (L s).all okc := by
      unfold nameOk
      have e1 : 1 ≤ (L s).length := by rw [L_len]; omega
      have e2 : (L s).length ≤ 32 := by rw [L_len]; omega
      have e3 : L s ≠ [46] := fun h => g (.inl (.inr (L_inj h)))
      have e4 : L s ≠ [46, 46] := fun h => g (.inr (L_inj h))
      simp [e1, e2, e3, e4]
    rw [hall] at hQ
    have h32 : s.size ≤ 32 := by omega
    suffices ∀ m j, j + m = s.size → (∀ i, i < j → ∀ c, (L s)[i]? = some c → okc c = true) → lfpD (l2_ref02_Name B ro s Q) (j : Int) σ from
      this s.size 0 (Nat.zero_add _) (fun i h => absurd h (Nat.not_lt_zero _))
    intro m
    induction m with
    | zero =>
      intro j hj hk
      refine lfpD.intro ?_
      unfold l2_ref02_Name
      rw [if_neg (by omega)]
      have : (L s).all okc = true := by
        rw [List.all_eq_true]
        intro c hc
        obtain ⟨i, hi, e⟩ := List.getElem_of_mem hc
        exact hk i (by rw [L_len] at hi; omega) c (by rw [List.getElem?_eq_getElem hi, e])
      rw [this] at hQ; exact hQ
    | succ m ih =>
      intro j hj hk
      have hjl : j < (L s).length := by rw [L_len]; omega
      refine lfpD.intro ?_
      unfold l2_ref02_Name
      rw [if_pos (by omega)]
      refine ⟨(L s)[j], by omega, by rw [Int.toNat_natCast]; exact get_L s j (by omega), ?_⟩
      have key : ∀ x : Bool, (((x = true ∨ ((L s)[j].toNat : Int) = 46) ∨ ((L s)[j].toNat : Int) = 95) ∨ ((L s)[j].toNat : Int) = 45 ↔ okc (L s)[j] = true) → j5_ref02_Name B ro s j (L s)[j] Q (lfpD (l2_ref02_Name B ro s Q)) x σ := by
        intro x hx
        unfold j5_ref02_Name
        by_cases c : okc (L s)[j] = true
        · rw [if_neg (fun h => h (hx.2 c)), inc j (by omega)]
          refine ih (j + 1) (by omega) fun i hi c' hc' => ?_
          rcases Nat.lt_or_ge i j with h | h
          · exact hk i h c' hc'
          · have : i = j := by omega
            subst this
            rw [List.getElem?_eq_getElem hjl] at hc'
            cases hc'; exact c
        · rw [if_pos (fun h => c (hx.1 h))]
          have : (L s).all okc = false := by
            rw [Bool.eq_false_iff, ne_eq, List.all_eq_true]
            exact fun h => c (h _ (List.getElem_mem hjl))
          rw [this] at hQ; exact hQ
      by_cases b1 : (97 : Int) ≤ ((L s)[j].toNat : Int) ∧ ((L s)[j].toNat : Int) ≤ 122
      · rw [if_pos b1]
        exact key _ (by rw [okc_int]; simp; omega)
      · rw [if_neg b1]
        exact key _ (by rw [okc_int]; simp; omega)

theorem t25 : Tryz.prog.underlying 25 = some (.slice 9) := by kernel_rfl
set_option maxRecDepth 100000 in
theorem rparts_ok {s : ByteArray} {Q : Sl → Bool → AH → Prop} (r : Nat) (hnone : parts (L s) = none → ∀ sl σ', Q sl false σ')
    (hsome : ∀ ps, parts (L s) = some ps → ∀ sl tag' σ', Step [r] ro tag σ tag' σ' → Row tag' σ' r 9 sl (ps.map vS) → Q sl true σ') : c_ref02_Parts B ro s σ Q := by
  refine ref02_Parts_ok fun hs => ?_
  unfold f_ref02_Parts
  by_cases h1 : s = ⟨#[47]⟩
  · rw [if_pos h1]
    refine hsome [] ?_ _ tag σ (Step.refl hs) (Row.nil r 9)
    subst h1; rfl
  · have hne : L s ≠ [47] := fun h => h1 (L_inj h)
    rw [if_neg h1]
    by_cases h2 : ((s.size : Int) < 1) ∨ 128 < (s.size : Int)
    · rw [if_pos h2]
      unfold j1_ref02_Parts
      rw [if_pos rfl]
      refine hnone ?_ _ _
      unfold parts; rw [if_neg hne, if_neg]
      rintro ⟨a, b, _⟩
      rw [L_len] at a
      have : (L s).length = 0 := by rw [L_len]; omega
      rw [List.eq_nil_of_length_eq_zero this] at b
      cases b
    · rw [if_neg h2]
      have h128 : s.size ≤ 128 := by omega
      have hpos : 0 < (L s).length := by rw [L_len]; omega
      refine ⟨(L s)[0], by omega, get_L s 0 (by omega), ?_⟩
      unfold j1_ref02_Parts
      by_cases h3 : (L s)[0] = 47
      · rw [if_neg (by rw [h3]; decide)]
        obtain ⟨t, ht⟩ : ∃ t, L s = 47 :: t := by
          cases h : L s with
          | nil => rw [h] at hpos; cases hpos
          | cons c t => simp only [h, List.getElem_cons_zero] at h3; rw [h3]; exact ⟨t, rfl⟩
        have hsz : s.size = t.length + 1 := by rw [← L_len, ht]; rfl
        have hdrop : (L s).drop 1 = t := by rw [ht]; rfl
        have hno : ∀ x ∈ cut t, ¬ nameOk x = true → parts (L s) = none := fun x hx hx' => by
          unfold parts
          rw [if_neg hne, hdrop, if_neg]
          intro h; exact hx' (List.all_eq_true.1 h.2.2.2 x hx)
        have step : ∀ (i fr : Nat) (done : List Str) sl tag' σ' Y, i ≤ s.size → fr ≤ i → done.length ≤ i → ((L s).take i).drop fr ∈ cut t → Row tag' σ' r 9 sl (done.map vS) → Step [r] ro tag σ tag' σ' →
            (nameOk (((L s).take i).drop fr) = true → ∀ s2 tag2 σ2, Row tag2 σ2 r 9 s2 ((done ++ [((L s).take i).drop fr]).map vS) → Step [r] ro tag σ tag2 σ2 → Y (s2, ((i + 1 : Nat) : Int), ((i + 1 : Nat) : Int)) σ2) →
            j12_ref02_Parts B ro s sl (fr : Int) (i : Int) Q Y true σ' := by
          intro i fr done sl tag' σ' Y hi hf hdl hmem hr st hY
          unfold j12_ref02_Parts
          rw [if_pos rfl]
          have hcut : cutOk (some (fr : Int)) (some (i : Int)) s.size s.size := ⟨⟨by omega, by omega⟩, ⟨by omega, by simp [cutHi]; omega⟩⟩
          refine ⟨hcut, ?_⟩
          rw [Int.toNat_natCast, Int.toNat_natCast, S_ext]
          refine rname_ok ?_
          rw [L_S]
          by_cases hn : nameOk (((L s).take i).drop fr) = true
          · rw [if_neg (by simpa using hn)]
            refine ⟨hcut, ?_⟩
            refine nw_cells (tag := tag') (r + 1) st.sep fun u tag2 σ2 st2 r2 => ?_
            have hr2 := hr.keep (st2 []) (by simp)
            refine awp_append1 hr2 (st2 []).sep t25 ty9 rfl rfl (Row.cell1 r2 (st2 []).sep) rfl (by rw [List.length_map]; omega) (by decide) fun s' tag3 σ3 st3 r3 => ?_
            refine ⟨s', rfl, ?_⟩
            unfold j9_ref02_Parts
            rw [inc i (by omega)]
            exact hY hn s' tag3 σ3 (by rw [List.map_append]; exact r3) (st.trans ((st2 _).trans st3))
          · rw [if_pos (by simpa using hn)]
            exact hnone (hno _ hmem hn) _ _
        suffices ∀ m i fr done sl tag' σ', i + m = s.size → fr ≤ i → 47 ∉ ((L s).take i).drop fr → cut t = done ++ cut ((L s).drop fr) → (∀ x ∈ done, nameOk x = true) → done.length ≤ i → Row tag' σ' r 9 sl (done.map vS) → Step [r] ro tag σ tag' σ' → lfpD (l5_ref02_Parts B ro s Q) (sl, (fr : Int), (i : Int)) σ' from
          this t.length 1 1 [] ⟨none, 0, 0⟩ tag σ (by omega) (Nat.le_refl _) (by rw [List.drop_eq_nil_of_le (by simp; omega)]; simp) (by rw [ht]; rfl) (by simp) (by simp) (Row.nil r 9) (Step.refl hs)
        intro m
        induction m with
        | zero =>
          intro i fr done sl tag' σ' hi hf2 hw hc hd hdl hr st
          refine lfpD.intro ?_
          unfold l5_ref02_Parts
          simp only
          rw [if_pos (by omega), if_pos (by omega)]
          have hti : (L s).take i = L s := List.take_of_length_le (by rw [L_len]; omega)
          rw [hti] at hw
          rw [cut_word _ hw] at hc
          refine step i fr done sl tag' σ' (lfpD (l5_ref02_Parts B ro s Q)) (by omega) hf2 hdl (by rw [hti, hc]; simp) hr st fun hn s2 tag2 σ2 r2 st2 => ?_
          rw [hti] at hn r2
          refine lfpD.intro ?_
          unfold l5_ref02_Parts
          simp only
          rw [if_neg (by omega)]
          unfold j3_ref02_Parts
          rw [← hc] at r2
          have hln : s2.len = (cut t).length := by rw [r2.len, List.length_map]
          by_cases h8 : 8 < (s2.len : Int)
          · rw [if_pos h8]
            refine hnone ?_ _ _
            unfold parts
            rw [if_neg hne, hdrop, if_neg]
            intro h; have := h.2.2.1; omega
          · rw [if_neg h8]
            refine hsome (cut t) ?_ s2 tag2 σ2 st2 r2
            unfold parts
            rw [if_neg hne, hdrop, if_pos]
            refine ⟨by rw [L_len]; omega, by rw [ht]; rfl, by omega, ?_⟩
            rw [List.all_eq_true, hc]
            intro x hx
            rcases List.mem_append.1 hx with h | h
            · exact hd x h
            · rw [List.mem_singleton] at h; rw [h]; exact hn
        | succ m ih =>
          intro i fr done sl tag' σ' hi hf2 hw hc hd hdl hr st
          have hil : i < (L s).length := by rw [L_len]; omega
          refine lfpD.intro ?_
          unfold l5_ref02_Parts
          simp only
          rw [if_pos (by omega), if_neg (by omega)]
          refine ⟨(L s)[i], by omega, by rw [Int.toNat_natCast]; exact get_L s i (by omega), ?_⟩
          have hsplit : (L s).drop fr = ((L s).take i).drop fr ++ (L s)[i] :: (L s).drop (i + 1) := by
            rw [← List.drop_eq_getElem_cons hil]
            conv => lhs; rw [← List.take_append_drop i (L s)]
            rw [List.drop_append_of_le_length (by simp; omega)]
          by_cases h47 : (L s)[i] = 47
          · rw [h47] at hsplit ⊢
            rw [hsplit, cut_app _ _ hw] at hc
            rw [show (decide (((47 : UInt8).toNat : Int) = 47)) = true from by decide]
            refine step i fr done sl tag' σ' (lfpD (l5_ref02_Parts B ro s Q)) (by omega) hf2 hdl (by rw [hc]; simp) hr st fun hn s2 tag2 σ2 r2 st2 => ?_
            refine ih (i + 1) (i + 1) _ s2 tag2 σ2 (by omega) (Nat.le_refl _) (by rw [List.drop_eq_nil_of_le (by simp; omega)]; simp) (by rw [hc]; simp) (fun x hx => ?_) (by simp; omega) r2 st2
            rcases List.mem_append.1 hx with h | h
            · exact hd x h
            · rw [List.mem_singleton] at h; rw [h]; exact hn
          · rw [show (decide ((((L s)[i]).toNat : Int) = 47)) = false from by
              simp; intro h; exact h47 (UInt8.toNat_inj.1 (by show (L s)[i].toNat = 47; omega))]
            unfold j12_ref02_Parts
            rw [if_neg (by decide)]
            unfold j9_ref02_Parts
            rw [inc i (by omega)]
            refine ih (i + 1) fr done sl tag' σ' (by omega) (by omega) ?_ hc hd (by omega) hr st
            rw [List.take_succ_eq_append_getElem hil, List.drop_append_of_le_length (by simp; omega)]
            intro h
            rcases List.mem_append.1 h with h | h
            · exact hw h
            · rw [List.mem_singleton] at h; exact h47 h.symm
      · rw [if_pos (by simp; intro h; exact h3 (UInt8.toNat_inj.1 (by show (L s)[0].toNat = 47; omega)))]
        refine hnone ?_ _ _
        unfold parts
        rw [if_neg hne, if_neg]
        intro h
        apply h3
        have := h.2.1
        rw [List.head?_eq_getElem?, List.getElem?_eq_getElem hpos] at this
        exact Option.some.inj this
end Go.Proofs.YthfpmipeejjogaaGreatDoor.Pa
