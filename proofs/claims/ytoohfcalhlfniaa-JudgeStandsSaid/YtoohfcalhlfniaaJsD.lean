/- JudgeStands, the walk of Arrange, to its end. -/
import Derived.Test.YtoohfcalhlfniaaJsC
namespace Go.Proofs.Ytoohfcalhlfniaa.Js
open Go Go.Proofs.Ytoohfcalhlfniaa.SL Go.Proofs.Ytoohfcalhlfniaa.G
set_option linter.unusedSimpArgs false
set_option linter.unusedVariables false
variable {B : World} {ro σ σ' : AH} {tag tag' : Nat → Nat}

theorem Heap.keep {R : List Nat} {b : Nat} {l : List Nat} (h : Heap tag σ b l) (st : Step R ro tag σ tag' σ') (h2 : 2 ∉ R) (h3 : 3 ∉ R) : Heap tag' σ' b l := by
  obtain ⟨s, a, b⟩ := h
  exact ⟨s, a.keep st h2, b.keep st h3⟩
theorem inc (j : Nat) (h : j < 4611686018427387904) : IntKind.i64.wrap ((j : Int) + 1) = ((j + 1 : Nat) : Int) := by rw [SL.w64_eq (by omega) (by omega)]; rfl

theorem walk_start {n xb xw fb : Nat} {bs : List (List Nat)} {ws : List Int} {Q : Sl → Bool → AH → Prop} (hn : n ≤ 4096) :
    ∀ (m i : Nat) (f f' : List Nat) (tag : Nat → Nat) (σ : AH), i + m = n → Arr tag σ xb xw n bs ws → Heap tag σ fb f → SL.Sep ro σ → start m i f ws = some f' →
    (∀ tag' σ', Arr tag' σ' xb xw n bs ws → Heap tag' σ' fb f' → SL.Sep ro σ' → j5_judge_Arrange B ro n xb xw fb Q σ') → lfpD (l28_judge_Arrange B ro n xb xw fb Q) (i : Int) σ := by
  intro m
  induction m with
  | zero =>
    intro i f f' tag σ hi ha hh hs he hK
    refine lfpD.intro ?_
    unfold l28_judge_Arrange
    rw [if_neg (by omega)]
    cases he
    exact hK tag σ ha hh hs
  | succ m ih =>
    intro i f f' tag σ hi ha hh hs he hK
    refine lfpD.intro ?_
    unfold l28_judge_Arrange
    rw [if_pos (by omega)]
    refine ⟨_, rfl, by omega, by simp; omega, ws.getD i 0, ha.wget hs (by omega), ?_⟩
    unfold start at he
    by_cases hz : ws.getD i 0 = 0
    · rw [if_pos hz] at he
      rw [if_pos hz]
      split at he
      · rename_i hl
        refine push_ok hh hl fun tag' σ' st hh' => ?_
        unfold j30_judge_Arrange
        rw [inc i (by omega)]
        exact ih (i + 1) _ f' tag' σ' (by omega) (ha.keep st (by simp)) hh' st.sep he hK
      · cases he
    · rw [if_neg hz] at he
      rw [if_neg hz]
      unfold j30_judge_Arrange
      rw [inc i (by omega)]
      exact ih (i + 1) _ f' tag σ (by omega) ha hh hs he hK

theorem inner_facts {n : Nat} : ∀ (ks f f' : List Nat) (w w' : List Int), inner ks f w = some (f', w') → (∀ k ∈ ks, k < n) → f.length ≤ most → (∀ x ∈ f, x < n) → f'.length ≤ most ∧ ∀ x ∈ f', x < n := by
  intro ks
  induction ks with
  | nil => intro f f' w w' h _ h1 h2; cases h; exact ⟨h1, h2⟩
  | cons k ks ih =>
    intro f f' w w' h hk h1 h2
    unfold inner at h
    split at h
    · split at h
      · rename_i hl
        have hp := push_perm f k
        refine ih _ _ _ _ h (fun x hx => hk x (by simp [hx])) (by rw [hp.length_eq]; exact hl) fun x hx => ?_
        rcases List.mem_cons.1 (hp.mem_iff.1 hx) with e | e
        · rw [e]; exact hk k (by simp)
        · exact h2 x e
      · cases h
    · exact ih _ _ _ _ h (fun x hx => hk x (by simp [hx])) h1 h2
theorem start_facts {n : Nat} : ∀ (m i : Nat) (f f' : List Nat) (w : List Int), start m i f w = some f' → i + m ≤ n → f.length ≤ most → (∀ x ∈ f, x < n) → f'.length ≤ most ∧ ∀ x ∈ f', x < n := by
  intro m
  induction m with
  | zero => intro i f f' w h _ h1 h2; cases h; exact ⟨h1, h2⟩
  | succ m ih =>
    intro i f f' w h hi h1 h2
    unfold start at h
    split at h
    · split at h
      · rename_i hl
        have hp := push_perm f i
        refine ih _ _ _ _ h (by omega) (by rw [hp.length_eq]; exact hl) fun x hx => ?_
        rcases List.mem_cons.1 (hp.mem_iff.1 hx) with e | e
        · omega
        · exact h2 x e
      · cases h
    · exact ih _ _ _ _ h (by omega) h1 h2

theorem walk_inner {n xb xw fb r : Nat} {bs : List (List Nat)} {so sk : Sl} {full out : List Nat} {Q : Sl → Bool → AH → Prop} {Y : Sl → AH → Prop} (hn : n ≤ 4096) (hf : full.length ≤ most) (hlt : ∀ k ∈ full, k < n) (hr : 6 ≤ r) :
    ∀ (m j : Nat) (f f' : List Nat) (ws ws' : List Int) (tag : Nat → Nat) (σ : AH), j + m = full.length → Arr tag σ xb xw n bs ws → Heap tag σ fb f → Row tag σ 4 3 so (out.map vN) → Row tag σ r 3 sk (full.map vN) → SL.Sep ro σ → inner (full.drop j) f ws = some (f', ws') →
    (∀ tag' σ', Arr tag' σ' xb xw n bs ws' → Heap tag' σ' fb f' → Row tag' σ' 4 3 so (out.map vN) → SL.Sep ro σ' → Y so σ') → lfpD (l18_judge_Arrange B ro n xb xw fb so sk Q Y) (j : Int) σ := by
  have hf' := hf
  simp only [most] at hf
  intro m
  induction m with
  | zero =>
    intro j f f' ws ws' tag σ hj ha hh ho hk hs he hK
    have hlk : sk.len = full.length := by rw [hk.len, List.length_map]
    refine lfpD.intro ?_
    unfold l18_judge_Arrange
    rw [if_neg (by omega)]
    rw [List.drop_eq_nil_of_le (by omega)] at he
    cases he
    exact hK tag σ ha hh ho hs
  | succ m ih =>
    intro j f f' ws ws' tag σ hj ha hh ho hk hs he hK
    have hlk : sk.len = full.length := by rw [hk.len, List.length_map]
    have hjl : j < full.length := by omega
    obtain ⟨k, hkk⟩ : ∃ k, full[j] = k := ⟨_, rfl⟩
    have hkn : k < n := hlt k (hkk ▸ List.getElem_mem hjl)
    obtain ⟨p, hp, _, hg⟩ := Row.at hk hs hjl
    refine lfpD.intro ?_
    unfold l18_judge_Arrange
    rw [if_pos (by omega)]
    have hgj := hg j hjl
    rw [getD_get _ _ hjl, hkk] at hgj
    refine ⟨p, hp, by omega, by omega, k, hgj, _, rfl, by omega, by simp; omega, ws.getD k 0, ha.wget hs hkn, _, rfl, by omega, by simp; omega, ?_⟩
    refine ha.wset hs hkn fun σ1 st1 ha1 => ?_
    have hh1 := hh.keep st1 (by decide) (by decide)
    have ho1 := ho.keep st1 (by decide)
    have hk1 := hk.keep st1 (by simp; omega)
    refine ⟨_, rfl, by omega, by simp; omega, _, ha1.wget st1.sep hkn, ?_⟩
    rw [List.drop_eq_getElem_cons hjl, hkk] at he
    unfold inner at he
    have hwl := ha.wl
    rw [getD_set _ _ _ _ _ (by omega), if_pos rfl]
    by_cases hz : w64 (ws.getD k 0 - 1) = 0
    · rw [if_pos hz] at he
      rw [if_pos hz]
      split at he
      · rename_i hl
        refine push_ok hh1 hl fun tag' σ' st hh' => ?_
        unfold j20_judge_Arrange
        rw [inc j (by omega)]
        exact ih (j + 1) _ f' _ ws' tag' σ' (by omega) (ha1.keep st (by simp)) hh' (ho1.keep st (by simp)) (hk1.keep st (by simp; omega)) st.sep he hK
      · cases he
    · rw [if_neg hz] at he
      rw [if_neg hz]
      unfold j20_judge_Arrange
      rw [inc j (by omega)]
      exact ih (j + 1) _ f' _ ws' tag σ1 (by omega) ha1 hh1 ho1 hk1 st1.sep he hK

theorem walk_run {n xb xw fb : Nat} {bs : List (List Nat)} {Q : Sl → Bool → AH → Prop} (hn : n ≤ 4096) (hb : ∀ i, (bs.getD i []).length ≤ most ∧ ∀ k ∈ bs.getD i [], k < n) :
    ∀ (F : Nat) (f out o : List Nat) (ws : List Int) (so : Sl) (tag : Nat → Nat) (σ : AH), Arr tag σ xb xw n bs ws → Heap tag σ fb f → Row tag σ 4 3 so (out.map vN) → SL.Sep ro σ → f.length ≤ most → (∀ x ∈ f, x < n) → run F bs f ws out = some o →
    (∀ s' tag' σ', Row tag' σ' 4 3 s' (o.map vN) → SL.Sep ro σ' → j6_judge_Arrange B ro n Q s' σ') → lfpD (l8_judge_Arrange B ro n xb xw fb Q) so σ := by
  intro F
  induction F with
  | zero => intro f out o ws so tag σ _ _ _ _ _ _ h; cases h
  | succ F ih =>
    intro f out o ws so tag σ ha hh ho hs hl hx he hK
    obtain ⟨sf, h1, h2⟩ := hh
    have hh : Heap tag σ fb f := ⟨sf, h1, h2⟩
    refine lfpD.intro ?_
    unfold l8_judge_Arrange
    refine ⟨sf, Row.one h1 hs, ?_⟩
    refine sort_IntSlice_Len_ok fun _ => ?_
    unfold f_sort_IntSlice_Len
    rw [h2.len, List.length_map]
    unfold run at he
    by_cases hz : f.length = 0
    · rw [if_pos hz] at he
      rw [if_neg (by omega)]
      cases he
      exact hK _ _ _ ho hs
    · rw [if_neg hz] at he
      rw [if_pos (by omega)]
      split at he
      · cases he
      · rename_i hol
        refine pop_ok hh (by omega) hl fun tag1 σ1 st1 hh1 => ?_
        have hpm := pop_perm f (by omega)
        have htop : popTop f < n := hx _ (hpm.mem_iff.2 (by simp))
        refine ⟨popTop f, rfl, ?_⟩
        have ha1 := ha.keep st1 (by simp)
        have ho1 := ho.keep st1 (by simp)
        refine nw_cells (tag := tag1) 0 st1.sep fun u tag2 σ2 st2 r2 => ?_
        have ha2 := ha1.keep (st2 []) (by simp)
        have ho2 := ho1.keep (st2 []) (by simp)
        have hh2 := hh1.keep (st2 []) (by simp) (by simp)
        have hs2 := (st2 []).sep
        refine awp_append1 ho2 hs2 rfl ty3 rfl rfl (Row.one r2 hs2) rfl (by rw [List.length_map]; simp only [most] at hol; omega) (by decide) fun s' tag3 σ3 st3 r3 => ?_
        have ha3 := ha2.keep st3 (by simp)
        have hh3 := hh2.keep st3 (by simp) (by simp)
        refine ⟨s', rfl, _, rfl, by omega, by simp; omega, ?_⟩
        obtain ⟨ss, hsl, hrow, hrows⟩ := ha3.rows
        obtain ⟨pb, hpb, hgb⟩ := hrow.ptr st3.sep (by simp; omega)
        cases hpb
        refine ⟨ss.getD (popTop f) ⟨none, 0, 0⟩, hgb (popTop f) _ (by rw [getD_get _ _ (by omega), List.getElem?_map, List.getElem?_eq_getElem (by omega)]; rfl), ?_⟩
        split at he
        · cases he
        · rename_i f' w' hi
          have hrest : (popRest f).length ≤ most ∧ ∀ x ∈ popRest f, x < n := by
            have := hpm.length_eq
            simp only [List.length_cons] at this
            exact ⟨by omega, fun x hx' => hx x (hpm.mem_iff.2 (by simp [hx']))⟩
          have hfs := inner_facts (n := n) _ _ _ _ _ hi (hb _).2 hrest.1 hrest.2
          have r3' : Row tag3 σ3 4 3 s' ((out ++ [popTop f]).map vN) := by rw [List.map_append]; exact r3
          refine walk_inner hn (hb (popTop f)).1 (hb (popTop f)).2 (r := 6 + popTop f) (by omega) _ 0 _ f' _ w' tag3 σ3 (Nat.zero_add _) ha3 hh3 r3' (hrows _ htop) st3.sep hi fun tag4 σ4 ha4 hh4 ho4 hs4 => ?_
          exact ih f' _ o w' s' tag4 σ4 ha4 hh4 ho4 hs4 hfs.1 hfs.2 he hK

theorem Arrange_ok {n : Nat} {a1 : Sl} {ps : List (Nat × Nat)} {o : List Nat} {Q : Sl → Bool → AH → Prop} (hn : n ≤ 4096) (hP : Pairs ro a1 (cst ps)) (hp : ∀ p ∈ ps, p.1 < n ∧ p.2 < n) (hl : ps.length ≤ most) (he : arrange n ps = some o)
    (h1 : o.length < n → ∀ σ, SL.Sep ro σ → Q ⟨none, 0, 0⟩ false σ) (h2 : ¬ o.length < n → ∀ s tag σ, Row tag σ 4 3 s (o.map vN) → SL.Sep ro σ → Q s true σ) :
    c_judge_Arrange B ro (n : Int) a1 (fun _ => none) Q := by
  refine judge_Arrange_ok fun hs => ?_
  unfold f_judge_Arrange
  simp only [Int.toNat_natCast]
  rw [if_neg (by omega)]
  refine ⟨by omega, ?_⟩
  refine nw_row (tag := fun _ => 0) 1 hs rfl fun xb tag1 σ1 st1 r1 => ?_
  have hs1 := (st1 []).sep
  refine ⟨by omega, ?_⟩
  refine nw_row (tag := tag1) 5 hs1 rfl fun xw tag2 σ2 st2 r2 => ?_
  have hs2 := (st2 []).sep
  have r1 := r1.keep (st2 []) (by simp)
  have hz : ∀ i, (List.replicate n ([] : List Nat)).getD i [] = [] := fun i => by simp [List.getD, List.getElem?_replicate]; split <;> rfl
  have ha : Arr tag2 σ2 xb xw n (List.replicate n []) (List.replicate n 0) := by
    refine ⟨by simp, by simp, ⟨List.replicate n ⟨none, 0, 0⟩, by simp, by rw [List.map_replicate]; exact r1, fun i hi => ?_⟩, by rw [List.map_replicate]; exact r2⟩
    rw [hz, getD_get _ _ (by simpa using hi)]
    simpa using Row.nil (6 + i) 3
  refine build_ok hP hp hl ps.length 0 tag2 σ2 _ _ (Nat.zero_add _) ha hs2 (fun i => by rw [hz]; exact Nat.le_refl _) fun tag3 σ3 ha3 hs3 => ?_
  rw [List.drop_zero] at ha3
  unfold j3_judge_Arrange
  refine nw_cells (tag := tag3) 2 hs3 fun fb tag4 σ4 st4 r4 => ?_
  have ha4 := ha3.keep (st4 []) (by simp)
  have hh : Heap tag4 σ4 fb [] := ⟨⟨none, 0, 0⟩, r4, Row.nil 3 3⟩
  unfold arrange at he
  split at he
  · cases he
  · rename_i f hf
    have hff := start_facts (n := n) n 0 [] f _ hf (by omega) (by simp) (by simp)
    refine walk_start hn n 0 [] f tag4 σ4 (Nat.zero_add _) ha4 hh (st4 []).sep hf fun tag5 σ5 ha5 hh5 hs5 => ?_
    unfold j5_judge_Arrange
    have hb : ∀ i, ((ps.foldl bump1 (List.replicate n [])).getD i []).length ≤ most ∧ ∀ k ∈ (ps.foldl bump1 (List.replicate n [])).getD i [], k < n := fun i => by
      rw [bump1_get ps _ (fun p h => by simpa using (hp p h).1), hz, List.nil_append]
      refine ⟨by rw [List.length_map]; exact Nat.le_trans (List.length_filter_le _ _) hl, fun k hk => ?_⟩
      obtain ⟨p, hp1, hp2⟩ := List.mem_map.1 hk
      rw [← hp2]; exact (hp p (List.mem_filter.1 hp1).1).2
    refine walk_run hn hb (n + 1) f [] o _ ⟨none, 0, 0⟩ tag5 σ5 ha5 hh5 (Row.nil 4 3) hs5 hff.1 hff.2 he fun s' tag6 σ6 r6 hs6 => ?_
    unfold j6_judge_Arrange
    rw [r6.len, List.length_map]
    by_cases c : o.length < n
    · rw [if_pos (by omega)]; exact h1 c _ hs6
    · rw [if_neg (by omega)]; exact h2 c _ _ _ r6 hs6
end Go.Proofs.Ytoohfcalhlfniaa.Js
