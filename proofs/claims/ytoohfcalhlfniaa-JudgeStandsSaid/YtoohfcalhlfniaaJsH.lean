/- JudgeStands, the walk of the heap: what least's methods and container/heap do to the row of numbers. -/
import Derived.Test.YtoohfcalhlfniaaGA
import Derived.Test.YtoohfcalhlfniaaGB
import Derived.Test.YtoohfcalhlfniaaMem
import Derived.Test.YtoohfcalhlfniaaJsB
namespace Go.Proofs.Ytoohfcalhlfniaa.Js
open Go Go.Proofs.Ytoohfcalhlfniaa.SL Go.Proofs.Ytoohfcalhlfniaa.G
set_option linter.unusedSimpArgs false
set_option linter.unusedVariables false
variable {B : World} {ro σ σ' : AH} {tag tag' : Nat → Nat}

abbrev vN (n : Nat) : Value := .int .i64 n
abbrev hv (b : Nat) : Value := .iface 32 (.pointer (some ⟨b, 0, none⟩))
/-- the heap at b holds the numbers l -/
def Heap (tag : Nat → Nat) (σ : AH) (b : Nat) (l : List Nat) : Prop := ∃ s : Sl, Row tag σ 2 35 ⟨some ⟨b, 0, none⟩, 1, 1⟩ [Sl.v s] ∧ Row tag σ 3 3 s (l.map vN)

theorem dpush (p : Option Addr) (x : Value) (Q : Value → AH → Prop) : callI Try.prog B ro (.iface 32 (.pointer p)) "Push" [x] σ Q = ACalls Try.prog B ro 30 #[.pointer p, x] σ Q := by kernel_rfl
theorem dpop (p : Option Addr) (Q : Value → AH → Prop) : callI Try.prog B ro (.iface 32 (.pointer p)) "Pop" [] σ Q = ACalls Try.prog B ro 29 #[.pointer p] σ Q := by kernel_rfl
theorem dlen (b : Nat) (Q : Value → AH → Prop) : callI Try.prog B ro (hv b) "Len" [] σ Q = ∃ v, acell ro σ ⟨b, 0, none⟩ = some v ∧ ACalls Try.prog B ro 8 #[v] σ Q := by kernel_rfl
theorem dless (b : Nat) (x y : Value) (Q : Value → AH → Prop) : callI Try.prog B ro (hv b) "Less" [x, y] σ Q = ∃ v, acell ro σ ⟨b, 0, none⟩ = some v ∧ ACalls Try.prog B ro 28 #[v, x, y] σ Q := by kernel_rfl
theorem dswap (b : Nat) (x y : Value) (Q : Value → AH → Prop) : callI Try.prog B ro (hv b) "Swap" [x, y] σ Q = ∃ v, acell ro σ ⟨b, 0, none⟩ = some v ∧ ACalls Try.prog B ro 32 #[v, x, y] σ Q := by kernel_rfl

theorem Row.one {r : Nat} {e : TypeId} {b : Nat} {v : Value} (h : Row tag σ r e ⟨some ⟨b, 0, none⟩, 1, 1⟩ [v]) (hs : Sep ro σ) : acell ro σ ⟨b, 0, none⟩ = some v := by
  obtain ⟨p, hp, hg⟩ := h.ptr hs (by simp)
  cases hp
  exact hg 0 v rfl
theorem Row.at {r : Nat} {e : TypeId} {s : Sl} {l : List Nat} (h : Row tag σ r e s (l.map vN)) (hs : Sep ro σ) {i : Nat} (hi : i < l.length) :
    ∃ p, s.a = some p ∧ s.len = l.length ∧ ∀ j, j < l.length → acell ro σ (p.add (j * 1)) = some (vN (l.getD j 0)) := by
  obtain ⟨p, hp, hg⟩ := h.ptr hs (by simp; omega)
  refine ⟨p, hp, by rw [h.len]; simp, fun j hj => hg j _ ?_⟩
  rw [getD_get _ _ hj, List.getElem?_map, List.getElem?_eq_getElem hj]; rfl

theorem less_ok {b : Nat} {l : List Nat} {i j : Nat} {Q : Value → AH → Prop} (h : Heap tag σ b l) (hs : Sep ro σ) (hi : i < l.length) (hj : j < l.length) (hQ : Q (.bool (decide (l.getD i 0 < l.getD j 0))) σ) :
    callI Try.prog B ro (hv b) "Less" [.int .i64 (i : Nat), .int .i64 (j : Nat)] σ Q := by
  obtain ⟨s, h1, h2⟩ := h
  rw [dless]
  refine ⟨_, Row.one h1 hs, ?_⟩
  have : c_sort_IntSlice_Less B ro s i j σ fun r τ => Q (.bool r) τ := by
    refine sort_IntSlice_Less_ok fun _ => ?_
    obtain ⟨p, hp, hl, hg⟩ := Row.at h2 hs hi
    refine ⟨p, hp, by omega, by omega, p, hp, by omega, by omega, l.getD i 0, hg i hi, l.getD j 0, hg j hj, ?_⟩
    simpa using hQ
  exact ACalls.mono this fun v τ ⟨r, e, q⟩ => e ▸ q

theorem map_swp (l : List Nat) (i j : Nat) : ((l.map vN).set i (vN (l.getD j 0))).set j (vN (l.getD i 0)) = (swp l i j).map vN := by
  simp [swp, List.map_set]
theorem swap_ok {b : Nat} {l : List Nat} {i j : Nat} {Q : Value → AH → Prop} (h : Heap tag σ b l) (hs : Sep ro σ) (hi : i < l.length) (hj : j < l.length) (hQ : ∀ σ', Step [3] ro tag σ tag σ' → Heap tag σ' b (swp l i j) → Q (.tuple #[]) σ') :
    callI Try.prog B ro (hv b) "Swap" [.int .i64 (i : Nat), .int .i64 (j : Nat)] σ Q := by
  obtain ⟨s, h1, h2⟩ := h
  rw [dswap]
  refine ⟨_, Row.one h1 hs, ?_⟩
  have : c_sort_IntSlice_Swap B ro s i j σ fun τ => Q (.tuple #[]) τ := by
    refine sort_IntSlice_Swap_ok fun _ => ?_
    obtain ⟨p, hp, hl, hg⟩ := Row.at h2 hs hi
    refine ⟨p, hp, by omega, by omega, p, hp, by omega, by omega, l.getD j 0, hg j hj, l.getD i 0, hg i hi, p, hp, by omega, by omega, ?_⟩
    refine h2.st hs hp (by simpa using hi) rfl fun σ' st r => ?_
    refine ⟨p, hp, by omega, by omega, ?_⟩
    refine r.st st.sep hp (by simpa using hj) rfl fun σ'' st' r' => ?_
    simp only [Int.toNat_natCast] at r'
    rw [map_swp] at r'
    have st2 := st.trans st'
    exact hQ _ st2 ⟨s, h1.keep st2 (by decide), r'⟩
  exact ACalls.mono this fun v τ ⟨e, q⟩ => e ▸ q

theorem par (j : Nat) (h : j < 4611686018427387904) : IntKind.i64.wrap (Int.tdiv (IntKind.i64.wrap ((j : Int) - 1)) 2) = (((j - 1) / 2 : Nat) : Int) := by
  rcases j with _ | j
  · decide
  · have e : ((j + 1 : Nat) : Int) - 1 = (j : Nat) := by omega
    have e2 : Int.tdiv ((j : Nat) : Int) 2 = ((j / 2 : Nat) : Int) := rfl
    rw [e, SL.w64_eq (n := (j : Int)) (by omega) (by omega), e2, SL.w64_eq (by omega) (by omega)]
    simp

theorem up_ok {b : Nat} {Q : AH → Prop} : ∀ (f : Nat) (l : List Nat) (j : Nat) (σ : AH), Heap tag σ b l → Sep ro σ → j < l.length → j < f → l.length ≤ most + 1 → (∀ σ', Step [3] ro tag σ tag σ' → Heap tag σ' b (up f l j) → Q σ') →
    lfpD (l1_heap_up B ro (hv b) Q) (j : Int) σ := by
  intro f
  induction f with
  | zero => intro l j σ _ _ _ h; omega
  | succ f ih =>
    intro l j σ h hs hj hf hl hQ
    simp only [most] at hl
    refine lfpD.intro ?_
    unfold l1_heap_up
    rw [par j (by omega)]
    unfold up at hQ
    by_cases e : (j - 1) / 2 = j
    · rw [if_pos (by omega)]
      unfold j3_heap_up
      rw [if_pos rfl]
      rw [if_pos e] at hQ
      exact hQ _ (Step.refl hs) h
    · rw [if_neg (by omega)]
      rw [if_neg e] at hQ
      refine less_ok h hs hj (by omega) ⟨_, rfl, ?_⟩
      unfold j3_heap_up
      by_cases c : l.getD j 0 < l.getD ((j - 1) / 2) 0
      · rw [if_pos c] at hQ
        rw [if_neg (by simpa using c), par j (by omega)]
        refine swap_ok h hs (by omega) hj fun σ' st h' => ⟨rfl, ?_⟩
        exact ih _ _ _ h' st.sep (by rw [swp_length]; omega) (by omega) (by rw [swp_length]; simp only [most]; omega) fun σ'' st' h'' => hQ _ (st.trans st') h''
      · rw [if_neg c] at hQ
        rw [if_pos (by simpa using c)]
        exact hQ _ (Step.refl hs) h

theorem child_gt (l : List Nat) (n i : Nat) : i < child l n i := by unfold child; split <;> omega
theorem down_ok {b : Nat} {n : Nat} {Q : Bool → AH → Prop} : ∀ (f : Nat) (l : List Nat) (i : Nat) (σ : AH), Heap tag σ b l → Sep ro σ → i < l.length → n ≤ l.length → n ≤ f + i → l.length ≤ most + 1 → (∀ r σ', Step [3] ro tag σ tag σ' → Heap tag σ' b (down f l n i) → Q r σ') →
    lfpD (l3_heap_down B ro (hv b) 0 (n : Int) Q) (i : Int) σ := by
  have hex : ∀ (l : List Nat) (i : Nat) (σ : AH), n ≤ 2 * i + 1 → i < l.length → l.length ≤ most + 1 → (∀ r, Q r σ) → lfpD (l3_heap_down B ro (hv b) 0 (n : Int) Q) (i : Int) σ := by
    intro l i σ h hi hl hq
    simp only [most] at hl
    have w1 : IntKind.i64.wrap (2 * (i : Int)) = 2 * (i : Int) := SL.w64_eq (by omega) (by omega)
    have w2 : IntKind.i64.wrap (2 * (i : Int) + 1) = 2 * (i : Int) + 1 := SL.w64_eq (by omega) (by omega)
    refine lfpD.intro ?_
    unfold l3_heap_down
    rw [w1, w2, if_pos (by omega)]
    exact hq _
  intro f
  induction f with
  | zero =>
    intro l i σ h hs hi hn hf hl hQ
    exact hex l i σ (by omega) hi hl fun r => hQ r _ (Step.refl hs) h
  | succ f ih =>
    intro l i σ h hs hi hn hf hl hQ
    unfold down at hQ
    by_cases e : n ≤ 2 * i + 1
    · rw [if_pos e] at hQ
      exact hex l i σ e hi hl fun r => hQ r _ (Step.refl hs) h
    · rw [if_neg e] at hQ
      have hl' := hl
      simp only [most] at hl
      have w1 : IntKind.i64.wrap (2 * (i : Int)) = 2 * (i : Int) := SL.w64_eq (by omega) (by omega)
      have w2 : IntKind.i64.wrap (2 * (i : Int) + 1) = ((2 * i + 1 : Nat) : Int) := by rw [SL.w64_eq (by omega) (by omega)]; omega
      have w3 : IntKind.i64.wrap (((2 * i + 1 : Nat) : Int) + 1) = ((2 * i + 2 : Nat) : Int) := by rw [SL.w64_eq (by omega) (by omega)]; omega
      have key : ∀ x : Nat, x = child l n i → j5_heap_down B ro (hv b) 0 (n : Int) (i : Int) Q (lfpD (l3_heap_down B ro (hv b) 0 (n : Int) Q)) (x : Int) σ := by
        intro x hx
        have hc := child_lt l n i (by omega)
        have hg := child_gt l n i
        rw [← hx] at hQ hc hg
        unfold j5_heap_down
        refine less_ok h hs (by omega) hi ⟨_, rfl, ?_⟩
        by_cases c : l.getD x 0 < l.getD i 0
        · rw [if_pos c] at hQ
          rw [if_neg (by simpa using c)]
          refine swap_ok h hs hi (by omega) fun σ' st h' => ⟨rfl, ?_⟩
          exact ih _ _ _ h' st.sep (by rw [swp_length]; omega) (by rw [swp_length]; omega) (by omega) (by rw [swp_length]; exact hl') fun r σ'' st' h'' => hQ r _ (st.trans st') h''
        · rw [if_neg c] at hQ
          rw [if_pos (by simpa using c)]
          exact hQ _ _ (Step.refl hs) h
      refine lfpD.intro ?_
      unfold l3_heap_down
      simp only [w1, w2, w3]
      rw [if_neg (by omega)]
      by_cases c : 2 * i + 2 < n
      · rw [if_pos (by omega)]
        refine less_ok h hs (by omega) (by omega) ⟨_, rfl, ?_⟩
        unfold j8_heap_down
        simp only [w1, w2, w3]
        by_cases d : l.getD (2 * i + 2) 0 < l.getD (2 * i + 1) 0
        · rw [if_pos (by simpa using d)]
          exact key (2 * i + 2) (by unfold child; rw [if_pos ⟨c, d⟩])
        · rw [if_neg (by simpa using d)]
          exact key (2 * i + 1) (by unfold child; rw [if_neg fun h => d h.2])
      · rw [if_neg (by omega)]
        unfold j8_heap_down
        simp only [w1, w2, w3]
        rw [if_neg (by simp)]
        exact key (2 * i + 1) (by unfold child; rw [if_neg fun h => c h.1])

theorem Row.st1 {r : Nat} {e : TypeId} {b : Nat} {v u : Value} {K : AH → Prop} (h : Row tag σ r e ⟨some ⟨b, 0, none⟩, 1, 1⟩ [v]) (hs : Sep ro σ) (hv : storable u = true)
    (hK : ∀ σ', Step [r] ro tag σ tag σ' → Row tag σ' r e ⟨some ⟨b, 0, none⟩, 1, 1⟩ [u] → K σ') : stN ⟨b, 0, none⟩ K [u] 0 σ :=
  h.st (i := 0) hs rfl (by simp) hv hK
theorem len_ok {b : Nat} {l : List Nat} {Q : Value → AH → Prop} (h : Heap tag σ b l) (hs : Sep ro σ) (hQ : Q (vN l.length) σ) : callI Try.prog B ro (hv b) "Len" [] σ Q := by
  obtain ⟨s, h1, h2⟩ := h
  rw [dlen]
  refine ⟨_, Row.one h1 hs, ?_⟩
  have : c_sort_IntSlice_Len B ro s σ fun r τ => Q (.int .i64 r) τ := by
    refine sort_IntSlice_Len_ok fun _ => ?_
    show Q (.int .i64 (s.len : Int)) σ
    rw [h2.len, List.length_map]; exact hQ
  exact ACalls.mono this fun v τ ⟨r, e, q⟩ => e ▸ q

theorem push_ok {b : Nat} {l : List Nat} {x : Nat} {Q : AH → Prop} (h : Heap tag σ b l) (hl : l.length < most) (hQ : ∀ tag' σ', Step [2, 3] ro tag σ tag' σ' → Heap tag' σ' b (push l x) → Q σ') :
    c_heap_Push B ro (hv b) (.iface 3 (vN x)) σ Q := by
  refine heap_Push_ok fun hs => ?_
  unfold f_heap_Push
  simp only [most] at hl
  rw [dpush]
  obtain ⟨s, h1, h2⟩ := h
  show c_judge_least_Push B ro (some ⟨b, 0, none⟩) (.iface 3 (vN x)) σ _
  refine judge_least_Push_ok fun _ => ?_
  refine ⟨_, rfl, _, rfl, s, Row.one h1 hs, ?_⟩
  refine nw_cells (tag := tag) 0 hs fun t tag1 σ1 st1 r1 => ?_
  have h1 := h1.keep (st1 []) (by simp)
  have h2 := h2.keep (st1 []) (by simp)
  refine awp_append1 h2 (st1 []).sep rfl ty3 rfl rfl (Row.one r1 (st1 []).sep) rfl (by simp; omega) (by decide) fun s2 tag2 σ2 st2 r2 => ?_
  refine ⟨s2, rfl, _, rfl, ?_⟩
  refine Row.st1 (h1.keep st2 (by decide)) st2.sep rfl fun σ3 st3 r3 => ?_
  have st13 : Step [2, 3] ro tag σ tag2 σ3 := (st1 _).trans ((st2.mono (by simp)).trans (st3.mono (by simp)))
  have hh : Heap tag2 σ3 b (l ++ [x]) := ⟨s2, r3, by simpa using r2.keep st3 (by decide)⟩
  refine len_ok hh st3.sep ⟨_, rfl, ?_⟩
  rw [show (((l ++ [x]).length : Nat) : Int) - 1 = (l.length : Nat) by simp, SL.w64_eq (by omega) (by omega)]
  refine heap_up_ok fun _ => ?_
  unfold f_heap_up
  refine up_ok (l.length + 1) _ _ _ hh st3.sep (by simp) (by omega) (by simp [most]; omega) fun σ4 st4 h4 => ?_
  exact hQ _ _ (st13.trans (st4.mono (by simp))) h4

theorem cutA_same (a : Option Addr) (c s : Nat) : cutA a 0 c s = a := by
  unfold cutA; split
  · rfl
  · cases a <;> simp
theorem pop_ok {b : Nat} {l : List Nat} {Q : Value → AH → Prop} (h : Heap tag σ b l) (h0 : 0 < l.length) (hl : l.length ≤ most) (hQ : ∀ tag' σ', Step [2, 3] ro tag σ tag' σ' → Heap tag' σ' b (popRest l) → Q (.iface 3 (vN (popTop l))) σ') :
    c_heap_Pop B ro (hv b) σ Q := by
  refine heap_Pop_ok fun hs => ?_
  unfold f_heap_Pop
  have hl' := hl
  simp only [most] at hl
  refine len_ok h hs ⟨_, rfl, ?_⟩
  have e1 : IntKind.i64.wrap ((l.length : Int) - 1) = ((l.length - 1 : Nat) : Int) := by rw [SL.w64_eq (by omega) (by omega)]; omega
  rw [e1]
  refine swap_ok h hs h0 (by omega) (i := 0) (j := l.length - 1) fun σ1 st1 h1 => ⟨rfl, ?_⟩
  refine heap_down_ok fun _ => ?_
  unfold f_heap_down
  refine down_ok (n := l.length - 1) l.length _ 0 _ h1 st1.sep (by rw [swp_length]; exact h0) (by rw [swp_length]; omega) (by omega) (by rw [swp_length]; omega) fun r σ2 st2 h2 => ?_
  rw [dpop]
  show c_judge_least_Pop B ro (some ⟨b, 0, none⟩) σ2 _
  refine judge_least_Pop_ok fun _ => ?_
  change Heap tag σ2 b (sink l) at h2
  obtain ⟨s, r1, r2⟩ := h2
  have hln : s.len = l.length := by rw [r2.len, List.length_map, sink_length]
  obtain ⟨p, hp, _, hg⟩ := Row.at r2 st2.sep (i := l.length - 1) (by rw [sink_length]; omega)
  have hc := Row.one r1 st2.sep
  unfold f_judge_least_Pop
  refine ⟨_, rfl, s, hc, _, rfl, s, hc, p, hp, ?_⟩
  rw [hln, e1]
  have hcap : s.len ≤ s.cap := by
    rcases r2 with ⟨e, _⟩ | ⟨_, _, _, _, _, _, _, h, _⟩
    · rw [e]; exact Nat.le_refl _
    · exact h
  refine ⟨by omega, by omega, popTop l, by simpa [popTop] using hg (l.length - 1) (by rw [sink_length]; omega), _, rfl, s, hc, ⟨⟨by omega, by omega⟩, trivial⟩, _, rfl, ?_⟩
  refine Row.st1 r1 st2.sep rfl fun σ3 st3 r3 => ?_
  rw [cutA_same] at r3
  have hh : Heap tag σ3 b (popRest l) := ⟨_, r3, by simpa [popRest, List.map_take] using (r2.keep st3 (by decide)).take (n := l.length - 1) (by simp [sink_length])⟩
  exact hQ _ _ ((st1.trans st2).mono (by simp) |>.trans (st3.mono (by simp))) hh
end Go.Proofs.Ytoohfcalhlfniaa.Js
