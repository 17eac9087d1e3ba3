/- Memory, on: slices that are only read, appends of many, classes of roles. Generic over any program. -/
import Derived.Test.YthfpmipeejjogaaGreatDoorMapS
namespace Go.Proofs.YthfpmipeejjogaaGreatDoor.SL
open Go
set_option linter.unusedSimpArgs false
set_option linter.unusedVariables false
variable {P : Program} {B : World} {ro σ σ' : AH} {tag tag' : Nat → Nat}

/-- what a slice reads as -/
def Read (ro σ : AH) (s : Sl) (l : List Value) : Prop := s.len = l.length ∧ (s.a = none → l = []) ∧ ∀ p, s.a = some p → ∀ i v, l[i]? = some v → acell ro σ (p.add i) = some v
theorem Row.read {r : Nat} {e : TypeId} {s : Sl} {l : List Value} (h : Row tag σ r e s l) (hs : Sep ro σ) : Read ro σ s l := by
  refine ⟨h.len, fun hn => ?_, fun p hp i v hv => ?_⟩
  · rcases h with ⟨_, h⟩ | ⟨b, cs, ha, _⟩
    · exact h
    · rw [hn] at ha; cases ha
  · have hl : 0 < l.length := by
      rcases Nat.eq_zero_or_pos l.length with h0 | h0
      · rw [List.eq_nil_of_length_eq_zero h0] at hv; cases hv
      · exact h0
    obtain ⟨q, hq, hg⟩ := h.ptr hs hl
    rw [hp] at hq; cases hq
    have := hg i v hv
    rwa [Nat.mul_one] at this
theorem Read.keep {s : Sl} {l : List Value} (h : Read ro (fun _ => none) s l) : Read ro σ s l := by
  refine ⟨h.1, h.2.1, fun p hp i v hv => ?_⟩
  have := h.2.2 p hp i v hv
  unfold acell rd at this ⊢
  cases e : ro (p.add i).block with
  | none => rw [e] at this; simp [cellOf] at this
  | some o => rw [e] at this; exact this

theorem Read.step {s : Sl} {l : List Value} (h : Read ro σ s l) (k : Step [] ro tag σ tag' σ') : Read ro σ' s l := by
  refine ⟨h.1, h.2.1, fun p hp i v hv => ?_⟩
  have := h.2.2 p hp i v hv
  unfold acell rd at this ⊢
  cases e : ro (p.add i).block with
  | some o => rw [e] at this; exact this
  | none =>
    rw [e] at this
    simp only at this ⊢
    cases e2 : σ (p.add i).block with
    | none => rw [e2] at this; simp [cellOf] at this
    | some o => rw [(k.keep _ o e2 (by simp)).2]; rw [e2] at this; exact this
theorem stN_blk {b o : Nat} {e : TypeId} {K : AH → Prop} : ∀ (vs : List Value) (cs : Array Value) (i : Nat) (σ : AH), σ b = some (.cells cs e) → o + i + vs.length ≤ cs.size → (∀ v ∈ vs, storable v = true) →
    (∀ cs' : Array Value, cs'.size = cs.size → (∀ j, j < o + i → cs'[j]? = cs[j]?) → (∀ j v, vs[j]? = some v → cs'[o + i + j]? = some v) → K (upd σ b (.cells cs' e))) → stN ⟨b, o, none⟩ K vs i σ := by
  intro vs
  induction vs with
  | nil =>
    intro cs i σ hb _ _ hK
    have := hK cs rfl (fun _ _ => rfl) (fun j v h => by cases h)
    have e : upd σ b (.cells cs e) = σ := by
      funext c; unfold upd; split
      · rename_i h; rw [h, hb]
      · rfl
    rw [e] at this; exact this
  | cons x vs ih =>
    intro cs i σ hb hsz hst hK
    simp only [List.length_cons] at hsz
    refine ⟨hst x (by simp), by simp, cs, e, (0, 0), ?_, ?_, ?_, ?_⟩
    · simpa using hb
    · simp; omega
    · simp
    · simp only [add_add]
      refine ih _ (i + 1) _ (upd_same _ _ _) (by simp; omega) (fun v hv => hst v (by simp [hv])) fun cs' h1 h2 h3 => ?_
      rw [upd_upd]
      refine hK cs' (by simpa using h1) (fun j hj => ?_) fun j v hj => ?_
      · rw [h2 j (by omega), Array.getElem?_setIfInBounds_ne (by omega)]
      · rcases j with _ | j
        · cases hj
          rw [Nat.add_zero, h2 (o + i) (by omega), Array.getElem?_setIfInBounds_self_of_lt (by omega)]
        · rw [show o + i + (j + 1) = o + (i + 1) + j by omega]; exact h3 j v hj

theorem awp_appendN {r : Nat} {e t : TypeId} {s s2 : Sl} {l l2 : List Value} {zv : Value} {bytes : Nat} {ty : TypeId} {Q : Value → AH → Prop} (h : Row tag σ r e s l) (hs : Sep ro σ) (h2 : Read ro σ s2 l2)
    (ht : P.underlying t = some (.slice e)) (hz : TyIs P e zv 1 bytes) (hzc : zv.cells = #[zv]) (hv : ∀ v ∈ l2, storable v = true) (hb : (l.length + l2.length) * bytes ≤ 140737488355328) (hb0 : 0 < bytes)
    (hK : ∀ s' tag' σ', (∀ R, s.len = s.cap ∨ r ∈ R → Step R ro tag σ tag' σ') → Row tag' σ' r e s' (l ++ l2) → Q (Sl.v s') σ') :
    awp P ro (Builtin.append_ #[t, t] ty #[Sl.v s, Sl.v s2]) Q σ := by
  obtain ⟨i, hi, hiz, his, hib⟩ := hz
  have hz : TyIs P e zv 1 bytes := ⟨i, hi, hiz, his, hib⟩
  have g0 : (#[t, t] : Array TypeId)[0]? = some t := rfl
  have g1 : (#[t, t] : Array TypeId)[1]? = some t := rfl
  have g2 : (#[Value.slice s.a s.len s.cap, Value.slice s2.a s2.len s2.cap] : Array Value)[0]? = some (Value.slice s.a s.len s.cap) := rfl
  have g3 : (#[Value.slice s.a s.len s.cap, Value.slice s2.a s2.len s2.cap] : Array Value)[1]? = some (Value.slice s2.a s2.len s2.cap) := rfl
  have hln := h2.1
  have hld : ∀ {β : Type} (f : Array Value → Sem β) (Q : β → AH → Prop), awp P ro (f l2.toArray) Q σ → awp P ro (Sem.bind (Builtin.firstCells 1 s2.len (.slice s2.a s2.len s2.cap)) f) Q σ := by
    intro β f Q hf
    cases hsa : s2.a with
    | none =>
      rw [h2.2.1 hsa] at hf
      exact hf
    | some p =>
      rw [show Sem.bind (Builtin.firstCells 1 s2.len (.slice (some p) s2.len s2.cap)) f = (loadCells p (s2.len * 1)) >>= f from rfl, awp_bind, Nat.mul_one, hln]
      exact awp_loadCells l2 0 #[] (cellsAt_of 0 fun j v hj => by rw [Nat.zero_add]; exact h2.2.2 p hsa j v hj) (by simpa using hf)
  unfold Builtin.append_
  simp only [Sl.v, bind_def, pure_def, g0, g1, g2, g3]
  rw [awp_underlying ht]
  simp only []
  rw [awp_size hz]
  rw [awp_underlying ht]
  simp only [bind_pure', Builtin.lenOf, bind_def, pure_def, Bool.false_eq_true, if_false, Bool.not_false, if_true, false_or]
  split
  · rename_i hroom
    refine hld _ _ ?_
    rcases h with ⟨rfl, rfl⟩ | ⟨b, cs, ha, htg, hbk, hln1, hcp, hle, hg⟩
    · have h0 : l2 = [] := List.eq_nil_of_length_eq_zero (by simp at hroom; omega)
      subst h0
      have hs2 : s2.len = 0 := hln
      show Q (.slice none (0 + s2.len) 0) σ
      rw [hs2]
      exact hK ⟨none, 0, 0⟩ tag σ (fun _ _ => Step.refl hs) (.inl ⟨rfl, rfl⟩)
    · have h' : Row tag σ r e s l := .inr ⟨b, cs, ha, htg, hbk, hln1, hcp, hle, hg⟩
      by_cases h0 : l2 = []
      · subst h0
        have hs2 : s2.len = 0 := hln
        simp only [ha]
        show Q (Value.slice (some ⟨b, 0, none⟩) (s.len + s2.len) s.cap) σ
        rw [hs2, Nat.add_zero]
        have := hK s tag σ (fun _ _ => Step.refl hs) (by rw [List.append_nil]; exact h')
        unfold Sl.v at this
        rw [ha] at this; exact this
      have hpos := List.length_pos_iff.2 h0
      simp only [ha]
      show awp P ro (storeCells (Addr.add ⟨b, 0, none⟩ (s.len * 1)) l2 >>= fun _ => Sem.pure (Value.slice (some ⟨b, 0, none⟩) (s.len + s2.len) s.cap)) Q σ
      rw [awp_bind, add_add, Nat.mul_one, Nat.zero_add]
      refine awp_storeCells l2 0 σ (stN_blk l2 cs 0 σ hbk (by omega) hv fun cs' c1 c2 c3 => ?_)
      show Q (Value.slice (some ⟨b, 0, none⟩) (s.len + s2.len) s.cap) _
      refine hK ⟨some ⟨b, 0, none⟩, s.len + s2.len, s.cap⟩ tag _ (fun R hR => (step_obj hs htg hbk).mono fun x hx => by rw [List.mem_singleton] at hx; rw [hx]; exact hR.resolve_left (by omega)) (.inr ⟨b, cs', rfl, htg, upd_same _ _ _, by simp [hln1, hln], by rw [c1]; exact hcp, hroom, fun i hi => ?_⟩)
      simp at hi
      rcases Nat.lt_or_ge i l.length with hh | hh
      · rw [c2 i (by omega), List.getElem?_append_left hh]; exact hg i hh
      · rw [List.getElem?_append_right hh]
        have := c3 (i - l.length) _ (List.getElem?_eq_getElem (by omega))
        rw [List.getElem?_eq_getElem (by omega), ← this]
        congr 1; omega
  · rename_i hroom
    rw [awp_typeInfo hi]
    rw [if_neg (by rw [hib]; omega)]
    rw [awp_typeInfo hi]
    have hl := h.len
    rw [if_neg (by rw [hib]; have := growslice_fits (need := s.len + s2.len) (old := s.cap) (bytes := bytes) (by omega) (by rw [hl, hln]; exact hb); omega)]
    refine awp_choose rfl (fun n => ?_)
    rw [awp_typeInfo hi]
    refine awp_askRoom ?_
    have hcut : s.len + s2.len ≤ (Question.appendCap (s.len + s2.len) s.cap e).cut n := by simp only [Question.cut]; omega
    generalize (Question.appendCap (s.len + s2.len) s.cap e).cut n = N at hcut
    refine awp_first h hs ?_
    refine hld _ _ ?_
    rw [awp_zero hz]
    rw [hzc]
    show ∀ b, ro b = none → σ b = none → Q (Value.slice (some ⟨b, 0, none⟩) (s.len + s2.len) N) (upd σ b _)
    intro b hro hb
    refine hK ⟨some ⟨b, 0, none⟩, s.len + s2.len, N⟩ (setTag tag b r) _ (fun _ _ => Step.fresh hs hro hb) (.inr ⟨b, _, rfl, by simp [setTag], upd_same _ _ _, by simp [hl, hln], ?_, hcut, fun i hi => ?_⟩)
    · simp [Builtin.zeroCells]; omega
    · simp at hi
      rw [Array.getElem?_append_left (by simp; omega)]
      simp

/-- new memory whose role its own number tells -/
theorem nw_cellsF (r : Nat → Nat) {e : TypeId} {cs : Array Value} {K : Nat → AH → Prop} (hs : Sep ro σ)
    (hK : ∀ b tag' σ', ro b = none → σ b = none → (∀ R, Step R ro tag σ tag' σ') → Row tag' σ' (r b) e ⟨some ⟨b, 0, none⟩, cs.size, cs.size⟩ cs.toList → K b σ') : nw ro σ (.cells cs e) K := by
  intro b hro hb
  exact hK b (setTag tag b (r b)) _ hro hb (fun R => Step.fresh hs hro hb) (.inr ⟨b, _, rfl, by simp [setTag], upd_same _ _ _, by simp, rfl, Nat.le_refl _, fun i hi => by simp⟩)

/-- only roles of one class change -/
def StepC (c : Nat) (ro : AH) (tag : Nat → Nat) (σ : AH) (tag' : Nat → Nat) (σ' : AH) : Prop := ∃ R : List Nat, (∀ x ∈ R, x % 64 = c) ∧ Step R ro tag σ tag' σ'
theorem Step.c {c : Nat} {R : List Nat} (h : Step R ro tag σ tag' σ') (hR : ∀ x ∈ R, x % 64 = c) : StepC c ro tag σ tag' σ' := ⟨R, hR, h⟩
theorem StepC.sep {c : Nat} (h : StepC c ro tag σ tag' σ') : Sep ro σ' := by obtain ⟨_, _, h⟩ := h; exact h.sep
theorem StepC.trans {c : Nat} {tag'' : Nat → Nat} {σ'' : AH} (h : StepC c ro tag σ tag' σ') (k : StepC c ro tag' σ' tag'' σ'') : StepC c ro tag σ tag'' σ'' := by
  obtain ⟨R, h1, h2⟩ := h
  obtain ⟨R', k1, k2⟩ := k
  refine ⟨R ++ R', fun x hx => ?_, (h2.mono fun r hr => by simp [hr]).trans (k2.mono fun r hr => by simp [hr])⟩
  rcases List.mem_append.1 hx with h | h
  · exact h1 x h
  · exact k1 x h
theorem StepC.refl {c : Nat} (h : Sep ro σ) : StepC c ro tag σ tag σ := ⟨[], by simp, Step.refl h⟩
theorem Row.keepC {c r : Nat} {e : TypeId} {s : Sl} {l : List Value} (h : Row tag σ r e s l) (k : StepC c ro tag σ tag' σ') (hr : r % 64 ≠ c) : Row tag' σ' r e s l := by
  obtain ⟨R, h1, h2⟩ := k
  exact h.keep h2 fun m => hr (h1 _ m)
theorem MapIs.keepC {c r b : Nat} {m : KV} (h : MapIs tag σ r b m) (k : StepC c ro tag σ tag' σ') (hr : r % 64 ≠ c) : MapIs tag' σ' r b m := by
  obtain ⟨R, h1, h2⟩ := k
  exact h.keep h2 fun m => hr (h1 _ m)

/-! with one block lent, all reads as before -/
theorem rd_lent (b c : Nat) : rd (join ro (one σ b)) (SL.del σ b) c = rd ro σ c := by
  unfold rd join one SL.del
  cases h : ro c with
  | some o => rfl
  | none =>
    by_cases e : c = b
    · subst e; simp only [if_true]; cases σ c <;> rfl
    · simp [e]
theorem Read.lent {s : Sl} {l : List Value} (b : Nat) (h : Read ro σ s l) : Read (join ro (one σ b)) (SL.del σ b) s l :=
  ⟨h.1, h.2.1, fun p hp i v hv => by have := h.2.2 p hp i v hv; unfold acell at this ⊢; rw [rd_lent]; exact this⟩
theorem MapIs.del {r b c : Nat} {m : KV} (h : MapIs tag σ r b m) (hc : tag c ≠ r) : MapIs tag (SL.del σ c) r b m := by
  obtain ⟨es, k, hb, hx⟩ := h.obj
  refine ⟨h.tg, es, k, ?_, hx⟩
  have : b ≠ c := fun e => hc (by rw [← e]; exact h.tg)
  unfold SL.del; rw [if_neg this]; exact hb
theorem MapIs.back {r b c r' : Nat} {m : KV} {τ : AH} (h : MapIs tag' τ r b m) (hd : Disj (one σ c) τ) (hb : ∃ o, σ c = some o) : MapIs (setTag tag' c r') (join (one σ c) τ) r b m := by
  obtain ⟨es, k, hs, hx⟩ := h.obj
  have hcb : b ≠ c := fun e => by
    obtain ⟨o, ho⟩ := hb
    have := hd c o (by unfold one; rw [if_pos rfl]; exact ho)
    rw [← e, hs] at this; cases this
  exact ⟨by unfold setTag; rw [if_neg hcb]; exact h.tg, es, k, by unfold join one; rw [if_neg hcb]; exact hs, hx⟩

/-- all cells of a row anew -/
theorem Row.stAll {r : Nat} {e : TypeId} {b n c : Nat} {l vs : List Value} {K : AH → Prop} (h : Row tag σ r e ⟨some ⟨b, 0, none⟩, n, c⟩ l) (hs : Sep ro σ) (hl : vs.length = l.length) (hv : ∀ v ∈ vs, storable v = true)
    (hK : ∀ σ', Step [r] ro tag σ tag σ' → Row tag σ' r e ⟨some ⟨b, 0, none⟩, n, c⟩ vs → K σ') : stN ⟨b, 0, none⟩ K vs 0 σ := by
  rcases h with ⟨h, _⟩ | ⟨b', cs, ha, ht, hb, hln, hc, hle, hg⟩
  · cases h
  · cases ha
    refine stN_blk vs cs 0 σ hb (by simp at hln hc hle; omega) hv fun cs' c1 _ c3 => ?_
    refine hK _ (step_obj hs ht hb) (.inr ⟨b, cs', rfl, ht, upd_same _ _ _, by rw [hl]; exact hln, by rw [c1]; exact hc, hle, fun i hi => ?_⟩)
    have := c3 i _ (List.getElem?_eq_getElem hi)
    rw [List.getElem?_eq_getElem hi, ← this]; congr 1; omega
end Go.Proofs.YthfpmipeejjogaaGreatDoor.SL
