/- Mem3, Mem4, GBuf, BuA -/
import Derived.Test.YthfpmipeejjogaaGreatDoorXI
/- Rows whose elements take several cells. Generic over any program. -/
namespace Go.Proofs.YthfpmipeejjogaaGreatDoor.SL
open Go
set_option linter.unusedVariables false
set_option linter.unusedSimpArgs false
variable {P : Program} {B : World} {ro σ σ' : AH} {tag tag' : Nat → Nat}

theorem flat_len {w : Nat} : ∀ {l : List (List Value)}, (∀ x ∈ l, x.length = w) → l.flatten.length = l.length * w := by
  intro l
  induction l with
  | nil => intro _; simp
  | cons x l ih => intro h; rw [List.flatten_cons, List.length_append, h x (by simp), ih fun y hy => h y (by simp [hy]), List.length_cons, Nat.add_mul]; omega
theorem flat_get {w : Nat} : ∀ {l : List (List Value)}, (∀ x ∈ l, x.length = w) → ∀ {j : Nat} {x : List Value} {i : Nat}, l[j]? = some x → i < w → l.flatten[j * w + i]? = x[i]? := by
  intro l
  induction l with
  | nil => intro _ j x i h; cases h
  | cons y l ih =>
    intro h j x i hj hi
    rw [List.flatten_cons]
    have hy := h y (by simp)
    rcases j with _ | j
    · cases hj
      rw [Nat.zero_mul, Nat.zero_add, List.getElem?_append_left (by omega)]
    · rw [List.getElem?_append_right (by rw [hy, Nat.add_mul]; omega), hy, show (j + 1) * w + i - w = j * w + i by rw [Nat.add_mul]; omega]
      exact ih (fun z hz => h z (by simp [hz])) (by simpa using hj) hi
theorem flat_set {w : Nat} : ∀ {l : List (List Value)}, (∀ x ∈ l, x.length = w) → ∀ {j : Nat} {x : List Value} {i : Nat} (v : Value), l[j]? = some x → i < w → l.flatten.set (j * w + i) v = (l.set j (x.set i v)).flatten := by
  intro l
  induction l with
  | nil => intro _ j x i v h; cases h
  | cons y l ih =>
    intro h j x i v hj hi
    have hy := h y (by simp)
    rcases j with _ | j
    · cases hj
      rw [List.flatten_cons, Nat.zero_mul, Nat.zero_add, List.set_append_left _ _ (by omega)]; rfl
    · rw [List.flatten_cons, List.set_append_right _ _ (by rw [hy, Nat.add_mul]; omega), hy, show (j + 1) * w + i - w = j * w + i by rw [Nat.add_mul]; omega, ih (fun z hz => h z (by simp [hz])) v (by simpa using hj) hi]
      rfl

/-- a row of elements of w cells each, of one role -/
def RowW (tag : Nat → Nat) (σ : AH) (r : Nat) (e : TypeId) (w : Nat) (s : Sl) (l : List (List Value)) : Prop :=
  (s = ⟨none, 0, 0⟩ ∧ l = []) ∨ ∃ (b : Nat) (cs : Array Value), s.a = some ⟨b, 0, none⟩ ∧ tag b = r ∧ σ b = some (.cells cs e) ∧ s.len = l.length ∧ cs.size = s.cap * w ∧ s.len ≤ s.cap ∧ (∀ x ∈ l, x.length = w) ∧ ∀ (i : Nat) (v : Value), l.flatten[i]? = some v → cs[i]? = some v
theorem RowW.nil (r : Nat) (e : TypeId) (w : Nat) : RowW tag σ r e w ⟨none, 0, 0⟩ [] := .inl ⟨rfl, rfl⟩
theorem RowW.len {r : Nat} {e : TypeId} {w : Nat} {s : Sl} {l : List (List Value)} (h : RowW tag σ r e w s l) : s.len = l.length := by
  rcases h with ⟨rfl, rfl⟩ | ⟨b, cs, _, _, _, h, _⟩
  · rfl
  · exact h
theorem RowW.cap {r : Nat} {e : TypeId} {w : Nat} {s : Sl} {l : List (List Value)} (h : RowW tag σ r e w s l) : s.len ≤ s.cap := by
  rcases h with ⟨rfl, rfl⟩ | ⟨b, cs, _, _, _, _, _, h, _⟩
  · exact Nat.le_refl _
  · exact h
theorem RowW.wide {r : Nat} {e : TypeId} {w : Nat} {s : Sl} {l : List (List Value)} (h : RowW tag σ r e w s l) : ∀ x ∈ l, x.length = w := by
  rcases h with ⟨rfl, rfl⟩ | ⟨b, cs, _, _, _, _, _, _, h, _⟩
  · intro x hx; cases hx
  · exact h
theorem RowW.keep {R : List Nat} {r : Nat} {e : TypeId} {w : Nat} {s : Sl} {l : List (List Value)} (h : RowW tag σ r e w s l) (k : Step R ro tag σ tag' σ') (hr : r ∉ R) : RowW tag' σ' r e w s l := by
  rcases h with h | ⟨b, cs, ha, ht, hs, hx⟩
  · exact .inl h
  · obtain ⟨t, e⟩ := k.keep b _ hs (by rw [ht]; exact hr)
    exact .inr ⟨b, cs, ha, t.trans ht, e, hx⟩
theorem RowW.keepC {c r : Nat} {e : TypeId} {w : Nat} {s : Sl} {l : List (List Value)} (h : RowW tag σ r e w s l) (k : StepC c ro tag σ tag' σ') (hr : r % 64 ≠ c) : RowW tag' σ' r e w s l := by
  obtain ⟨R, h1, h2⟩ := k
  exact h.keep h2 fun m => hr (h1 _ m)
/-- what stands in an element -/
theorem RowW.get {r : Nat} {e : TypeId} {w : Nat} {s : Sl} {l : List (List Value)} (h : RowW tag σ r e w s l) (hs : Sep ro σ) {j : Nat} {x : List Value} (hj : l[j]? = some x) :
    ∃ b, s.a = some ⟨b, 0, none⟩ ∧ tag b = r ∧ ∀ i v, x[i]? = some v → acell ro σ ⟨b, j * w + i, none⟩ = some v := by
  rcases h with ⟨_, rfl⟩ | ⟨b, cs, ha, ht, hb, hln, hc, hle, hw, hg⟩
  · cases hj
  · refine ⟨b, ha, ht, fun i v hv => ?_⟩
    have hx : x.length = w := hw x (List.mem_of_getElem? hj)
    have hi : i < w := by
      rcases Nat.lt_or_ge i w with h | h
      · exact h
      · rw [List.getElem?_eq_none (by omega)] at hv; cases hv
    have := hg (j * w + i) v (by rw [flat_get hw hj hi]; exact hv)
    unfold acell rd
    simp only [hs b _ hb, hb, cellOf]
    exact this
theorem RowW.block {r : Nat} {e : TypeId} {w : Nat} {b n c : Nat} {l : List (List Value)} (h : RowW tag σ r e w ⟨some ⟨b, 0, none⟩, n, c⟩ l) : tag b = r ∧ ∃ cs, σ b = some (.cells cs e) ∧ cs.size = c * w := by
  rcases h with ⟨h, _⟩ | ⟨b', cs, ha, ht, hb, _, hc, _⟩
  · cases h
  · cases ha; exact ⟨ht, cs, hb, hc⟩
/-- a cell of an element anew -/
theorem RowW.st {r : Nat} {e : TypeId} {w : Nat} {s : Sl} {l : List (List Value)} {b j i : Nat} {x : List Value} {v : Value} {K : AH → Prop} (h : RowW tag σ r e w s l) (hs : Sep ro σ) (ha : s.a = some ⟨b, 0, none⟩) (hj : l[j]? = some x) (hi : i < w) (hv : storable v = true)
    (hK : ∀ σ', Step [r] ro tag σ tag σ' → RowW tag σ' r e w s (l.set j (x.set i v)) → K σ') : stN ⟨b, j * w + i, none⟩ K [v] 0 σ := by
  rcases h with ⟨_, rfl⟩ | ⟨b', cs, ha', ht, hb, hln, hc, hle, hw, hg⟩
  · cases hj
  · rw [ha] at ha'; cases ha'
    have hjl : j < l.length := by
      rcases Nat.lt_or_ge j l.length with h | h
      · exact h
      · rw [List.getElem?_eq_none h] at hj; cases hj
    have hlt : j * w + i < cs.size := by
      rw [hc]
      have : (j + 1) * w ≤ s.cap * w := Nat.mul_le_mul_right _ (by omega)
      rw [Nat.add_mul] at this; omega
    have hfl := flat_len hw
    have hfi : j * w + i < l.flatten.length := by
      rw [hfl]
      have : (j + 1) * w ≤ l.length * w := Nat.mul_le_mul_right _ (by omega)
      rw [Nat.add_mul] at this; omega
    refine ⟨hv, by simp, cs, e, (0, 0), by simpa using hb, by simpa using hlt, by simp, ?_⟩
    simp only [add_zero, stN]
    refine hK _ (step_obj hs ht hb) (.inr ⟨b, _, ha, ht, upd_same _ _ _, by simp [hln], by simp [hc], hle, ?_, ?_⟩)
    · intro y hy
      rcases List.mem_or_eq_of_mem_set hy with h | h
      · exact hw y h
      · rw [h, List.length_set]; exact hw x (List.mem_of_getElem? hj)
    · intro k u hk
      rw [← flat_set hw v hj hi] at hk
      by_cases hkj : j * w + i = k
      · subst hkj
        rw [List.getElem?_set_self hfi] at hk
        rw [Array.getElem?_setIfInBounds_self_of_lt hlt]; exact hk
      · rw [List.getElem?_set_ne hkj] at hk
        rw [Array.getElem?_setIfInBounds_ne hkj]; exact hg k u hk

/-- elements of w cells in memory, wherever -/
def ReadW (ro σ : AH) (w : Nat) (s : Sl) (l : List (List Value)) : Prop := s.len = l.length ∧ (s.a = none → l = []) ∧ (∀ x ∈ l, x.length = w) ∧ ∀ p, s.a = some p → ∀ (i : Nat) (v : Value), l.flatten[i]? = some v → acell ro σ (p.add i) = some v
theorem RowW.read {r : Nat} {e : TypeId} {w : Nat} {s : Sl} {l : List (List Value)} (h : RowW tag σ r e w s l) (hs : Sep ro σ) : ReadW ro σ w s l := by
  refine ⟨h.len, fun hn => ?_, h.wide, fun p hp i v hv => ?_⟩
  · rcases h with ⟨_, rfl⟩ | ⟨b, cs, ha, _⟩
    · rfl
    · rw [hn] at ha; cases ha
  · rcases h with ⟨_, rfl⟩ | ⟨b, cs, ha, ht, hb, _, _, _, _, hg⟩
    · cases hv
    · rw [hp] at ha; cases ha
      unfold acell rd
      simp only [add_add, Nat.zero_add, hs b _ hb, hb, cellOf]
      exact hg i v hv
theorem ReadW.flat {w : Nat} {s : Sl} {l : List (List Value)} (h : ReadW ro σ w s l) : l.flatten.length = s.len * w := by rw [flat_len h.2.2.1, h.1]
theorem ReadW.keep {w : Nat} {s : Sl} {l : List (List Value)} (h : ReadW ro (fun _ => none) w s l) : ReadW ro σ w s l := by
  refine ⟨h.1, h.2.1, h.2.2.1, fun p hp i v hv => ?_⟩
  have := h.2.2.2 p hp i v hv
  unfold acell rd at this ⊢
  cases e : ro (p.add i).block with
  | some o => rw [e] at this; exact this
  | none => rw [e] at this; simp [cellOf] at this
theorem ReadW.step {w : Nat} {s : Sl} {l : List (List Value)} (h : ReadW ro σ w s l) (k : Step [] ro tag σ tag' σ') : ReadW ro σ' w s l := by
  refine ⟨h.1, h.2.1, h.2.2.1, fun p hp i v hv => ?_⟩
  have := h.2.2.2 p hp i v hv
  unfold acell rd at this ⊢
  cases e : ro (p.add i).block with
  | some o => rw [e] at this; exact this
  | none =>
    rw [e] at this
    simp only at this ⊢
    cases e2 : σ (p.add i).block with
    | none => rw [e2] at this; simp [cellOf] at this
    | some o => rw [(k.keep _ o e2 (by simp)).2]; rw [e2] at this; exact this

theorem awp_appendW {r : Nat} {e t : TypeId} {w : Nat} {s s2 : Sl} {l l2 : List (List Value)} {zv : Value} {bytes : Nat} {ty : TypeId} {Q : Value → AH → Prop} (h : RowW tag σ r e w s l) (hs : Sep ro σ) (h2 : ReadW ro σ w s2 l2)
    (ht : P.underlying t = some (.slice e)) (hz : TyIs P e zv w bytes) (hzc : zv.cells.size = w) (hv : ∀ x ∈ l2, ∀ v ∈ x, storable v = true) (hb : (l.length + l2.length) * bytes ≤ 140737488355328) (hb0 : 0 < bytes)
    (hK : ∀ s' tag' σ', (∀ R, s.len = s.cap ∨ r ∈ R → Step R ro tag σ tag' σ') → RowW tag' σ' r e w s' (l ++ l2) → Q (Sl.v s') σ') :
    awp P ro (Builtin.append_ #[t, t] ty #[Sl.v s, Sl.v s2]) Q σ := by
  obtain ⟨i, hi, hiz, his, hib⟩ := hz
  have hz : TyIs P e zv w bytes := ⟨i, hi, hiz, his, hib⟩
  have g0 : (#[t, t] : Array TypeId)[0]? = some t := rfl
  have g1 : (#[t, t] : Array TypeId)[1]? = some t := rfl
  have g2 : (#[Value.slice s.a s.len s.cap, Value.slice s2.a s2.len s2.cap] : Array Value)[0]? = some (Value.slice s.a s.len s.cap) := rfl
  have g3 : (#[Value.slice s.a s.len s.cap, Value.slice s2.a s2.len s2.cap] : Array Value)[1]? = some (Value.slice s2.a s2.len s2.cap) := rfl
  have hln := h2.1
  have hfl2 := h2.flat
  have hvf : ∀ v ∈ l2.flatten, storable v = true := fun v hm => by
    obtain ⟨x, hx, hm⟩ := List.mem_flatten.1 hm
    exact hv x hx v hm
  have hld : ∀ {β : Type} (f : Array Value → Sem β) (Q : β → AH → Prop), awp P ro (f l2.flatten.toArray) Q σ → awp P ro (Sem.bind (Builtin.firstCells w s2.len (.slice s2.a s2.len s2.cap)) f) Q σ := by
    intro β f Q hf
    cases hsa : s2.a with
    | none =>
      rw [h2.2.1 hsa] at hf
      exact hf
    | some p =>
      rw [show Sem.bind (Builtin.firstCells w s2.len (.slice (some p) s2.len s2.cap)) f = (loadCells p (s2.len * w)) >>= f from rfl, awp_bind, ← hfl2]
      exact awp_loadCells l2.flatten 0 #[] (cellsAt_of 0 fun j v hj => by rw [Nat.zero_add]; exact h2.2.2.2 p hsa j v hj) (by simpa using hf)
  have hfs : ∀ {β : Type} (f : Array Value → Sem β) (Q : β → AH → Prop), awp P ro (f l.flatten.toArray) Q σ → awp P ro (Sem.bind (Builtin.firstCells w s.len (.slice s.a s.len s.cap)) f) Q σ := by
    intro β f Q hf
    have hr := h.read hs
    cases hsa : s.a with
    | none =>
      rw [hr.2.1 hsa] at hf
      exact hf
    | some p =>
      rw [show Sem.bind (Builtin.firstCells w s.len (.slice (some p) s.len s.cap)) f = (loadCells p (s.len * w)) >>= f from rfl, awp_bind, ← hr.flat]
      exact awp_loadCells l.flatten 0 #[] (cellsAt_of 0 fun j v hj => by rw [Nat.zero_add]; exact hr.2.2.2 p hsa j v hj) (by simpa using hf)
  have hwide : ∀ x ∈ l ++ l2, x.length = w := fun x hx => by
    rcases List.mem_append.1 hx with h' | h'
    · exact h.wide x h'
    · exact h2.2.2.1 x h'
  have hfl := flat_len h.wide
  unfold Builtin.append_
  simp only [Sl.v, bind_def, pure_def, g0, g1, g2, g3]
  rw [awp_underlying ht]
  simp only []
  rw [awp_size hz]
  rw [awp_underlying ht]
  simp only [bind_pure', Builtin.lenOf, bind_def, pure_def, Bool.false_eq_true, if_false, Bool.not_false, if_true, false_or]
  split
  · rename_i hroom
    refine hld _ _ ?_
    rcases h with ⟨rfl, rfl⟩ | ⟨b, cs, ha, htg, hbk, hln1, hcp, hle, hwl, hg⟩
    · have h0 : l2 = [] := List.eq_nil_of_length_eq_zero (by simp at hroom; omega)
      subst h0
      have hs2 : s2.len = 0 := hln
      show Q (.slice none (0 + s2.len) 0) σ
      rw [hs2]
      exact hK ⟨none, 0, 0⟩ tag σ (fun _ _ => Step.refl hs) (.inl ⟨rfl, rfl⟩)
    · have h' : RowW tag σ r e w s l := .inr ⟨b, cs, ha, htg, hbk, hln1, hcp, hle, hwl, hg⟩
      by_cases h0 : l2 = []
      · subst h0
        have hs2 : s2.len = 0 := hln
        simp only [ha]
        show Q (Value.slice (some ⟨b, 0, none⟩) (s.len + s2.len) s.cap) σ
        rw [hs2, Nat.add_zero]
        have := hK s tag σ (fun _ _ => Step.refl hs) (by rw [List.append_nil]; exact h')
        unfold Sl.v at this
        rw [ha] at this; exact this
      have hpos := List.length_pos_iff.2 h0
      simp only [ha]
      show awp P ro (storeCells (Addr.add ⟨b, 0, none⟩ (s.len * w)) l2.flatten >>= fun _ => Sem.pure (Value.slice (some ⟨b, 0, none⟩) (s.len + s2.len) s.cap)) Q σ
      rw [awp_bind, add_add, Nat.zero_add]
      have hcm : (s.len + s2.len) * w ≤ s.cap * w := Nat.mul_le_mul_right _ hroom
      rw [Nat.add_mul] at hcm
      refine awp_storeCells l2.flatten 0 σ (stN_blk l2.flatten cs 0 σ hbk (by rw [hcp, hfl2]; omega) hvf fun cs' c1 c2 c3 => ?_)
      show Q (Value.slice (some ⟨b, 0, none⟩) (s.len + s2.len) s.cap) _
      refine hK ⟨some ⟨b, 0, none⟩, s.len + s2.len, s.cap⟩ tag _ (fun R hR => (step_obj hs htg hbk).mono fun x hx => by rw [List.mem_singleton] at hx; rw [hx]; exact hR.resolve_left (by omega)) (.inr ⟨b, cs', rfl, htg, upd_same _ _ _, by simp [hln1, hln], by rw [c1]; exact hcp, hroom, hwide, fun i v hi => ?_⟩)
      rw [List.flatten_append] at hi
      rcases Nat.lt_or_ge i l.flatten.length with hh | hh
      · rw [List.getElem?_append_left hh] at hi
        rw [c2 i (by rw [hfl, ← hln1] at hh; omega)]; exact hg i v hi
      · rw [List.getElem?_append_right hh] at hi
        have := c3 (i - l.flatten.length) v hi
        rw [← this]
        congr 1; rw [hfl, ← hln1] at hh ⊢; omega
  · rename_i hroom
    rw [awp_typeInfo hi]
    rw [if_neg (by rw [hib]; omega)]
    rw [awp_typeInfo hi]
    have hl := h.len
    rw [if_neg (by rw [hib]; have := growslice_fits (need := s.len + s2.len) (old := s.cap) (bytes := bytes) (by omega) (by rw [hl, hln]; exact hb); omega)]
    refine awp_choose rfl (fun n => ?_)
    rw [awp_typeInfo hi]
    refine awp_askRoom ?_
    have hcut : s.len + s2.len ≤ (Question.appendCap (s.len + s2.len) s.cap e).cut n := by simp only [Question.cut]; omega
    generalize (Question.appendCap (s.len + s2.len) s.cap e).cut n = N at hcut
    refine hfs _ _ ?_
    refine hld _ _ ?_
    rw [awp_zero hz]
    show ∀ b, ro b = none → σ b = none → Q (Value.slice (some ⟨b, 0, none⟩) (s.len + s2.len) N) (upd σ b _)
    intro b hro hb
    refine hK ⟨some ⟨b, 0, none⟩, s.len + s2.len, N⟩ (setTag tag b r) _ (fun _ _ => Step.fresh hs hro hb) (.inr ⟨b, _, rfl, by simp [setTag], upd_same _ _ _, by simp [hl, hln], ?_, hcut, hwide, fun i v hi => ?_⟩)
    · have e1 : (Builtin.zeroCells zv.cells (N - (s.len + s2.len))).size = (N - (s.len + s2.len)) * w := by simp [Builtin.zeroCells, hzc]
      rw [Array.size_append, Array.size_append, e1, List.size_toArray, List.size_toArray, hfl2, hfl, ← hl, ← Nat.add_mul, ← Nat.add_mul]
      congr 1; simp only; omega
    · rw [List.flatten_append] at hi
      have hlt : i < (l.flatten ++ l2.flatten).length := by
        rcases Nat.lt_or_ge i (l.flatten ++ l2.flatten).length with h | h
        · exact h
        · rw [List.getElem?_eq_none h] at hi; cases hi
      rw [Array.getElem?_append_left (by simpa using hlt)]
      simpa using hi
end Go.Proofs.YthfpmipeejjogaaGreatDoor.SL

/- Builtin copy, cap; a row that is made longer in its own room. Generic over any program. -/
namespace Go.Proofs.YthfpmipeejjogaaGreatDoor.SL
open Go
set_option linter.unusedVariables false
set_option linter.unusedSimpArgs false
variable {P : Program} {B : World} {ro σ σ' : AH} {tag tag' : Nat → Nat}

theorem awp_cap {t e ty : TypeId} {s : Sl} {Q : Value → AH → Prop} (ht : P.underlying t = some (.slice e)) (h : Q (.int .i64 (s.cap : Int)) σ) : awp P ro (Builtin.cap_ #[t] ty #[Sl.v s]) Q σ := by
  have g0 : (#[t] : Array TypeId)[0]? = some t := rfl
  have g1 : (#[Value.slice s.a s.len s.cap] : Array Value)[0]? = some (Value.slice s.a s.len s.cap) := rfl
  unfold Builtin.cap_
  simp only [Sl.v, bind_def, pure_def, g0, g1]
  rw [awp_underlying ht]
  exact h
/-- what copy and append read -/
structure Src (P : Program) (ro σ : AH) (x : Value) (l : List Value) : Prop where
  len : ∀ {β : Type} (f : Nat → Sem β) (Q : β → AH → Prop), awp P ro (f l.length) Q σ → awp P ro (Sem.bind (Builtin.lenOf x) f) Q σ
  cells : ∀ {β : Type} (f : Array Value → Sem β) (Q : β → AH → Prop), awp P ro (f l.toArray) Q σ → awp P ro (Sem.bind (Builtin.firstCells 1 l.length x) f) Q σ
theorem Read.src {s : Sl} {l : List Value} (h : Read ro σ s l) : Src P ro σ (Sl.v s) l := by
  refine ⟨fun f Q hf => ?_, fun f Q hf => ?_⟩
  · rw [← h.1] at hf; exact hf
  · unfold Sl.v
    cases hsa : s.a with
    | none =>
      rw [h.2.1 hsa] at hf ⊢
      exact hf
    | some p =>
      rw [show Sem.bind (Builtin.firstCells 1 l.length (.slice (some p) s.len s.cap)) f = (loadCells p (l.length * 1)) >>= f from rfl, awp_bind, Nat.mul_one]
      exact awp_loadCells l 0 #[] (cellsAt_of 0 fun j v hj => by rw [Nat.zero_add]; exact h.2.2 p hsa j v hj) (by simpa using hf)
theorem str_src (b : ByteArray) : Src P ro σ (.string b) ((L b).map fun c => .int .u8 c.toNat) := by
  refine ⟨fun f Q hf => ?_, fun f Q hf => ?_⟩
  · rw [List.length_map, L_len] at hf; exact hf
  · rw [List.length_map, L_len]
    show awp P ro (f ((b.extract 0 b.size).data.map fun c => .int .u8 c.toNat)) Q σ
    rw [show b.extract 0 b.size = b from by rw [S_ext, List.take_of_length_le (by rw [L_len]; exact Nat.le_refl _)]; exact S_L b]
    have e : ((L b).map fun c => Value.int .u8 c.toNat).toArray = b.data.map fun c => .int .u8 c.toNat := by unfold L; rw [← Array.toList_map]
    rw [← e]; exact hf
/-- copy into the end of a row, filling it -/
theorem awp_copyTail {r e t t2 ty : TypeId} {s : Sl} {l l2 : List Value} {m bytes : Nat} {x zv : Value} {Q : Value → AH → Prop} (h : Row tag σ r e s l) (hs : Sep ro σ) (ht : P.underlying t = some (.slice e)) (hz : TyIs P e zv 1 bytes)
    (hx : Src P ro σ x l2) (hm : m + l2.length = l.length) (hv : ∀ v ∈ l2, storable v = true) (hQ : ∀ σ', Step [r] ro tag σ tag σ' → Row tag σ' r e s (l.take m ++ l2) → Q (.int .i64 (l2.length : Int)) σ') :
    awp P ro (Builtin.copy_ #[t, t2] ty #[Sl.v (⟨cutA s.a m s.cap 1, s.len - m, s.cap - m⟩ : Sl), x]) Q σ := by
  have g0 : (#[t, t2] : Array TypeId)[0]? = some t := rfl
  have g1 : (#[Value.slice (cutA s.a m s.cap 1) (s.len - m) (s.cap - m), x] : Array Value)[0]? = some (Value.slice (cutA s.a m s.cap 1) (s.len - m) (s.cap - m)) := rfl
  have g2 : (#[Value.slice (cutA s.a m s.cap 1) (s.len - m) (s.cap - m), x] : Array Value)[1]? = some x := rfl
  have hl := h.len
  unfold Builtin.copy_
  simp only [Sl.v, bind_def, pure_def, g0, g1, g2]
  rw [awp_underlying ht]
  simp only []
  refine hx.len _ _ ?_
  rw [awp_size hz]
  rw [show Nat.min l2.length (s.len - m) = l2.length from Nat.min_eq_left (by omega)]
  refine hx.cells _ _ ?_
  have done : l2 = [] → Q (.int .i64 (l2.length : Int)) σ := fun e0 => hQ σ (Step.refl hs) (by
    rw [e0, List.append_nil, List.take_of_length_le (by rw [e0] at hm; simp at hm; omega)]; exact h)
  rcases h with ⟨rfl, rfl⟩ | ⟨b, cs, ha, htg, hbk, hln, hcp, hle, hg⟩
  · have h0 : l2 = [] := List.eq_nil_of_length_eq_zero (by simp only [List.length_nil] at hm; omega)
    rw [show cutA none m 0 1 = none from by unfold cutA; split <;> rfl]
    exact done h0
  · by_cases h0 : l2 = []
    · unfold cutA
      have := done h0
      subst h0
      split
      · exact this
      · exact this
    · have hpos := List.length_pos_iff.2 h0
      unfold cutA
      rw [if_neg (by omega), ha]
      simp only [Option.map_some, Nat.mul_one, add_add, Nat.zero_add]
      show awp P ro (storeCells ⟨b, m, none⟩ l2 >>= fun _ => Sem.pure (goInt l2.length)) Q σ
      rw [awp_bind]
      refine awp_storeCells l2 0 σ (stN_blk l2 cs 0 σ hbk (by omega) hv fun cs' c1 c2 c3 => ?_)
      refine hQ _ (step_obj hs htg hbk) (.inr ⟨b, cs', ha, htg, upd_same _ _ _, by simp; omega, by rw [c1]; exact hcp, hle, fun i hi => ?_⟩)
      simp at hi
      rcases Nat.lt_or_ge i m with hh | hh
      · rw [c2 i (by omega), List.getElem?_append_left (by simp; omega), List.getElem?_take, if_pos hh]; exact hg i (by omega)
      · have e1 : (l.take m).length = m := by simp; omega
        rw [List.getElem?_append_right (by omega), e1]
        have := c3 (i - m) _ (List.getElem?_eq_getElem (by omega))
        rw [List.getElem?_eq_getElem (by omega), ← this]
        congr 1; omega
/-- a row is longer now, in its own room: what stands there is something -/
theorem Row.more {r : Nat} {e : TypeId} {s : Sl} {l : List Value} (h : Row tag σ r e s l) {n : Nat} (hn : l.length + n ≤ s.cap) : ∃ xs : List Value, xs.length = n ∧ Row tag σ r e ⟨s.a, l.length + n, s.cap⟩ (l ++ xs) := by
  rcases h with ⟨rfl, rfl⟩ | ⟨b, cs, ha, htg, hbk, hln, hcp, hle, hg⟩
  · have : n = 0 := by simpa using hn
    subst this
    exact ⟨[], rfl, .inl ⟨rfl, rfl⟩⟩
  · refine ⟨(cs.toList.drop l.length).take n, by simp; omega, .inr ⟨b, cs, ha, htg, hbk, by simp; omega, hcp, hn, fun i hi => ?_⟩⟩
    rcases Nat.lt_or_ge i l.length with h1 | h1
    · rw [List.getElem?_append_left h1]; exact hg i h1
    · simp at hi
      rw [List.getElem?_append_right h1, List.getElem?_take, if_pos (by omega), List.getElem?_drop]
      simp only [Array.getElem?_toList]
      congr 1; omega
theorem Row.capAt {r : Nat} {e : TypeId} {s : Sl} {l : List Value} (h : Row tag σ r e s l) : l.length ≤ s.cap := by
  rcases h with ⟨rfl, rfl⟩ | ⟨b, cs, ha, htg, hbk, hln, hcp, hle, hg⟩
  · simp
  · omega
theorem cutA_zero (a : Option Addr) (c s : Nat) : cutA a 0 c s = a := by
  unfold cutA; split
  · rfl
  · cases a <;> simp [Nat.zero_mul, add_zero]
end Go.Proofs.YthfpmipeejjogaaGreatDoor.SL

/- Functions as predicate transformers, and the proofs that the code does what they tell: printed by wip/tools/gen.py. -/
namespace Go.Proofs.YthfpmipeejjogaaGreatDoor.G
open Go Go.Proofs.YthfpmipeejjogaaGreatDoor.SL
set_option linter.unusedVariables false
set_option linter.unusedSimpArgs false

def j4_bytes_Buffer_WriteString (B : World) (ro : AH) (a0 : Option Addr) (a1 : ByteArray) (Q : Int → Value → AH → Prop) (x6_5 : Int) (σ : AH) : Prop :=
 ∃ p25_6 : Addr, a0 = some p25_6 ∧
 ∃ (x27_7 : Sl), acell ro σ p25_6 = some (Sl.v x27_7) ∧
 cutOk (some x6_5) none x27_7.len x27_7.cap ∧
 awp Tryz.prog ro (Builtin.copy_ #[30, 9] 3 #[Sl.v (⟨cutA x27_7.a (Int.toNat x6_5) x27_7.cap 1, x27_7.len - Int.toNat x6_5, x27_7.cap - Int.toNat x6_5⟩ : Sl), .string a1]) (fun v σ => ∃ (x31_8 : Int), v = .int .i64 x31_8 ∧
  Q x31_8 .nilIface σ) σ

def f_bytes_Buffer_WriteString (B : World) (ro : AH) (a0 : Option Addr) (a1 : ByteArray) (σ : AH) (Q : Int → Value → AH → Prop) : Prop :=
 ∃ p9_1 : Addr, a0 = some p9_1 ∧
 stN (p9_1.add 2) (fun σ =>
  c_bytes_Buffer_tryGrowByReslice B ro a0 (a1.size : Int) σ fun x15_2 x15_3 σ =>
  if ¬ (x15_3 = true) then
   c_bytes_Buffer_grow B ro a0 (a1.size : Int) σ fun x23_9 σ =>
   j4_bytes_Buffer_WriteString B ro a0 a1 Q x23_9 σ
  else
  j4_bytes_Buffer_WriteString B ro a0 a1 Q x15_2 σ) [.int .i8 0] 0 σ

set_option maxRecDepth 100000 in
set_option maxHeartbeats 4000000 in
theorem bytes_Buffer_WriteString_ok {B : World} {ro : AH} {a0 : Option Addr} {a1 : ByteArray} {σ : AH} {Q : Int → Value → AH → Prop} (h : Sep ro σ → f_bytes_Buffer_WriteString B ro a0 a1 σ Q) : c_bytes_Buffer_WriteString B ro a0 a1 σ Q := by
  refine ACalls.of_sep fun hsep => ?_
  replace h := h hsep
  refine ACalls.of_body (args := [.pointer a0, .string a1]) Tryz.func114 rfl (by rw [Tryz.ntmps114]; simp) ?_
  rw [Tryz.ntmps114]
  unfold f_bytes_Buffer_WriteString at h
  refine AW.seq ?_
  refine AW.reg ?_
  refine Lp (V_asg rfl rfl) rfl rfl ?_
  refine Lp (V_asg rfl rfl) rfl rfl ?_
  refine Lnil ?_
  refine thenN ?_
  refine AW.seq ?_
  refine AW.reg ?_
  refine Lp (V_move rfl rfl) rfl rfl ?_
  obtain ⟨p9_1, hc, h⟩ := h
  refine Lp (V_nil rfl (by rw [← hc]; rfl)) rfl rfl ?_
  refine Lp (V_fld rfl Tryz.underlying198 rfl ty196 (by decide) rfl) rfl rfl ?_
  refine Ls rfl rfl (X_st rfl ty196 rfl rfl rfl rfl (stN_mono h fun σ h => ?_))
  refine Lnil ?_
  refine thenN ?_
  refine AW.seq ?_
  refine AW.reg ?_
  refine Lp (V_move rfl rfl) rfl rfl ?_
  refine Lp (V_move rfl rfl) rfl rfl ?_
  refine Lp (V_lenS rfl rfl Tryz.underlying9 rfl rfl) rfl rfl ?_
  refine Ls rfl rfl (X_call rfl Tryz.func137 rfl rfl rfl (ACalls.mono h ?_))
  rintro v σ ⟨x15_2, x15_3, rfl, h⟩
  refine Lp (V_move rfl rfl) rfl rfl ?_
  refine Lp (V_ext rfl rfl rfl) rfl rfl ?_
  refine Lp (V_ext rfl rfl rfl) rfl rfl ?_
  refine Lp (V_asg rfl rfl) rfl rfl ?_
  refine Lp (V_asg rfl rfl) rfl rfl ?_
  refine Lnil ?_
  refine thenN ?_
  refine AW.seqJ (fun fr σ => ∃ (x6_5 : Int), FrLe [(0, .pointer a0), (1, .string a1), (6, .int .i64 x6_5)] fr ∧ j4_bytes_Buffer_WriteString B ro a0 a1 Q x6_5 σ) ?_ ?_
  rotate_left
  · refine AW.seq ?_
    refine AW.reg ?_
    refine Lp (V_move rfl rfl) rfl rfl ?_
    refine Lp (V_not rfl rfl) rfl rfl ?_
    refine Lnil ?_
    refine thenN ?_
    refine AW.iff rfl (bnot_iff Iff.rfl) h (fun h => ?_) (fun h => ?_)
    rotate_left
    · refine AW.skip ?_
      refine thenN ?_
      exact ⟨_, (FrLe.cons rfl (FrLe.cons rfl (FrLe.cons rfl (FrLe.nil _)))), h⟩
    refine AW.reg ?_
    refine Lp (V_move rfl rfl) rfl rfl ?_
    refine Lp (V_move rfl rfl) rfl rfl ?_
    refine Lp (V_lenS rfl rfl Tryz.underlying9 rfl rfl) rfl rfl ?_
    refine Ls rfl rfl (X_call rfl Tryz.func138 rfl rfl rfl (ACalls.mono h ?_))
    rintro v σ ⟨x23_9, rfl, h⟩
    refine Lp (V_asg rfl rfl) rfl rfl ?_
    refine Lnil ?_
    refine thenN ?_
    exact ⟨_, (FrLe.cons rfl (FrLe.cons rfl (FrLe.cons rfl (FrLe.nil _)))), h⟩
  rintro fr σ ⟨x6_5, hl, h⟩
  refine AW.weaken ?_ hl (HLe.refl _)
  unfold j4_bytes_Buffer_WriteString at h
  refine AW.seq ?_
  refine AW.reg ?_
  refine Lp (V_move rfl rfl) rfl rfl ?_
  obtain ⟨p25_6, hc, h⟩ := h
  refine Lp (V_nil rfl (by rw [← hc]; rfl)) rfl rfl ?_
  refine Lp (V_fld rfl Tryz.underlying198 rfl ty30 (by decide) rfl) rfl rfl ?_
  obtain ⟨x27_7, hc, h⟩ := h
  refine Ls rfl rfl (X_ld rfl Tryz.underlying30 rfl rfl hc ?_)
  refine Lp (V_move rfl rfl) rfl rfl ?_
  obtain ⟨hc, h⟩ := h
  refine Lp (V_slL (lo := (some x6_5)) (hi := none) rfl Tryz.underlying30 ty5 rfl (optI_some rfl) optI_none hc) rfl rfl ?_
  refine Lp (V_move rfl rfl) rfl rfl ?_
  refine Ls rfl rfl (X_bi (s := Builtin.copy_ #[30, 9] 3 #[Sl.v (⟨cutA x27_7.a (Int.toNat x6_5) x27_7.cap 1, x27_7.len - Int.toNat x6_5, x27_7.cap - Int.toNat x6_5⟩ : Sl), .string a1]) rfl rfl (fun _ => rfl) (awp_mono _ h ?_))
  rintro v σ ⟨x31_8, rfl, h⟩
  refine Lp (V_asg rfl rfl) rfl rfl ?_
  refine Lp (V_asg rfl rfl) rfl rfl ?_
  refine Lnil ?_
  refine thenN ?_
  refine AW.ret ?_
  exact bR2 Tryz.results114 rfl rfl ⟨_, _, rfl, h⟩

def j4_bytes_Buffer_Write (B : World) (ro : AH) (a0 : Option Addr) (a1 : Sl) (Q : Int → Value → AH → Prop) (x6_5 : Int) (σ : AH) : Prop :=
 ∃ p25_6 : Addr, a0 = some p25_6 ∧
 ∃ (x27_7 : Sl), acell ro σ p25_6 = some (Sl.v x27_7) ∧
 cutOk (some x6_5) none x27_7.len x27_7.cap ∧
 awp Tryz.prog ro (Builtin.copy_ #[30, 30] 3 #[Sl.v (⟨cutA x27_7.a (Int.toNat x6_5) x27_7.cap 1, x27_7.len - Int.toNat x6_5, x27_7.cap - Int.toNat x6_5⟩ : Sl), Sl.v a1]) (fun v σ => ∃ (x31_8 : Int), v = .int .i64 x31_8 ∧
  Q x31_8 .nilIface σ) σ

def f_bytes_Buffer_Write (B : World) (ro : AH) (a0 : Option Addr) (a1 : Sl) (σ : AH) (Q : Int → Value → AH → Prop) : Prop :=
 ∃ p9_1 : Addr, a0 = some p9_1 ∧
 stN (p9_1.add 2) (fun σ =>
  c_bytes_Buffer_tryGrowByReslice B ro a0 (a1.len : Int) σ fun x15_2 x15_3 σ =>
  if ¬ (x15_3 = true) then
   c_bytes_Buffer_grow B ro a0 (a1.len : Int) σ fun x23_9 σ =>
   j4_bytes_Buffer_Write B ro a0 a1 Q x23_9 σ
  else
  j4_bytes_Buffer_Write B ro a0 a1 Q x15_2 σ) [.int .i8 0] 0 σ

set_option maxRecDepth 100000 in
set_option maxHeartbeats 4000000 in
theorem bytes_Buffer_Write_ok {B : World} {ro : AH} {a0 : Option Addr} {a1 : Sl} {σ : AH} {Q : Int → Value → AH → Prop} (h : Sep ro σ → f_bytes_Buffer_Write B ro a0 a1 σ Q) : c_bytes_Buffer_Write B ro a0 a1 σ Q := by
  refine ACalls.of_sep fun hsep => ?_
  replace h := h hsep
  refine ACalls.of_body (args := [.pointer a0, Sl.v a1]) Tryz.func115 rfl (by rw [Tryz.ntmps115]; simp) ?_
  rw [Tryz.ntmps115]
  unfold f_bytes_Buffer_Write at h
  refine AW.seq ?_
  refine AW.reg ?_
  refine Lp (V_asg rfl rfl) rfl rfl ?_
  refine Lp (V_asg rfl rfl) rfl rfl ?_
  refine Lnil ?_
  refine thenN ?_
  refine AW.seq ?_
  refine AW.reg ?_
  refine Lp (V_move rfl rfl) rfl rfl ?_
  obtain ⟨p9_1, hc, h⟩ := h
  refine Lp (V_nil rfl (by rw [← hc]; rfl)) rfl rfl ?_
  refine Lp (V_fld rfl Tryz.underlying198 rfl ty196 (by decide) rfl) rfl rfl ?_
  refine Ls rfl rfl (X_st rfl ty196 rfl rfl rfl rfl (stN_mono h fun σ h => ?_))
  refine Lnil ?_
  refine thenN ?_
  refine AW.seq ?_
  refine AW.reg ?_
  refine Lp (V_move rfl rfl) rfl rfl ?_
  refine Lp (V_move rfl rfl) rfl rfl ?_
  refine Lp (V_lenL rfl rfl Tryz.underlying30 rfl rfl) rfl rfl ?_
  refine Ls rfl rfl (X_call rfl Tryz.func137 rfl rfl rfl (ACalls.mono h ?_))
  rintro v σ ⟨x15_2, x15_3, rfl, h⟩
  refine Lp (V_move rfl rfl) rfl rfl ?_
  refine Lp (V_ext rfl rfl rfl) rfl rfl ?_
  refine Lp (V_ext rfl rfl rfl) rfl rfl ?_
  refine Lp (V_asg rfl rfl) rfl rfl ?_
  refine Lp (V_asg rfl rfl) rfl rfl ?_
  refine Lnil ?_
  refine thenN ?_
  refine AW.seqJ (fun fr σ => ∃ (x6_5 : Int), FrLe [(0, .pointer a0), (1, Sl.v a1), (6, .int .i64 x6_5)] fr ∧ j4_bytes_Buffer_Write B ro a0 a1 Q x6_5 σ) ?_ ?_
  rotate_left
  · refine AW.seq ?_
    refine AW.reg ?_
    refine Lp (V_move rfl rfl) rfl rfl ?_
    refine Lp (V_not rfl rfl) rfl rfl ?_
    refine Lnil ?_
    refine thenN ?_
    refine AW.iff rfl (bnot_iff Iff.rfl) h (fun h => ?_) (fun h => ?_)
    rotate_left
    · refine AW.skip ?_
      refine thenN ?_
      exact ⟨_, (FrLe.cons rfl (FrLe.cons rfl (FrLe.cons rfl (FrLe.nil _)))), h⟩
    refine AW.reg ?_
    refine Lp (V_move rfl rfl) rfl rfl ?_
    refine Lp (V_move rfl rfl) rfl rfl ?_
    refine Lp (V_lenL rfl rfl Tryz.underlying30 rfl rfl) rfl rfl ?_
    refine Ls rfl rfl (X_call rfl Tryz.func138 rfl rfl rfl (ACalls.mono h ?_))
    rintro v σ ⟨x23_9, rfl, h⟩
    refine Lp (V_asg rfl rfl) rfl rfl ?_
    refine Lnil ?_
    refine thenN ?_
    exact ⟨_, (FrLe.cons rfl (FrLe.cons rfl (FrLe.cons rfl (FrLe.nil _)))), h⟩
  rintro fr σ ⟨x6_5, hl, h⟩
  refine AW.weaken ?_ hl (HLe.refl _)
  unfold j4_bytes_Buffer_Write at h
  refine AW.seq ?_
  refine AW.reg ?_
  refine Lp (V_move rfl rfl) rfl rfl ?_
  obtain ⟨p25_6, hc, h⟩ := h
  refine Lp (V_nil rfl (by rw [← hc]; rfl)) rfl rfl ?_
  refine Lp (V_fld rfl Tryz.underlying198 rfl ty30 (by decide) rfl) rfl rfl ?_
  obtain ⟨x27_7, hc, h⟩ := h
  refine Ls rfl rfl (X_ld rfl Tryz.underlying30 rfl rfl hc ?_)
  refine Lp (V_move rfl rfl) rfl rfl ?_
  obtain ⟨hc, h⟩ := h
  refine Lp (V_slL (lo := (some x6_5)) (hi := none) rfl Tryz.underlying30 ty5 rfl (optI_some rfl) optI_none hc) rfl rfl ?_
  refine Lp (V_move rfl rfl) rfl rfl ?_
  refine Ls rfl rfl (X_bi (s := Builtin.copy_ #[30, 30] 3 #[Sl.v (⟨cutA x27_7.a (Int.toNat x6_5) x27_7.cap 1, x27_7.len - Int.toNat x6_5, x27_7.cap - Int.toNat x6_5⟩ : Sl), Sl.v a1]) rfl rfl (fun _ => rfl) (awp_mono _ h ?_))
  rintro v σ ⟨x31_8, rfl, h⟩
  refine Lp (V_asg rfl rfl) rfl rfl ?_
  refine Lp (V_asg rfl rfl) rfl rfl ?_
  refine Lnil ?_
  refine thenN ?_
  refine AW.ret ?_
  exact bR2 Tryz.results115 rfl rfl ⟨_, _, rfl, h⟩

def f_bytes_Buffer_Bytes (B : World) (ro : AH) (a0 : Option Addr) (σ : AH) (Q : Sl → AH → Prop) : Prop :=
 ∃ p4_1 : Addr, a0 = some p4_1 ∧
 ∃ p8_2 : Addr, a0 = some p8_2 ∧
 ∃ (x6_3 : Sl), acell ro σ p4_1 = some (Sl.v x6_3) ∧
 ∃ (x10_4 : Int), acell ro σ (p8_2.add 1) = some (.int .i64 x10_4) ∧
 cutOk (some x10_4) none x6_3.len x6_3.cap ∧
 Q (⟨cutA x6_3.a (Int.toNat x10_4) x6_3.cap 1, x6_3.len - Int.toNat x10_4, x6_3.cap - Int.toNat x10_4⟩ : Sl) σ

set_option maxRecDepth 100000 in
set_option maxHeartbeats 4000000 in
theorem bytes_Buffer_Bytes_ok {B : World} {ro : AH} {a0 : Option Addr} {σ : AH} {Q : Sl → AH → Prop} (h : Sep ro σ → f_bytes_Buffer_Bytes B ro a0 σ Q) : c_bytes_Buffer_Bytes B ro a0 σ Q := by
  refine ACalls.of_sep fun hsep => ?_
  replace h := h hsep
  refine ACalls.of_body (args := [.pointer a0]) Tryz.func116 rfl (by rw [Tryz.ntmps116]; simp) ?_
  rw [Tryz.ntmps116]
  unfold f_bytes_Buffer_Bytes at h
  refine AW.seq ?_
  refine AW.reg ?_
  refine Lp (V_asg rfl rfl) rfl rfl ?_
  refine Lnil ?_
  refine thenN ?_
  refine AW.seq ?_
  refine AW.drawn0 (fun i => ([0, 0, 0, 3, 0, 0, 0, 3, 0, 0] : List Nat).getD i 2) [] [0, 1, 2, 4, 5, 6, 3, 7, 8, 9] Tryz.mixed (by decide +kernel) ?_
  refine Dp rfl rfl rfl rfl (V_move rfl rfl) ?_
  obtain ⟨p4_1, hc, h⟩ := h
  refine Dp rfl rfl rfl rfl (V_nil rfl (by rw [← hc]; rfl)) ?_
  refine Dp rfl rfl rfl rfl (V_fld rfl Tryz.underlying198 rfl ty30 (by decide) rfl) ?_
  refine Dp rfl rfl rfl rfl (V_move rfl rfl) ?_
  obtain ⟨p8_2, hc, h⟩ := h
  refine Dp rfl rfl rfl rfl (V_nil rfl (by rw [← hc]; rfl)) ?_
  refine Dp rfl rfl rfl rfl (V_fld rfl Tryz.underlying198 rfl ty3 (by decide) rfl) ?_
  obtain ⟨x6_3, hc, h⟩ := h
  refine Dr rfl rfl rfl rfl (R_ld rfl Tryz.underlying30 rfl rfl hc) ?_
  obtain ⟨x10_4, hc, h⟩ := h
  refine Dr rfl rfl rfl rfl (R_ld rfl Tryz.underlying3 rfl rfl hc) ?_
  obtain ⟨hc, h⟩ := h
  refine Dp rfl rfl rfl rfl (V_slL (lo := (some x10_4)) (hi := none) rfl Tryz.underlying30 ty5 rfl (optI_some rfl) optI_none hc) ?_
  refine Dp rfl rfl rfl rfl (V_asg rfl rfl) ?_
  refine Dend ?_
  refine thenN ?_
  refine AW.ret ?_
  exact bR1 Tryz.results116 rfl ⟨_, rfl, h⟩

def f_bytes_Buffer_tryGrowByReslice (B : World) (ro : AH) (a0 : Option Addr) (a1 : Int) (σ : AH) (Q : Int → Bool → AH → Prop) : Prop :=
 ∃ p8_1 : Addr, a0 = some p8_1 ∧
 ∃ (x10_2 : Sl), acell ro σ p8_1 = some (Sl.v x10_2) ∧
 ∃ p14_3 : Addr, a0 = some p14_3 ∧
 ∃ (x16_4 : Sl), acell ro σ p14_3 = some (Sl.v x16_4) ∧
 awp Tryz.prog ro (Builtin.cap_ #[30] 3 #[Sl.v x16_4]) (fun v σ => ∃ (x17_5 : Int), v = .int .i64 x17_5 ∧
  if a1 ≤ (IntKind.i64.wrap (x17_5 - (x10_2.len : Int))) then
   ∃ p23_6 : Addr, a0 = some p23_6 ∧
   ∃ (x25_7 : Sl), acell ro σ p23_6 = some (Sl.v x25_7) ∧
   cutOk none (some (IntKind.i64.wrap ((x10_2.len : Int) + a1))) x25_7.len x25_7.cap ∧
   ∃ p30_8 : Addr, a0 = some p30_8 ∧
   stN p30_8 (fun σ =>
    Q (x10_2.len : Int) true σ) [Sl.v (⟨cutA x25_7.a (0) x25_7.cap 1, Int.toNat (IntKind.i64.wrap ((x10_2.len : Int) + a1)) - 0, x25_7.cap - 0⟩ : Sl)] 0 σ
  else
  Q 0 false σ) σ

set_option maxRecDepth 100000 in
set_option maxHeartbeats 4000000 in
theorem bytes_Buffer_tryGrowByReslice_ok {B : World} {ro : AH} {a0 : Option Addr} {a1 : Int} {σ : AH} {Q : Int → Bool → AH → Prop} (h : Sep ro σ → f_bytes_Buffer_tryGrowByReslice B ro a0 a1 σ Q) : c_bytes_Buffer_tryGrowByReslice B ro a0 a1 σ Q := by
  refine ACalls.of_sep fun hsep => ?_
  replace h := h hsep
  refine ACalls.of_body (args := [.pointer a0, .int .i64 a1]) Tryz.func137 rfl (by rw [Tryz.ntmps137]; simp) ?_
  rw [Tryz.ntmps137]
  unfold f_bytes_Buffer_tryGrowByReslice at h
  refine AW.seq ?_
  refine AW.reg ?_
  refine Lp (V_asg rfl rfl) rfl rfl ?_
  refine Lp (V_asg rfl rfl) rfl rfl ?_
  refine Lnil ?_
  refine thenN ?_
  refine AW.seq ?_
  refine AW.seq ?_
  refine AW.reg ?_
  refine Lp (V_move rfl rfl) rfl rfl ?_
  obtain ⟨p8_1, hc, h⟩ := h
  refine Lp (V_nil rfl (by rw [← hc]; rfl)) rfl rfl ?_
  refine Lp (V_fld rfl Tryz.underlying198 rfl ty30 (by decide) rfl) rfl rfl ?_
  obtain ⟨x10_2, hc, h⟩ := h
  refine Ls rfl rfl (X_ld rfl Tryz.underlying30 rfl rfl hc ?_)
  refine Lp (V_lenL rfl rfl Tryz.underlying30 rfl rfl) rfl rfl ?_
  refine Lp (V_asg rfl rfl) rfl rfl ?_
  refine Lnil ?_
  refine thenN ?_
  refine AW.seq ?_
  refine AW.reg ?_
  refine Lp (V_move rfl rfl) rfl rfl ?_
  refine Lp (V_move rfl rfl) rfl rfl ?_
  obtain ⟨p14_3, hc, h⟩ := h
  refine Lp (V_nil rfl (by rw [← hc]; rfl)) rfl rfl ?_
  refine Lp (V_fld rfl Tryz.underlying198 rfl ty30 (by decide) rfl) rfl rfl ?_
  obtain ⟨x16_4, hc, h⟩ := h
  refine Ls rfl rfl (X_ld rfl Tryz.underlying30 rfl rfl hc ?_)
  refine Ls rfl rfl (X_bi (s := Builtin.cap_ #[30] 3 #[Sl.v x16_4]) rfl rfl (fun _ => rfl) (awp_mono _ h ?_))
  rintro v σ ⟨x17_5, rfl, h⟩
  refine Lp (V_move rfl rfl) rfl rfl ?_
  refine Lp (V_sub rfl rfl rfl) rfl rfl ?_
  refine Lp (V_leq rfl rfl rfl) rfl rfl ?_
  refine Lnil ?_
  refine thenN ?_
  refine AW.iff rfl decide_eq_true_iff h (fun h => ?_) (fun h => ?_)
  rotate_left
  · refine AW.skip ?_
    refine thenN ?_
    refine AW.seq ?_
    refine AW.reg ?_
    refine Lp (V_asg rfl rfl) rfl rfl ?_
    refine Lp (V_asg rfl rfl) rfl rfl ?_
    refine Lnil ?_
    refine thenN ?_
    refine AW.ret ?_
    exact bR2 Tryz.results137 rfl rfl ⟨_, _, rfl, h⟩
  refine AW.seq ?_
  refine AW.reg ?_
  refine Lp (V_move rfl rfl) rfl rfl ?_
  refine Lp (V_move rfl rfl) rfl rfl ?_
  obtain ⟨p23_6, hc, h⟩ := h
  refine Lp (V_nil rfl (by rw [← hc]; rfl)) rfl rfl ?_
  refine Lp (V_fld rfl Tryz.underlying198 rfl ty30 (by decide) rfl) rfl rfl ?_
  obtain ⟨x25_7, hc, h⟩ := h
  refine Ls rfl rfl (X_ld rfl Tryz.underlying30 rfl rfl hc ?_)
  refine Lp (V_move rfl rfl) rfl rfl ?_
  refine Lp (V_move rfl rfl) rfl rfl ?_
  refine Lp (V_add rfl rfl rfl) rfl rfl ?_
  obtain ⟨hc, h⟩ := h
  refine Lp (V_slL (lo := none) (hi := (some (IntKind.i64.wrap ((x10_2.len : Int) + a1)))) rfl Tryz.underlying30 ty5 rfl optI_none (optI_some rfl) hc) rfl rfl ?_
  obtain ⟨p30_8, hc, h⟩ := h
  refine Lp (V_nil rfl (by rw [← hc]; rfl)) rfl rfl ?_
  refine Lp (V_fld rfl Tryz.underlying198 rfl ty30 (by decide) rfl) rfl rfl ?_
  refine Ls rfl rfl (X_st rfl ty30 rfl rfl rfl rfl (stN_mono h fun σ h => ?_))
  refine Lnil ?_
  refine thenN ?_
  refine AW.seq ?_
  refine AW.reg ?_
  refine Lp (V_move rfl rfl) rfl rfl ?_
  refine Lp (V_asg rfl rfl) rfl rfl ?_
  refine Lp (V_asg rfl rfl) rfl rfl ?_
  refine Lnil ?_
  refine thenN ?_
  refine AW.ret ?_
  refine thenR ?_
  exact bR2 Tryz.results137 rfl rfl ⟨_, _, rfl, h⟩

def j12_bytes_Buffer_grow (B : World) (ro : AH) (a0 : Option Addr) (a1 : Int) (x10_1 : Int) (Q : Int → AH → Prop) (σ : AH) : Prop :=
 ∃ p96_13 : Addr, a0 = some p96_13 ∧
 stN (p96_13.add 1) (fun σ =>
  ∃ p100_14 : Addr, a0 = some p100_14 ∧
  ∃ (x102_15 : Sl), acell ro σ p100_14 = some (Sl.v x102_15) ∧
  cutOk none (some (IntKind.i64.wrap (x10_1 + a1))) x102_15.len x102_15.cap ∧
  ∃ p107_16 : Addr, a0 = some p107_16 ∧
  stN p107_16 (fun σ =>
   Q x10_1 σ) [Sl.v (⟨cutA x102_15.a (0) x102_15.cap 1, Int.toNat (IntKind.i64.wrap (x10_1 + a1)) - 0, x102_15.cap - 0⟩ : Sl)] 0 σ) [.int .i64 0] 0 σ

def j2_bytes_Buffer_grow (B : World) (ro : AH) (a0 : Option Addr) (a1 : Int) (x10_1 : Int) (Q : Int → AH → Prop) (σ : AH) : Prop :=
 c_bytes_Buffer_tryGrowByReslice B ro a0 a1 σ fun x25_3 x25_4 σ =>
 if x25_4 = true then
  Q x25_3 σ
 else
 ∃ p31_5 : Addr, a0 = some p31_5 ∧
 ∃ (x33_6 : Sl), acell ro σ p31_5 = some (Sl.v x33_6) ∧
 if (x33_6.a = none) ∧ (a1 ≤ 64) then
  ((0 : Int) ≤ a1 ∧ a1 ≤ 64 ∧ (64 : Int) ≤ 281474976710656 ∧ 1 * (64 : Int) ≤ 281474976710656) ∧
  nw ro σ (.cells (zeros (.int .u8 0) (Int.toNat 64 * 1)) 5) fun x41_7 σ =>
  ∃ p42_8 : Addr, a0 = some p42_8 ∧
  stN p42_8 (fun σ =>
   Q 0 σ) [Sl.v (⟨some ⟨x41_7, 0, none⟩, Int.toNat a1, Int.toNat 64⟩ : Sl)] 0 σ
 else
 ∃ p45_9 : Addr, a0 = some p45_9 ∧
 ∃ (x47_10 : Sl), acell ro σ p45_9 = some (Sl.v x47_10) ∧
 awp Tryz.prog ro (Builtin.cap_ #[30] 3 #[Sl.v x47_10]) (fun v σ => ∃ (x48_11 : Int), v = .int .i64 x48_11 ∧
  if a1 ≤ (IntKind.i64.wrap ((IntKind.i64.wrap (Int.tdiv x48_11 2)) - x10_1)) then
   ∃ p56_17 : Addr, a0 = some p56_17 ∧
   ∃ p60_18 : Addr, a0 = some p60_18 ∧
   ∃ p64_19 : Addr, a0 = some p64_19 ∧
   ∃ (x58_20 : Sl), acell ro σ p56_17 = some (Sl.v x58_20) ∧
   ∃ (x62_21 : Sl), acell ro σ p60_18 = some (Sl.v x62_21) ∧
   ∃ (x66_22 : Int), acell ro σ (p64_19.add 1) = some (.int .i64 x66_22) ∧
   cutOk (some x66_22) none x62_21.len x62_21.cap ∧
   awp Tryz.prog ro (Builtin.copy_ #[30, 30] 3 #[Sl.v x58_20, Sl.v (⟨cutA x62_21.a (Int.toNat x66_22) x62_21.cap 1, x62_21.len - Int.toNat x66_22, x62_21.cap - Int.toNat x66_22⟩ : Sl)]) (fun v σ => ∃ (x68_23 : Int), v = .int .i64 x68_23 ∧
    j12_bytes_Buffer_grow B ro a0 a1 x10_1 Q σ) σ
  else
  if (IntKind.i64.wrap ((IntKind.i64.wrap (9223372036854775807 - x48_11)) - a1)) < x48_11 then
   False
  else
  ∃ p78_24 : Addr, a0 = some p78_24 ∧
  ∃ p82_25 : Addr, a0 = some p82_25 ∧
  ∃ p87_26 : Addr, a0 = some p87_26 ∧
  ∃ (x80_27 : Sl), acell ro σ p78_24 = some (Sl.v x80_27) ∧
  ∃ (x84_28 : Int), acell ro σ (p82_25.add 1) = some (.int .i64 x84_28) ∧
  cutOk (some x84_28) none x80_27.len x80_27.cap ∧
  ∃ (x89_29 : Int), acell ro σ (p87_26.add 1) = some (.int .i64 x89_29) ∧
  c_bytes_growSlice B ro (⟨cutA x80_27.a (Int.toNat x84_28) x80_27.cap 1, x80_27.len - Int.toNat x84_28, x80_27.cap - Int.toNat x84_28⟩ : Sl) (IntKind.i64.wrap (x89_29 + a1)) σ fun x92_30 σ =>
  ∃ p93_31 : Addr, a0 = some p93_31 ∧
  stN p93_31 (fun σ =>
   j12_bytes_Buffer_grow B ro a0 a1 x10_1 Q σ) [Sl.v x92_30] 0 σ) σ

def j32_bytes_Buffer_grow (B : World) (ro : AH) (a0 : Option Addr) (a1 : Int) (x10_1 : Int) (Q : Int → AH → Prop) (x19_33 : Bool) (σ : AH) : Prop :=
 if x19_33 = true then
  c_bytes_Buffer_Reset B ro a0 σ fun σ =>
  j2_bytes_Buffer_grow B ro a0 a1 x10_1 Q σ
 else
 j2_bytes_Buffer_grow B ro a0 a1 x10_1 Q σ

def f_bytes_Buffer_grow (B : World) (ro : AH) (a0 : Option Addr) (a1 : Int) (σ : AH) (Q : Int → AH → Prop) : Prop :=
 c_bytes_Buffer_Len B ro a0 σ fun x10_1 σ =>
 if x10_1 = 0 then
  ∃ p15_34 : Addr, a0 = some p15_34 ∧
  ∃ (x17_35 : Int), acell ro σ (p15_34.add 1) = some (.int .i64 x17_35) ∧
  j32_bytes_Buffer_grow B ro a0 a1 x10_1 Q (!(decide (x17_35 = 0))) σ
 else
 j32_bytes_Buffer_grow B ro a0 a1 x10_1 Q false σ

set_option maxRecDepth 100000 in
set_option maxHeartbeats 4000000 in
theorem bytes_Buffer_grow_ok {B : World} {ro : AH} {a0 : Option Addr} {a1 : Int} {σ : AH} {Q : Int → AH → Prop} (h : Sep ro σ → f_bytes_Buffer_grow B ro a0 a1 σ Q) : c_bytes_Buffer_grow B ro a0 a1 σ Q := by
  refine ACalls.of_sep fun hsep => ?_
  replace h := h hsep
  refine ACalls.of_body (args := [.pointer a0, .int .i64 a1]) Tryz.func138 rfl (by rw [Tryz.ntmps138]; simp) ?_
  rw [Tryz.ntmps138]
  unfold f_bytes_Buffer_grow at h
  refine AW.seq ?_
  refine AW.reg ?_
  refine Lp (V_asg rfl rfl) rfl rfl ?_
  refine Lnil ?_
  refine thenN ?_
  refine AW.seq ?_
  refine AW.reg ?_
  refine Lp (V_move rfl rfl) rfl rfl ?_
  refine Ls rfl rfl (X_call rfl Tryz.func150 rfl rfl rfl (ACalls.mono h ?_))
  rintro v σ ⟨x10_1, rfl, h⟩
  refine Lp (V_asg rfl rfl) rfl rfl ?_
  refine Lnil ?_
  refine thenN ?_
  refine AW.seqJ (fun fr σ => FrLe [(0, .pointer a0), (1, .int .i64 a1), (5, .int .i64 x10_1)] fr ∧ j2_bytes_Buffer_grow B ro a0 a1 x10_1 Q σ) ?_ ?_
  rotate_left
  · refine AW.seq ?_
    refine AW.reg ?_
    refine Lp (V_move rfl rfl) rfl rfl ?_
    refine Lp (V_eql rfl rfl rfl) rfl rfl ?_
    refine Lp (V_move rfl rfl) rfl rfl ?_
    refine LsplitJ 6 (decide (x10_1 = 0)) decide_eq_true_iff h (fun fr σ => ∃ (x19_33 : Bool), FrLe [(0, .pointer a0), (1, .int .i64 a1), (5, .int .i64 x10_1), (19, .bool x19_33)] fr ∧ j32_bytes_Buffer_grow B ro a0 a1 x10_1 Q x19_33 σ) ?_ ?_ ?_
    · intro h e2 hk2
      refine Lypb (V_move rfl rfl) rfl rfl rfl rfl e2 ?_
      obtain ⟨p15_34, hc, h⟩ := h
      refine Lypb (V_nil rfl (by rw [← hc]; rfl)) rfl rfl rfl rfl e2 ?_
      refine Lypb (V_fld rfl Tryz.underlying198 rfl ty3 (by decide) rfl) rfl rfl rfl rfl e2 ?_
      obtain ⟨x17_35, hc, h⟩ := h
      refine Lyb rfl rfl rfl rfl e2 (X_ld rfl Tryz.underlying3 rfl rfl hc ?_)
      refine Lypb (V_neq rfl rfl rfl) rfl rfl rfl rfl e2 ?_
      refine Lp (V_pickT rfl (evb e2) rfl) rfl rfl ?_
      exact hk2 _ _ ⟨_, (FrLe.cons rfl (FrLe.cons rfl (FrLe.cons rfl (FrLe.cons rfl (FrLe.nil _))))), h⟩
    · intro h e2 hk2
      refine Ln rfl rfl rfl rfl (.inl (by rw [e2]; rfl)) ?_
      refine Ln rfl rfl rfl rfl (.inl (by rw [e2]; rfl)) ?_
      refine Ln rfl rfl rfl rfl (.inl (by rw [e2]; rfl)) ?_
      refine Ln rfl rfl rfl rfl (.inl (by rw [e2]; rfl)) ?_
      refine Ln rfl rfl rfl rfl (.inl (by rw [e2]; rfl)) ?_
      refine Lp (V_pickF rfl (evb e2) rfl) rfl rfl ?_
      exact hk2 _ _ ⟨_, (FrLe.cons rfl (FrLe.cons rfl (FrLe.cons rfl (FrLe.cons rfl (FrLe.nil _))))), h⟩
    rintro fr σ ⟨x19_33, hl, h⟩
    unfold j32_bytes_Buffer_grow at h
    refine Lfr hl ?_
    refine Lnil ?_
    refine thenN ?_
    refine AW.iff rfl Iff.rfl h (fun h => ?_) (fun h => ?_)
    rotate_left
    · refine AW.skip ?_
      refine thenN ?_
      exact ⟨(FrLe.cons rfl (FrLe.cons rfl (FrLe.cons rfl (FrLe.nil _)))), h⟩
    refine AW.reg ?_
    refine Lp (V_move rfl rfl) rfl rfl ?_
    refine Ls rfl rfl (X_call rfl Tryz.func151 rfl rfl rfl (ACalls.mono h ?_))
    rintro v σ ⟨rfl, h⟩
    refine Lnil ?_
    refine thenN ?_
    exact ⟨(FrLe.cons rfl (FrLe.cons rfl (FrLe.cons rfl (FrLe.nil _)))), h⟩
  rintro fr σ ⟨hl, h⟩
  refine AW.weaken ?_ hl (HLe.refl _)
  unfold j2_bytes_Buffer_grow at h
  refine AW.seq ?_
  refine AW.seq ?_
  refine AW.reg ?_
  refine Lp (V_move rfl rfl) rfl rfl ?_
  refine Lp (V_move rfl rfl) rfl rfl ?_
  refine Ls rfl rfl (X_call rfl Tryz.func137 rfl rfl rfl (ACalls.mono h ?_))
  rintro v σ ⟨x25_3, x25_4, rfl, h⟩
  refine Lp (V_move rfl rfl) rfl rfl ?_
  refine Lp (V_ext rfl rfl rfl) rfl rfl ?_
  refine Lp (V_ext rfl rfl rfl) rfl rfl ?_
  refine Lp (V_asg rfl rfl) rfl rfl ?_
  refine Lp (V_asg rfl rfl) rfl rfl ?_
  refine Lnil ?_
  refine thenN ?_
  refine AW.seq ?_
  refine AW.reg ?_
  refine Lp (V_move rfl rfl) rfl rfl ?_
  refine Lnil ?_
  refine thenN ?_
  refine AW.iff rfl Iff.rfl h (fun h => ?_) (fun h => ?_)
  · refine AW.seq ?_
    refine AW.reg ?_
    refine Lp (V_move rfl rfl) rfl rfl ?_
    refine Lp (V_asg rfl rfl) rfl rfl ?_
    refine Lnil ?_
    refine thenN ?_
    refine AW.ret ?_
    refine thenR ?_
    exact bR1 Tryz.results138 rfl ⟨_, rfl, h⟩
  refine AW.skip ?_
  refine thenN ?_
  refine AW.seq ?_
  refine AW.seq ?_
  refine AW.reg ?_
  refine Lp (V_move rfl rfl) rfl rfl ?_
  obtain ⟨p31_5, hc, h⟩ := h
  refine Lp (V_nil rfl (by rw [← hc]; rfl)) rfl rfl ?_
  refine Lp (V_fld rfl Tryz.underlying198 rfl ty30 (by decide) rfl) rfl rfl ?_
  obtain ⟨x33_6, hc, h⟩ := h
  refine Ls rfl rfl (X_ld rfl Tryz.underlying30 rfl rfl hc ?_)
  refine Lp (V_eqL rfl Tryz.underlying30 rfl rfl) rfl rfl ?_
  refine Lp (V_move rfl rfl) rfl rfl ?_
  refine Lsplit 3 x33_6.a.isNone [(0, .pointer a0), (1, .int .i64 a1), (5, .int .i64 x10_1), (38, .bool (x33_6.a.isNone && (decide (a1 ≤ 64))))] ?_ ?_ ?_
  · intro e5 hk5
    refine Lypb (V_move rfl rfl) rfl rfl rfl rfl e5 ?_
    refine Lypb (V_leq rfl rfl rfl) rfl rfl rfl rfl e5 ?_
    refine Lp (V_pickT rfl (evb e5) rfl) rfl rfl ?_
    exact hk5 _ (FrLe.cons rfl (FrLe.cons rfl (FrLe.cons rfl (FrLe.cons (by rw [e5]; rfl) (FrLe.nil _)))))
  · intro e5 hk5
    refine Ln rfl rfl rfl rfl (.inl (by rw [e5]; rfl)) ?_
    refine Ln rfl rfl rfl rfl (.inl (by rw [e5]; rfl)) ?_
    refine Lp (V_pickF rfl (evb e5) rfl) rfl rfl ?_
    exact hk5 _ (FrLe.cons rfl (FrLe.cons rfl (FrLe.cons rfl (FrLe.cons (by rw [e5]; rfl) (FrLe.nil _)))))
  intro fr hl
  refine Lfr hl ?_
  refine Lnil ?_
  refine thenN ?_
  refine AW.iff rfl (band_iff isNone_iff decide_eq_true_iff) h (fun h => ?_) (fun h => ?_)
  · refine AW.seq ?_
    refine AW.reg ?_
    refine Lp (V_move rfl rfl) rfl rfl ?_
    refine Lp (V_move rfl rfl) rfl rfl ?_
    obtain ⟨⟨h0, h1, h2, h3⟩, h⟩ := h
    refine Ls rfl rfl (X_new (A_mks rfl Tryz.underlying30 ty5 rfl rfl h0 h1 h2 h3) fun x41_7 g1 g2 => ?_)
    replace h := h x41_7 g1 g2
    obtain ⟨p42_8, hc, h⟩ := h
    refine Lp (V_nil rfl (by rw [← hc]; rfl)) rfl rfl ?_
    refine Lp (V_fld rfl Tryz.underlying198 rfl ty30 (by decide) rfl) rfl rfl ?_
    refine Ls rfl rfl (X_st rfl ty30 rfl rfl rfl rfl (stN_mono h fun σ h => ?_))
    refine Lnil ?_
    refine thenN ?_
    refine AW.seq ?_
    refine AW.reg ?_
    refine Lp (V_asg rfl rfl) rfl rfl ?_
    refine Lnil ?_
    refine thenN ?_
    refine AW.ret ?_
    refine thenR ?_
    exact bR1 Tryz.results138 rfl ⟨_, rfl, h⟩
  refine AW.skip ?_
  refine thenN ?_
  refine AW.seq ?_
  refine AW.reg ?_
  refine Lp (V_move rfl rfl) rfl rfl ?_
  obtain ⟨p45_9, hc, h⟩ := h
  refine Lp (V_nil rfl (by rw [← hc]; rfl)) rfl rfl ?_
  refine Lp (V_fld rfl Tryz.underlying198 rfl ty30 (by decide) rfl) rfl rfl ?_
  obtain ⟨x47_10, hc, h⟩ := h
  refine Ls rfl rfl (X_ld rfl Tryz.underlying30 rfl rfl hc ?_)
  refine Ls rfl rfl (X_bi (s := Builtin.cap_ #[30] 3 #[Sl.v x47_10]) rfl rfl (fun _ => rfl) (awp_mono _ h ?_))
  rintro v σ ⟨x48_11, rfl, h⟩
  refine Lp (V_asg rfl rfl) rfl rfl ?_
  refine Lnil ?_
  refine thenN ?_
  refine AW.seqJ (fun fr σ => FrLe [(0, .pointer a0), (1, .int .i64 a1), (5, .int .i64 x10_1)] fr ∧ j12_bytes_Buffer_grow B ro a0 a1 x10_1 Q σ) ?_ ?_
  · rintro fr σ ⟨hl, h⟩
    refine AW.weaken ?_ hl (HLe.refl _)
    unfold j12_bytes_Buffer_grow at h
    refine AW.seq ?_
    refine AW.reg ?_
    refine Lp (V_move rfl rfl) rfl rfl ?_
    obtain ⟨p96_13, hc, h⟩ := h
    refine Lp (V_nil rfl (by rw [← hc]; rfl)) rfl rfl ?_
    refine Lp (V_fld rfl Tryz.underlying198 rfl ty3 (by decide) rfl) rfl rfl ?_
    refine Ls rfl rfl (X_st rfl ty3 rfl rfl rfl rfl (stN_mono h fun σ h => ?_))
    refine Lnil ?_
    refine thenN ?_
    refine AW.seq ?_
    refine AW.reg ?_
    refine Lp (V_move rfl rfl) rfl rfl ?_
    refine Lp (V_move rfl rfl) rfl rfl ?_
    obtain ⟨p100_14, hc, h⟩ := h
    refine Lp (V_nil rfl (by rw [← hc]; rfl)) rfl rfl ?_
    refine Lp (V_fld rfl Tryz.underlying198 rfl ty30 (by decide) rfl) rfl rfl ?_
    obtain ⟨x102_15, hc, h⟩ := h
    refine Ls rfl rfl (X_ld rfl Tryz.underlying30 rfl rfl hc ?_)
    refine Lp (V_move rfl rfl) rfl rfl ?_
    refine Lp (V_move rfl rfl) rfl rfl ?_
    refine Lp (V_add rfl rfl rfl) rfl rfl ?_
    obtain ⟨hc, h⟩ := h
    refine Lp (V_slL (lo := none) (hi := (some (IntKind.i64.wrap (x10_1 + a1)))) rfl Tryz.underlying30 ty5 rfl optI_none (optI_some rfl) hc) rfl rfl ?_
    obtain ⟨p107_16, hc, h⟩ := h
    refine Lp (V_nil rfl (by rw [← hc]; rfl)) rfl rfl ?_
    refine Lp (V_fld rfl Tryz.underlying198 rfl ty30 (by decide) rfl) rfl rfl ?_
    refine Ls rfl rfl (X_st rfl ty30 rfl rfl rfl rfl (stN_mono h fun σ h => ?_))
    refine Lnil ?_
    refine thenN ?_
    refine AW.seq ?_
    refine AW.reg ?_
    refine Lp (V_move rfl rfl) rfl rfl ?_
    refine Lp (V_asg rfl rfl) rfl rfl ?_
    refine Lnil ?_
    refine thenN ?_
    refine AW.ret ?_
    exact bR1 Tryz.results138 rfl ⟨_, rfl, h⟩
  refine AW.seq ?_
  refine AW.reg ?_
  refine Lp (V_move rfl rfl) rfl rfl ?_
  refine Lp (V_move rfl rfl) rfl rfl ?_
  refine Lp (V_quo rfl rfl rfl (by decide)) rfl rfl ?_
  refine Lp (V_move rfl rfl) rfl rfl ?_
  refine Lp (V_sub rfl rfl rfl) rfl rfl ?_
  refine Lp (V_leq rfl rfl rfl) rfl rfl ?_
  refine Lnil ?_
  refine thenN ?_
  refine AW.iff rfl decide_eq_true_iff h (fun h => ?_) (fun h => ?_)
  · refine AW.drawn0 (fun i => ([0, 0, 0, 3, 0, 0, 0, 3, 0, 0, 0, 3, 0, 2] : List Nat).getD i 2) [(7, 12), (7, 13), (11, 12), (11, 13)] [0, 1, 2, 4, 5, 6, 8, 9, 10, 3, 7, 11, 12, 13] Tryz.mixed (by decide +kernel) ?_
    refine Dp rfl rfl rfl rfl (V_move rfl rfl) ?_
    obtain ⟨p56_17, hc, h⟩ := h
    refine Dp rfl rfl rfl rfl (V_nil rfl (by rw [← hc]; rfl)) ?_
    refine Dp rfl rfl rfl rfl (V_fld rfl Tryz.underlying198 rfl ty30 (by decide) rfl) ?_
    refine Dp rfl rfl rfl rfl (V_move rfl rfl) ?_
    obtain ⟨p60_18, hc, h⟩ := h
    refine Dp rfl rfl rfl rfl (V_nil rfl (by rw [← hc]; rfl)) ?_
    refine Dp rfl rfl rfl rfl (V_fld rfl Tryz.underlying198 rfl ty30 (by decide) rfl) ?_
    refine Dp rfl rfl rfl rfl (V_move rfl rfl) ?_
    obtain ⟨p64_19, hc, h⟩ := h
    refine Dp rfl rfl rfl rfl (V_nil rfl (by rw [← hc]; rfl)) ?_
    refine Dp rfl rfl rfl rfl (V_fld rfl Tryz.underlying198 rfl ty3 (by decide) rfl) ?_
    obtain ⟨x58_20, hc, h⟩ := h
    refine Dr rfl rfl rfl rfl (R_ld rfl Tryz.underlying30 rfl rfl hc) ?_
    obtain ⟨x62_21, hc, h⟩ := h
    refine Dr rfl rfl rfl rfl (R_ld rfl Tryz.underlying30 rfl rfl hc) ?_
    obtain ⟨x66_22, hc, h⟩ := h
    refine Dr rfl rfl rfl rfl (R_ld rfl Tryz.underlying3 rfl rfl hc) ?_
    obtain ⟨hc, h⟩ := h
    refine Dp rfl rfl rfl rfl (V_slL (lo := (some x66_22)) (hi := none) rfl Tryz.underlying30 ty5 rfl (optI_some rfl) optI_none hc) ?_
    refine Dg rfl rfl rfl rfl (X_bi (s := Builtin.copy_ #[30, 30] 3 #[Sl.v x58_20, Sl.v (⟨cutA x62_21.a (Int.toNat x66_22) x62_21.cap 1, x62_21.len - Int.toNat x66_22, x62_21.cap - Int.toNat x66_22⟩ : Sl)]) rfl rfl (fun _ => rfl) (awp_mono _ h ?_))
    rintro v σ ⟨x68_23, rfl, h⟩
    refine Dend ?_
    refine thenN ?_
    exact ⟨(FrLe.cons rfl (FrLe.cons rfl (FrLe.cons rfl (FrLe.nil _)))), h⟩
  refine AW.seq ?_
  refine AW.reg ?_
  refine Lp (V_move rfl rfl) rfl rfl ?_
  refine Lp (V_move rfl rfl) rfl rfl ?_
  refine Lp (V_sub rfl rfl rfl) rfl rfl ?_
  refine Lp (V_move rfl rfl) rfl rfl ?_
  refine Lp (V_sub rfl rfl rfl) rfl rfl ?_
  refine Lp (V_gtr rfl rfl rfl) rfl rfl ?_
  refine Lnil ?_
  refine thenN ?_
  refine AW.iff rfl decide_eq_true_iff h (fun h => ?_) (fun h => ?_)
  · exact h.elim
  refine AW.drawn0 (fun i => ([0, 0, 0, 0, 3, 0, 0, 0, 3, 0, 0, 0, 0, 3, 0, 0, 2, 0, 0, 2] : List Nat).getD i 2) [(4, 9), (4, 16), (8, 9), (8, 16), (13, 15), (13, 16)] [0, 1, 2, 3, 5, 6, 7, 10, 11, 12, 14, 4, 8, 9, 13, 15, 16, 17, 18, 19] Tryz.mixed (by decide +kernel) ?_
  refine Dp rfl rfl rfl rfl (V_move rfl rfl) ?_
  refine Dp rfl rfl rfl rfl (V_move rfl rfl) ?_
  obtain ⟨p78_24, hc, h⟩ := h
  refine Dp rfl rfl rfl rfl (V_nil rfl (by rw [← hc]; rfl)) ?_
  refine Dp rfl rfl rfl rfl (V_fld rfl Tryz.underlying198 rfl ty30 (by decide) rfl) ?_
  refine Dp rfl rfl rfl rfl (V_move rfl rfl) ?_
  obtain ⟨p82_25, hc, h⟩ := h
  refine Dp rfl rfl rfl rfl (V_nil rfl (by rw [← hc]; rfl)) ?_
  refine Dp rfl rfl rfl rfl (V_fld rfl Tryz.underlying198 rfl ty3 (by decide) rfl) ?_
  refine Dp rfl rfl rfl rfl (V_move rfl rfl) ?_
  obtain ⟨p87_26, hc, h⟩ := h
  refine Dp rfl rfl rfl rfl (V_nil rfl (by rw [← hc]; rfl)) ?_
  refine Dp rfl rfl rfl rfl (V_fld rfl Tryz.underlying198 rfl ty3 (by decide) rfl) ?_
  refine Dp rfl rfl rfl rfl (V_move rfl rfl) ?_
  obtain ⟨x80_27, hc, h⟩ := h
  refine Dr rfl rfl rfl rfl (R_ld rfl Tryz.underlying30 rfl rfl hc) ?_
  obtain ⟨x84_28, hc, h⟩ := h
  refine Dr rfl rfl rfl rfl (R_ld rfl Tryz.underlying3 rfl rfl hc) ?_
  obtain ⟨hc, h⟩ := h
  refine Dp rfl rfl rfl rfl (V_slL (lo := (some x84_28)) (hi := none) rfl Tryz.underlying30 ty5 rfl (optI_some rfl) optI_none hc) ?_
  obtain ⟨x89_29, hc, h⟩ := h
  refine Dr rfl rfl rfl rfl (R_ld rfl Tryz.underlying3 rfl rfl hc) ?_
  refine Dp rfl rfl rfl rfl (V_add rfl rfl rfl) ?_
  refine Dg rfl rfl rfl rfl (X_call rfl Tryz.func152 rfl rfl rfl (ACalls.mono h ?_))
  rintro v σ ⟨x92_30, rfl, h⟩
  obtain ⟨p93_31, hc, h⟩ := h
  refine Dp rfl rfl rfl rfl (V_nil rfl (by rw [← hc]; rfl)) ?_
  refine Dp rfl rfl rfl rfl (V_fld rfl Tryz.underlying198 rfl ty30 (by decide) rfl) ?_
  refine Dg rfl rfl rfl rfl (X_st rfl ty30 rfl rfl rfl rfl (stN_mono h fun σ h => ?_))
  refine Dend ?_
  refine thenN ?_
  exact ⟨(FrLe.cons rfl (FrLe.cons rfl (FrLe.cons rfl (FrLe.nil _)))), h⟩

def f_bytes_Buffer_Len (B : World) (ro : AH) (a0 : Option Addr) (σ : AH) (Q : Int → AH → Prop) : Prop :=
 ∃ p4_1 : Addr, a0 = some p4_1 ∧
 ∃ p9_2 : Addr, a0 = some p9_2 ∧
 ∃ (x6_3 : Sl), acell ro σ p4_1 = some (Sl.v x6_3) ∧
 ∃ (x11_4 : Int), acell ro σ (p9_2.add 1) = some (.int .i64 x11_4) ∧
 Q (IntKind.i64.wrap ((x6_3.len : Int) - x11_4)) σ

set_option maxRecDepth 100000 in
set_option maxHeartbeats 4000000 in
theorem bytes_Buffer_Len_ok {B : World} {ro : AH} {a0 : Option Addr} {σ : AH} {Q : Int → AH → Prop} (h : Sep ro σ → f_bytes_Buffer_Len B ro a0 σ Q) : c_bytes_Buffer_Len B ro a0 σ Q := by
  refine ACalls.of_sep fun hsep => ?_
  replace h := h hsep
  refine ACalls.of_body (args := [.pointer a0]) Tryz.func150 rfl (by rw [Tryz.ntmps150]; simp) ?_
  rw [Tryz.ntmps150]
  unfold f_bytes_Buffer_Len at h
  refine AW.seq ?_
  refine AW.reg ?_
  refine Lp (V_asg rfl rfl) rfl rfl ?_
  refine Lnil ?_
  refine thenN ?_
  refine AW.seq ?_
  refine AW.drawn0 (fun i => ([0, 0, 0, 3, 0, 0, 0, 0, 3, 0, 0] : List Nat).getD i 2) [] [0, 1, 2, 5, 6, 7, 3, 4, 8, 9, 10] Tryz.mixed (by decide +kernel) ?_
  refine Dp rfl rfl rfl rfl (V_move rfl rfl) ?_
  obtain ⟨p4_1, hc, h⟩ := h
  refine Dp rfl rfl rfl rfl (V_nil rfl (by rw [← hc]; rfl)) ?_
  refine Dp rfl rfl rfl rfl (V_fld rfl Tryz.underlying198 rfl ty30 (by decide) rfl) ?_
  refine Dp rfl rfl rfl rfl (V_move rfl rfl) ?_
  obtain ⟨p9_2, hc, h⟩ := h
  refine Dp rfl rfl rfl rfl (V_nil rfl (by rw [← hc]; rfl)) ?_
  refine Dp rfl rfl rfl rfl (V_fld rfl Tryz.underlying198 rfl ty3 (by decide) rfl) ?_
  obtain ⟨x6_3, hc, h⟩ := h
  refine Dr rfl rfl rfl rfl (R_ld rfl Tryz.underlying30 rfl rfl hc) ?_
  refine Dp rfl rfl rfl rfl (V_lenL rfl rfl Tryz.underlying30 rfl rfl) ?_
  obtain ⟨x11_4, hc, h⟩ := h
  refine Dr rfl rfl rfl rfl (R_ld rfl Tryz.underlying3 rfl rfl hc) ?_
  refine Dp rfl rfl rfl rfl (V_sub rfl rfl rfl) ?_
  refine Dp rfl rfl rfl rfl (V_asg rfl rfl) ?_
  refine Dend ?_
  refine thenN ?_
  refine AW.ret ?_
  exact bR1 Tryz.results150 rfl ⟨_, rfl, h⟩

end Go.Proofs.YthfpmipeejjogaaGreatDoor.G

/- The buffer of a writer: bytes are written behind others. -/
namespace Go.Proofs.YthfpmipeejjogaaGreatDoor.Wi
open Go Go.Proofs.YthfpmipeejjogaaGreatDoor.SL Go.Proofs.YthfpmipeejjogaaGreatDoor.G Go.Proofs.YthfpmipeejjogaaGreatDoor.Zt
set_option linter.unusedSimpArgs false
set_option linter.unusedVariables false
variable {B : World} {ro σ σ' : AH} {tag tag' : Nat → Nat}
theorem vU_one (d : Str) : ∀ v ∈ d.map vU, v.oneCell' = true := fun v hv => by
  obtain ⟨c, _, rfl⟩ := List.mem_map.1 hv; rfl
theorem vU_st (d : Str) : ∀ v ∈ d.map vU, storable v = true := fun v hv => by
  obtain ⟨c, _, rfl⟩ := List.mem_map.1 hv; rfl

theorem growSlice_ok {q n : Nat} {s : Sl} {l : List Value} {Q : Sl → AH → Prop} (h : Row tag σ q 5 s l) (hn : 1 ≤ n) (hl : l.length + n ≤ 140737488355328) (hc : s.cap ≤ 140737488355328) (h1 : ∀ v ∈ l, v.oneCell' = true)
    (hQ : ∀ s' tag' σ', (∀ R, Step R ro tag σ tag' σ') → Row tag' σ' q 5 s' l → l.length + n ≤ s'.cap → s'.cap ≤ 9223372036854775807 → Q s' σ') : c_bytes_growSlice B ro s (n : Int) σ Q := by
  refine ACalls.of_calls fun w hw hsep => ?_
  rcases h with ⟨rfl, rfl⟩ | ⟨b, cs, ha, htg, hbk, hln, hcp, hle, hg⟩
  · refine (Tryz.bytes_growSlice_nil n w hn (by simpa using hl)).mono ?_
    rintro e w' ⟨cap2, cells, he, hw', hsz, hroom, hmx, hb⟩
    obtain ⟨N, tag', hN, hst, hrow⟩ := new_row (tag := tag) q hw hsep (Nat.le_refl _) hw'
    exact ⟨_, N, he, hb, hN, ⟨some ⟨w.heap.size, 0, none⟩, 0, cap2⟩, rfl, hQ _ tag' _ hst (hrow 0 cap2 [] rfl hsz.symm (Nat.zero_le _) (by simp)) (by simpa using hroom) (by simpa [maxLen] using hmx)⟩
  · have hcur : w.heap[b]? = some (.cells cs 5 (0, 0)) := hw b _ (by unfold rd; rw [hsep b _ hbk]; exact hbk)
    have htake : cs.toList.take s.len = l := by
      apply List.ext_getElem?
      intro i
      rw [List.getElem?_take]
      split
      · rw [Array.getElem?_toList]; exact hg i (by omega)
      · rw [List.getElem?_eq_none (by omega)]
    have := Tryz.bytes_growSlice_row b s.len s.cap n cs w hcur hcp.symm hle hn (by rw [hln]; exact hl) hc (by rw [htake]; exact h1)
    unfold Sl.v
    rw [ha]
    refine this.mono ?_
    rintro e w' ⟨cap2, cells, he, hw', hsz, htk, hroom, hmx, hb⟩
    obtain ⟨N, tag', hN, hst, hrow⟩ := new_row (tag := tag) q hw hsep (Nat.le_refl _) hw'
    exact ⟨_, N, he, hb, hN, ⟨some ⟨w.heap.size, 0, none⟩, s.len, cap2⟩, rfl, hQ _ tag' _ hst (hrow s.len cap2 l hln hsz.symm (by omega) (by rw [htk, htake])) (by simp only; omega) (by simpa [maxLen] using hmx)⟩

/-- a buffer (and the mark behind it) at W, of the role r; its bytes lie in a row of the role r + 64 -/
def BufV (tag : Nat → Nat) (σ : AH) (r W : Nat) (s : Sl) (l : List Value) (bad : Bool) : Prop :=
  s.cap ≤ 9223372036854775807 ∧ ∃ lr : Int, Row tag σ r 202 ⟨some ⟨W, 0, none⟩, 4, 4⟩ [Sl.v s, .int .i64 0, .int .i8 lr, .bool bad] ∧ Row tag σ (r + 64) 5 s l
def BufAt (tag : Nat → Nat) (σ : AH) (r W : Nat) (acc : Str) (bad : Bool) : Prop := ∃ s, BufV tag σ r W s (acc.map vU) bad
theorem BufV.keep {R : List Nat} {r W : Nat} {s : Sl} {l : List Value} {bad : Bool} (h : BufV tag σ r W s l bad) (k : Step R ro tag σ tag' σ') (h1 : r ∉ R) (h2 : r + 64 ∉ R) : BufV tag' σ' r W s l bad := by
  obtain ⟨hc, lr, a, b⟩ := h
  exact ⟨hc, lr, a.keep k h1, b.keep k h2⟩
theorem BufAt.keep {R : List Nat} {r W : Nat} {acc : Str} {bad : Bool} (h : BufAt tag σ r W acc bad) (k : Step R ro tag σ tag' σ') (h1 : r ∉ R) (h2 : r + 64 ∉ R) : BufAt tag' σ' r W acc bad := by
  obtain ⟨s, h⟩ := h
  exact ⟨s, h.keep k h1 h2⟩

set_option maxRecDepth 100000 in
theorem tryGrow_ok {r W n : Nat} {s : Sl} {l : List Value} {bad : Bool} {Q : Int → Bool → AH → Prop} (h : BufV tag σ r W s l bad) (hs : SL.Sep ro σ) (hl : l.length + n ≤ 140737488355328)
    (hyes : l.length + n ≤ s.cap → ∀ s' xs σ', Step [r] ro tag σ tag σ' → xs.length = n → BufV tag σ' r W s' (l ++ xs) bad → Q l.length true σ') (hno : s.cap < l.length + n → Q 0 false σ) :
    c_bytes_Buffer_tryGrowByReslice B ro (some ⟨W, 0, none⟩) (n : Int) σ Q := by
  refine bytes_Buffer_tryGrowByReslice_ok fun _ => ?_
  unfold f_bytes_Buffer_tryGrowByReslice
  obtain ⟨hcap, lr, h1, h2⟩ := h
  obtain ⟨p, hp, hg⟩ := h1.ptr hs (by simp)
  cases hp
  have hln := h2.len
  have hc := h2.capAt
  refine ⟨_, rfl, s, hg 0 _ rfl, _, rfl, s, hg 0 _ rfl, ?_⟩
  refine awp_cap u30 ⟨_, rfl, ?_⟩
  rw [w64_eq (by omega) (by omega)]
  by_cases hroom : l.length + n ≤ s.cap
  · rw [if_pos (by omega)]
    have e : (⟨cutA s.a 0 s.cap 1, Int.toNat (IntKind.i64.wrap ((s.len : Int) + (n : Int))) - 0, s.cap - 0⟩ : Sl) = ⟨s.a, l.length + n, s.cap⟩ := by
      rw [cutA_zero, hln, w64_eq (by omega) (by omega)]
      simp only [Nat.sub_zero, Sl.mk.injEq, true_and, and_true]; omega
    refine ⟨_, rfl, s, hg 0 _ rfl, ⟨?_, trivial⟩, _, rfl, ?_⟩
    · simp only
      rw [w64_eq (by omega) (by omega)]; omega
    rw [e, hln]
    refine h1.st (i := 0) hs rfl (by simp) rfl fun σ2 st2 r2 => ?_
    obtain ⟨xs, hx, h3⟩ := h2.more hroom
    exact hyes hroom ⟨s.a, l.length + n, s.cap⟩ xs σ2 st2 hx ⟨hcap, lr, r2, h3.keep st2 (by simp)⟩
  · rw [if_neg (by omega)]
    exact hno (by omega)

set_option maxRecDepth 100000 in
theorem grow_ok {r W n : Nat} {s : Sl} {l : List Value} {bad : Bool} {Q : Int → AH → Prop} (h : BufV tag σ r W s l bad) (hs : SL.Sep ro σ) (hl : l.length + n ≤ 140737488355328) (hfull : s.cap < l.length + n) (h1c : ∀ v ∈ l, v.oneCell' = true)
    (hQ : ∀ s' xs tag' σ', Step [r, r + 64] ro tag σ tag' σ' → xs.length = n → BufV tag' σ' r W s' (l ++ xs) bad → Q l.length σ') :
    c_bytes_Buffer_grow B ro (some ⟨W, 0, none⟩) (n : Int) σ Q := by
  refine bytes_Buffer_grow_ok fun _ => ?_
  unfold f_bytes_Buffer_grow
  obtain ⟨hcap, lr, h1, h2⟩ := id h
  obtain ⟨p, hp, hg⟩ := h1.ptr hs (by simp)
  cases hp
  have hln := h2.len
  have hc := h2.capAt
  refine bytes_Buffer_Len_ok fun _ => ?_
  unfold f_bytes_Buffer_Len
  refine ⟨_, rfl, _, rfl, s, hg 0 _ rfl, 0, hg 1 _ rfl, ?_⟩
  rw [Int.sub_zero, w64_eq (by omega) (by omega), hln]
  dsimp only
  suffices hj : j2_bytes_Buffer_grow B ro (some ⟨W, 0, none⟩) (n : Int) (l.length : Int) Q σ by
    by_cases h0 : (l.length : Int) = 0
    · rw [if_pos h0]
      refine ⟨_, rfl, 0, hg 1 _ rfl, ?_⟩
      unfold j32_bytes_Buffer_grow
      rw [if_neg (by decide)]
      exact hj
    · rw [if_neg h0]
      unfold j32_bytes_Buffer_grow
      rw [if_neg (by decide)]
      exact hj
  unfold j2_bytes_Buffer_grow
  refine tryGrow_ok h hs hl (fun hroom => absurd hroom (by omega)) fun _ => ?_
  rw [if_neg (by decide)]
  refine ⟨_, rfl, s, hg 0 _ rfl, ?_⟩
  by_cases hsmall : s.a = none ∧ (n : Int) ≤ 64
  · rw [if_pos hsmall]
    have hnil : s = ⟨none, 0, 0⟩ ∧ l = [] := by
      rcases h2 with h | ⟨b, cs, ha, _⟩
      · exact h
      · rw [hsmall.1] at ha; cases ha
    obtain ⟨rfl, rfl⟩ := hnil
    have hn64 := hsmall.2
    refine ⟨⟨by omega, hn64, by decide, by decide⟩, ?_⟩
    refine nw_row (tag := tag) (r + 64) (zv := .int .u8 0) (n := 64) hs rfl fun x tag1 σ1 st1 r1 => ?_
    refine ⟨_, rfl, ?_⟩
    have r1' : Row tag1 σ1 (r + 64) 5 ⟨some ⟨x, 0, none⟩, n, 64⟩ ([] ++ (List.replicate 64 (Value.int .u8 0)).take n) := r1.take (n := n) (by simp; omega)
    have hx64 : (64 : Nat) ≤ 9223372036854775807 := by decide
    rw [Int.toNat_natCast]
    refine (h1.keep (st1 []) (by simp)).st (i := 0) (st1 []).sep rfl (by simp) rfl fun σ2 st2 r2 => ?_
    refine hQ ⟨some ⟨x, 0, none⟩, n, 64⟩ ((List.replicate 64 (Value.int .u8 0)).take n) tag1 σ2 (((st1 _).trans (st2.mono (by simp)))) (by simp; omega) ⟨hx64, lr, r2, r1'.keep st2 (by simp)⟩
  · rw [if_neg hsmall]
    refine ⟨_, rfl, s, hg 0 _ rfl, ?_⟩
    refine awp_cap u30 ⟨_, rfl, ?_⟩
    have hd : Int.tdiv (s.cap : Int) 2 = ((s.cap / 2 : Nat) : Int) := by
      rw [Int.tdiv_eq_ediv_of_nonneg (by omega)]; omega
    rw [hd, w64_eq (n := ((s.cap / 2 : Nat) : Int)) (by omega) (by omega), w64_eq (n := ((s.cap / 2 : Nat) : Int) - (l.length : Int)) (by omega) (by omega), if_neg (by omega), w64_eq (n := 9223372036854775807 - (s.cap : Int)) (by omega) (by omega), w64_eq (n := 9223372036854775807 - (s.cap : Int) - (n : Int)) (by omega) (by omega), if_neg (by omega)]
    refine ⟨_, rfl, _, rfl, _, rfl, s, hg 0 _ rfl, 0, hg 1 _ rfl, ?_, 0, hg 1 _ rfl, ?_⟩
    · exact ⟨trivial, by decide, by simp only [cutHi]; omega⟩
    rw [Int.zero_add, w64_eq (by omega) (by omega), show (⟨cutA s.a (Int.toNat 0) s.cap 1, s.len - Int.toNat 0, s.cap - Int.toNat 0⟩ : Sl) = s from by rw [show Int.toNat 0 = 0 from rfl, cutA_zero]; rfl]
    refine growSlice_ok h2 (by omega) hl (by omega) h1c fun s1 tag1 σ1 st1 r1 hc1 hc2 => ?_
    refine ⟨_, rfl, ?_⟩
    refine (h1.keep (st1 []) (by simp)).st (i := 0) (st1 []).sep rfl (by simp) rfl fun σ2 st2 r2 => ?_
    unfold j12_bytes_Buffer_grow
    refine ⟨_, rfl, ?_⟩
    refine r2.st (i := 1) st2.sep rfl (by simp) rfl fun σ3 st3 r3 => ?_
    obtain ⟨p3, hp3, hg3⟩ := r3.ptr st3.sep (by simp)
    cases hp3
    have e : (⟨cutA s1.a 0 s1.cap 1, Int.toNat (IntKind.i64.wrap ((l.length : Int) + (n : Int))) - 0, s1.cap - 0⟩ : Sl) = ⟨s1.a, l.length + n, s1.cap⟩ := by
      rw [cutA_zero, w64_eq (by omega) (by omega)]
      simp only [Nat.sub_zero, Sl.mk.injEq, true_and, and_true]; omega
    refine ⟨_, rfl, s1, hg3 0 _ rfl, ⟨?_, trivial⟩, _, rfl, ?_⟩
    · simp only
      rw [w64_eq (by omega) (by omega)]; omega
    rw [e]
    refine r3.st (i := 0) st3.sep rfl (by simp) rfl fun σ4 st4 r4 => ?_
    obtain ⟨xs, hx, r5⟩ := r1.more (n := n) hc1
    refine hQ ⟨s1.a, l.length + n, s1.cap⟩ xs tag1 σ4 ((st1 _).trans ((st2.mono (by simp)).trans ((st3.mono (by simp)).trans (st4.mono (by simp))))) hx ⟨hc2, lr, r4, ((r5.keep st2 (by simp)).keep st3 (by simp)).keep st4 (by simp)⟩

theorem ty5' : TyIs Tryz.prog 5 (.int .u8 0) 1 1 := TyIs.of (by kernel_rfl)
set_option maxRecDepth 100000 in
/-- the end of a write: the copy -/
theorem bufCopy {r W : Nat} {s : Sl} {acc d : Str} {xs : List Value} {bad : Bool} {x : Value} {t2 : TypeId} {Q : Int → AH → Prop} (h : BufV tag σ r W s (acc.map vU ++ xs) bad) (hs : SL.Sep ro σ) (hx : xs.length = d.length) (hsrc : Src Tryz.prog ro σ x (d.map vU))
    (hQ : ∀ n σ', Step [r + 64] ro tag σ tag σ' → BufAt tag σ' r W (acc ++ d) bad → Q n σ') :
    ∃ p25_6 : Addr, (some ⟨W, 0, none⟩ : Option Addr) = some p25_6 ∧ ∃ (x27_7 : Sl), acell ro σ p25_6 = some (Sl.v x27_7) ∧ cutOk (some (acc.length : Int)) none x27_7.len x27_7.cap ∧
      awp Tryz.prog ro (Builtin.copy_ #[30, t2] 3 #[Sl.v (⟨cutA x27_7.a (Int.toNat (acc.length : Int)) x27_7.cap 1, x27_7.len - Int.toNat (acc.length : Int), x27_7.cap - Int.toNat (acc.length : Int)⟩ : Sl), x]) (fun v σ => ∃ (x31_8 : Int), v = .int .i64 x31_8 ∧ Q x31_8 σ) σ := by
  obtain ⟨hcap, lr, h1, h2⟩ := h
  obtain ⟨p, hp, hg⟩ := h1.ptr hs (by simp)
  cases hp
  have hln := h2.len
  simp only [List.length_append, List.length_map] at hln
  refine ⟨_, rfl, s, hg 0 _ rfl, ⟨trivial, by omega, by simp only [cutHi]; omega⟩, ?_⟩
  rw [Int.toNat_natCast]
  refine awp_copyTail h2 hs u30 ty5' hsrc (by simp; omega) (vU_st d) fun σ1 st1 r1 => ?_
  refine ⟨_, rfl, hQ _ σ1 st1 ⟨s, hcap, lr, h1.keep st1 (by simp), ?_⟩⟩
  rw [List.take_left' (by simp)] at r1
  rw [List.map_append]; exact r1
set_option maxRecDepth 100000 in
theorem bufWrite_ok {r W : Nat} {acc d : Str} {s : Sl} {bad : Bool} {Q : Int → Value → AH → Prop} (h : BufAt tag σ r W acc bad) (hs : SL.Sep ro σ) (hl : acc.length + d.length ≤ 140737488355328) (hd : s.len = d.length)
    (hsrc : ∀ tag' σ', Step [r, r + 64] ro tag σ tag' σ' → SL.Read ro σ' s (d.map vU)) (hQ : ∀ n v tag' σ', Step [r, r + 64] ro tag σ tag' σ' → BufAt tag' σ' r W (acc ++ d) bad → Q n v σ') :
    c_bytes_Buffer_Write B ro (some ⟨W, 0, none⟩) s σ Q := by
  refine bytes_Buffer_Write_ok fun _ => ?_
  unfold f_bytes_Buffer_Write
  obtain ⟨s0, hcap, lr, h1, h2⟩ := h
  refine ⟨_, rfl, ?_⟩
  refine h1.st (i := 2) hs rfl (by simp) rfl fun σ1 st1 r1 => ?_
  have hb : BufV tag σ1 r W s0 (acc.map vU) bad := ⟨hcap, 0, r1, h2.keep st1 (by simp)⟩
  rw [hd]
  refine tryGrow_ok hb st1.sep (by simpa using hl) (fun hroom s2 xs σ2 st2 hx hb2 => ?_) fun hno => ?_
  · rw [if_neg (by simp)]
    unfold j4_bytes_Buffer_Write
    have st12 : Step [r, r + 64] ro tag σ tag σ2 := (st1.mono (by simp)).trans (st2.mono (by simp))
    rw [List.length_map]
    exact bufCopy (t2 := 30) (Q := fun n σ => Q n .nilIface σ) hb2 st2.sep hx (hsrc _ _ st12).src fun n σ3 st3 h3 => hQ n _ tag σ3 (st12.trans (st3.mono (by simp))) h3
  · rw [if_pos (by simp)]
    refine grow_ok hb st1.sep (by simpa using hl) hno (vU_one acc) fun s2 xs tag2 σ2 st2 hx hb2 => ?_
    unfold j4_bytes_Buffer_Write
    have st12 : Step [r, r + 64] ro tag σ tag2 σ2 := (st1.mono (by simp)).trans st2
    rw [List.length_map]
    exact bufCopy (t2 := 30) (Q := fun n σ => Q n .nilIface σ) hb2 st2.sep hx (hsrc _ _ st12).src fun n σ3 st3 h3 => hQ n _ tag2 σ3 (st12.trans (st3.mono (by simp))) h3
set_option maxRecDepth 100000 in
theorem bufWriteStr_ok {r W : Nat} {acc : Str} {b : ByteArray} {bad : Bool} {Q : Int → Value → AH → Prop} (h : BufAt tag σ r W acc bad) (hs : SL.Sep ro σ) (hl : acc.length + (L b).length ≤ 140737488355328)
    (hQ : ∀ n v tag' σ', Step [r, r + 64] ro tag σ tag' σ' → BufAt tag' σ' r W (acc ++ L b) bad → Q n v σ') :
    c_bytes_Buffer_WriteString B ro (some ⟨W, 0, none⟩) b σ Q := by
  refine bytes_Buffer_WriteString_ok fun _ => ?_
  unfold f_bytes_Buffer_WriteString
  obtain ⟨s0, hcap, lr, h1, h2⟩ := h
  refine ⟨_, rfl, ?_⟩
  refine h1.st (i := 2) hs rfl (by simp) rfl fun σ1 st1 r1 => ?_
  have hb : BufV tag σ1 r W s0 (acc.map vU) bad := ⟨hcap, 0, r1, h2.keep st1 (by simp)⟩
  rw [show (b.size : Int) = ((L b).length : Nat) from rfl]
  refine tryGrow_ok hb st1.sep (by simpa using hl) (fun hroom s2 xs σ2 st2 hx hb2 => ?_) fun hno => ?_
  · rw [if_neg (by simp)]
    unfold j4_bytes_Buffer_WriteString
    have st12 : Step [r, r + 64] ro tag σ tag σ2 := (st1.mono (by simp)).trans (st2.mono (by simp))
    rw [List.length_map]
    exact bufCopy (t2 := 9) (Q := fun n σ => Q n .nilIface σ) hb2 st2.sep hx (str_src b) fun n σ3 st3 h3 => hQ n _ tag σ3 (st12.trans (st3.mono (by simp))) h3
  · rw [if_pos (by simp)]
    refine grow_ok hb st1.sep (by simpa using hl) hno (vU_one acc) fun s2 xs tag2 σ2 st2 hx hb2 => ?_
    unfold j4_bytes_Buffer_WriteString
    have st12 : Step [r, r + 64] ro tag σ tag2 σ2 := (st1.mono (by simp)).trans st2
    rw [List.length_map]
    exact bufCopy (t2 := 9) (Q := fun n σ => Q n .nilIface σ) hb2 st2.sep hx (str_src b) fun n σ3 st3 h3 => hQ n _ tag2 σ3 (st12.trans (st3.mono (by simp))) h3
end Go.Proofs.YthfpmipeejjogaaGreatDoor.Wi
